import Derived.Test.YtidiihhfpbnbaaaDoorProg
import Derived.Test.YtidiihhfpbnbaaaDoorCqUtf
import Derived.Test.YtidiihhfpbnbaaaDoorCqDefs
import Derived.KernelRfl
import Derived.Calls
import Derived.Shelf.Lay
set_option linter.unusedVariables false
namespace Go.Proofs.Cq
open Go Go.Awp Go.Proofs
theorem ag25 : AggT Tryd.prog 25 3 := .mk2 (by kernel_rfl) (by kernel_rfl)
theorem ag27 : AggT Tryd.prog 27 12 := .mk2 (by kernel_rfl) (by kernel_rfl)
theorem ag29 : AggT Tryd.prog 29 18 := .mk2 (by kernel_rfl) (by kernel_rfl)
theorem ag33 : AggT Tryd.prog 33 9 := .mk2 (by kernel_rfl) (by kernel_rfl)
theorem ag35 : AggT Tryd.prog 35 36 := .mk2 (by kernel_rfl) (by kernel_rfl)
theorem ag41 : AggT Tryd.prog 41 24 := .mk2 (by kernel_rfl) (by kernel_rfl)
theorem ag46 : AggT Tryd.prog 46 18 := .mk2 (by kernel_rfl) (by kernel_rfl)
theorem ag57 : AggT Tryd.prog 57 2 := .mk2 (by kernel_rfl) (by kernel_rfl)
theorem ag59 : AggT Tryd.prog 59 5 := .mk2 (by kernel_rfl) (by kernel_rfl)
def zc27 : List V := [.d (.s (.int .i64 0)), .d (.s (.int .i64 0)), .d (.s (.int .i64 0)), .d (.s (.string (⟨#[]⟩ : ByteArray))), .d (.s (.string (⟨#[]⟩ : ByteArray))), .d (.s (.bool false)), .d (.s (.string (⟨#[]⟩ : ByteArray))), .d (.s (.int .i64 0)), .d (.s (.int .i64 0)), .d (.s (.int .i64 0)), .d (.s (.string (⟨#[]⟩ : ByteArray))), .d (.s (.int .i64 0))]
def zc29 : List V := [.d (.s (.int .i64 0)), .d (.s (.int .i64 0)), .d (.sl 5 (([] : List Place).map ePlace)), .d (.sl 1 (([] : List Int).map (eI .i64))), .d (.s (.int .i64 0)), .d (.s (.int .i64 0)), .d (.s (.int .i64 0)), .d (.s (.string (⟨#[]⟩ : ByteArray))), .d (.s (.string (⟨#[]⟩ : ByteArray))), .d (.s (.bool false)), .d (.s (.string (⟨#[]⟩ : ByteArray))), .d (.s (.int .i64 0)), .d (.s (.int .i64 0)), .d (.s (.int .i64 0)), .d (.s (.string (⟨#[]⟩ : ByteArray))), .d (.s (.int .i64 0)), .d (.s (.bool false)), .d (.s (.int .i64 0))]
def zc33 : List V := [.d (.s (.int .i64 0)), .d (.s (.int .i64 0)), .d (.s (.int .i64 0)), .d (.s (.int .i64 0)), .d (.s (.bool false)), .d (.s (.string (⟨#[]⟩ : ByteArray))), .d (.sl 2 (([] : List Item).map eItem)), .d (.s (.string (⟨#[]⟩ : ByteArray))), .d (.s (.bool false))]
def zc35 : List V := [.d (.s (.int .i64 0)), .d (.s (.int .i64 0)), .d (.s (.int .i64 0)), .d (.s (.int .i64 0)), .d (.s (.int .i64 0)), .d (.s (.int .i64 0)), .d (.s (.int .i64 0)), .d (.s (.int .i64 0)), .d (.s (.int .i64 0)), .d (.s (.int .i64 0)), .d (.s (.int .i64 0)), .d (.s (.int .i64 0)), .d (.s (.string (⟨#[]⟩ : ByteArray))), .d (.s (.int .i64 0)), .d (.s (.int .i64 0)), .d (.s (.int .i64 0)), .d (.s (.string (⟨#[]⟩ : ByteArray))), .d (.s (.string (⟨#[]⟩ : ByteArray))), .d (.s (.bool false)), .d (.s (.string (⟨#[]⟩ : ByteArray))), .d (.s (.int .i64 0)), .d (.s (.int .i64 0)), .d (.s (.int .i64 0)), .d (.s (.string (⟨#[]⟩ : ByteArray))), .d (.s (.int .i64 0)), .d (.s (.int .i64 0)), .d (.s (.int .i64 0)), .d (.s (.int .i64 0)), .d (.s (.int .i64 0)), .d (.s (.bool false)), .d (.s (.string (⟨#[]⟩ : ByteArray))), .d (.sl 2 (([] : List Item).map eItem)), .d (.s (.string (⟨#[]⟩ : ByteArray))), .d (.s (.bool false)), .d (.sl 5 (([] : List Place).map ePlace)), .d (.sl 1 (([] : List Int).map (eI .i64)))]
def zc41 : List V := [.d (.s (.bool false)), .d (.s (.int .i64 0)), .d (.s (.int .i64 0)), .d (.s (.int .i64 0)), .d (.s (.string (⟨#[]⟩ : ByteArray))), .d (.s (.string (⟨#[]⟩ : ByteArray))), .d (.s (.bool false)), .d (.s (.string (⟨#[]⟩ : ByteArray))), .d (.s (.int .i64 0)), .d (.s (.int .i64 0)), .d (.s (.int .i64 0)), .d (.s (.string (⟨#[]⟩ : ByteArray))), .d (.s (.int .i64 0)), .d (.s (.bool false)), .d (.s (.int .i64 0)), .d (.s (.int .i64 0)), .d (.s (.int .i64 0)), .d (.s (.int .i64 0)), .d (.s (.bool false)), .d (.s (.string (⟨#[]⟩ : ByteArray))), .d (.sl 2 (([] : List Item).map eItem)), .d (.s (.string (⟨#[]⟩ : ByteArray))), .d (.s (.bool false)), .d (.s (.int .i64 0))]
def zc46 : List V := [.d (.s (.int .i64 0)), .d (.s (.int .i64 0)), .d (.sl 5 (([] : List Place).map ePlace)), .d (.sl 1 (([] : List Int).map (eI .i64))), .d (.s (.int .i64 0)), .d (.s (.int .i64 0)), .d (.s (.int .i64 0)), .d (.s (.string (⟨#[]⟩ : ByteArray))), .d (.s (.string (⟨#[]⟩ : ByteArray))), .d (.s (.bool false)), .d (.s (.string (⟨#[]⟩ : ByteArray))), .d (.s (.int .i64 0)), .d (.s (.int .i64 0)), .d (.s (.int .i64 0)), .d (.s (.string (⟨#[]⟩ : ByteArray))), .d (.s (.int .i64 0)), .d (.s (.bool false)), .d (.s (.int .i64 0))]
def zc57 : List V := [.d (.s (.string (⟨#[]⟩ : ByteArray))), .d (.s (.string (⟨#[]⟩ : ByteArray)))]
def zc59 : List V := [.d (.s (.string (⟨#[]⟩ : ByteArray))), .d (.s (.string (⟨#[]⟩ : ByteArray))), .d (.s (.int .i64 0)), .d (.s (.int .i64 0)), .d (.s (.int .i64 0))]
def zv27 : Value := (.agg #[.int .i64 0, .int .i64 0, .int .i64 0, .string ⟨#[]⟩, .string ⟨#[]⟩, .bool false, .string ⟨#[]⟩, .int .i64 0, .int .i64 0, .int .i64 0, .string ⟨#[]⟩, .int .i64 0])
def zv29 : Value := (.agg #[.int .i64 0, .int .i64 0, .slice none 0 0, .slice none 0 0, .int .i64 0, .int .i64 0, .int .i64 0, .string ⟨#[]⟩, .string ⟨#[]⟩, .bool false, .string ⟨#[]⟩, .int .i64 0, .int .i64 0, .int .i64 0, .string ⟨#[]⟩, .int .i64 0, .bool false, .int .i64 0])
def zv33 : Value := (.agg #[.int .i64 0, .int .i64 0, .int .i64 0, .int .i64 0, .bool false, .string ⟨#[]⟩, .slice none 0 0, .string ⟨#[]⟩, .bool false])
def zv35 : Value := (.agg #[.int .i64 0, .int .i64 0, .int .i64 0, .int .i64 0, .int .i64 0, .int .i64 0, .int .i64 0, .int .i64 0, .int .i64 0, .int .i64 0, .int .i64 0, .int .i64 0, .string ⟨#[]⟩, .int .i64 0, .int .i64 0, .int .i64 0, .string ⟨#[]⟩, .string ⟨#[]⟩, .bool false, .string ⟨#[]⟩, .int .i64 0, .int .i64 0, .int .i64 0, .string ⟨#[]⟩, .int .i64 0, .int .i64 0, .int .i64 0, .int .i64 0, .int .i64 0, .bool false, .string ⟨#[]⟩, .slice none 0 0, .string ⟨#[]⟩, .bool false, .slice none 0 0, .slice none 0 0])
def zv41 : Value := (.agg #[.bool false, .int .i64 0, .int .i64 0, .int .i64 0, .string ⟨#[]⟩, .string ⟨#[]⟩, .bool false, .string ⟨#[]⟩, .int .i64 0, .int .i64 0, .int .i64 0, .string ⟨#[]⟩, .int .i64 0, .bool false, .int .i64 0, .int .i64 0, .int .i64 0, .int .i64 0, .bool false, .string ⟨#[]⟩, .slice none 0 0, .string ⟨#[]⟩, .bool false, .int .i64 0])
def zv46 : Value := (.agg #[.int .i64 0, .int .i64 0, .slice none 0 0, .slice none 0 0, .int .i64 0, .int .i64 0, .int .i64 0, .string ⟨#[]⟩, .string ⟨#[]⟩, .bool false, .string ⟨#[]⟩, .int .i64 0, .int .i64 0, .int .i64 0, .string ⟨#[]⟩, .int .i64 0, .bool false, .int .i64 0])
def zv57 : Value := (.agg #[.string ⟨#[]⟩, .string ⟨#[]⟩])
def zv59 : Value := (.agg #[.string ⟨#[]⟩, .string ⟨#[]⟩, .int .i64 0, .int .i64 0, .int .i64 0])
theorem eg27 : Tryd.prog.eqGuardType Tryd.prog.depth 27 = false := by kernel_rfl
theorem eg59 : Tryd.prog.eqGuardType Tryd.prog.depth 59 = false := by kernel_rfl
theorem elT3 : ElemT Tryd.prog 3 1 8 := .mk' (z := (.int .i64 0)) (by kernel_rfl) rfl (ble _ _ rfl)
theorem elT57 : ElemT Tryd.prog 57 2 32 := .mk' (z := (.agg #[.string ⟨#[]⟩, .string ⟨#[]⟩])) (by kernel_rfl) rfl (ble _ _ rfl)
theorem elT59 : ElemT Tryd.prog 59 5 56 := .mk' (z := (.agg #[.string ⟨#[]⟩, .string ⟨#[]⟩, .int .i64 0, .int .i64 0, .int .i64 0])) (by kernel_rfl) rfl (ble _ _ rfl)
theorem en4 : ∀ args w, (callFunc 4 args).run Tryd.prog w = .ok (.enter 4 args) w := enters_of Tryd.func4 (by kernel_rfl) rfl
theorem en5 : ∀ args w, (callFunc 5 args).run Tryd.prog w = .ok (.enter 5 args) w := enters_of Tryd.func5 (by kernel_rfl) rfl
theorem en6 : ∀ args w, (callFunc 6 args).run Tryd.prog w = .ok (.enter 6 args) w := enters_of Tryd.func6 (by kernel_rfl) rfl
theorem en7 : ∀ args w, (callFunc 7 args).run Tryd.prog w = .ok (.enter 7 args) w := enters_of Tryd.func7 (by kernel_rfl) rfl
theorem en8 : ∀ args w, (callFunc 8 args).run Tryd.prog w = .ok (.enter 8 args) w := enters_of Tryd.func8 (by kernel_rfl) rfl
theorem en9 : ∀ args w, (callFunc 9 args).run Tryd.prog w = .ok (.enter 9 args) w := enters_of Tryd.func9 (by kernel_rfl) rfl
theorem en10 : ∀ args w, (callFunc 10 args).run Tryd.prog w = .ok (.enter 10 args) w := enters_of Tryd.func10 (by kernel_rfl) rfl
theorem en11 : ∀ args w, (callFunc 11 args).run Tryd.prog w = .ok (.enter 11 args) w := enters_of Tryd.func11 (by kernel_rfl) rfl
theorem en12 : ∀ args w, (callFunc 12 args).run Tryd.prog w = .ok (.enter 12 args) w := enters_of Tryd.func12 (by kernel_rfl) rfl
theorem en13 : ∀ args w, (callFunc 13 args).run Tryd.prog w = .ok (.enter 13 args) w := enters_of Tryd.func13 (by kernel_rfl) rfl
theorem en14 : ∀ args w, (callFunc 14 args).run Tryd.prog w = .ok (.enter 14 args) w := enters_of Tryd.func14 (by kernel_rfl) rfl
theorem en15 : ∀ args w, (callFunc 15 args).run Tryd.prog w = .ok (.enter 15 args) w := enters_of Tryd.func15 (by kernel_rfl) rfl
theorem en16 : ∀ args w, (callFunc 16 args).run Tryd.prog w = .ok (.enter 16 args) w := enters_of Tryd.func16 (by kernel_rfl) rfl
theorem en17 : ∀ args w, (callFunc 17 args).run Tryd.prog w = .ok (.enter 17 args) w := enters_of Tryd.func17 (by kernel_rfl) rfl
theorem en18 : ∀ args w, (callFunc 18 args).run Tryd.prog w = .ok (.enter 18 args) w := enters_of Tryd.func18 (by kernel_rfl) rfl
theorem en19 : ∀ args w, (callFunc 19 args).run Tryd.prog w = .ok (.enter 19 args) w := enters_of Tryd.func19 (by kernel_rfl) rfl
theorem en20 : ∀ args w, (callFunc 20 args).run Tryd.prog w = .ok (.enter 20 args) w := enters_of Tryd.func20 (by kernel_rfl) rfl
theorem en21 : ∀ args w, (callFunc 21 args).run Tryd.prog w = .ok (.enter 21 args) w := enters_of Tryd.func21 (by kernel_rfl) rfl
theorem en22 : ∀ args w, (callFunc 22 args).run Tryd.prog w = .ok (.enter 22 args) w := enters_of Tryd.func22 (by kernel_rfl) rfl
theorem en23 : ∀ args w, (callFunc 23 args).run Tryd.prog w = .ok (.enter 23 args) w := enters_of Tryd.func23 (by kernel_rfl) rfl
theorem en24 : ∀ args w, (callFunc 24 args).run Tryd.prog w = .ok (.enter 24 args) w := enters_of Tryd.func24 (by kernel_rfl) rfl
theorem en25 : ∀ args w, (callFunc 25 args).run Tryd.prog w = .ok (.enter 25 args) w := enters_of Tryd.func25 (by kernel_rfl) rfl
theorem en26 : ∀ args w, (callFunc 26 args).run Tryd.prog w = .ok (.enter 26 args) w := enters_of Tryd.func26 (by kernel_rfl) rfl
theorem en27 : ∀ args w, (callFunc 27 args).run Tryd.prog w = .ok (.enter 27 args) w := enters_of Tryd.func27 (by kernel_rfl) rfl
theorem en28 : ∀ args w, (callFunc 28 args).run Tryd.prog w = .ok (.enter 28 args) w := enters_of Tryd.func28 (by kernel_rfl) rfl
theorem en29 : ∀ args w, (callFunc 29 args).run Tryd.prog w = .ok (.enter 29 args) w := enters_of Tryd.func29 (by kernel_rfl) rfl
theorem en30 : ∀ args w, (callFunc 30 args).run Tryd.prog w = .ok (.enter 30 args) w := enters_of Tryd.func30 (by kernel_rfl) rfl
theorem en31 : ∀ args w, (callFunc 31 args).run Tryd.prog w = .ok (.enter 31 args) w := enters_of Tryd.func31 (by kernel_rfl) rfl
theorem en32 : ∀ args w, (callFunc 32 args).run Tryd.prog w = .ok (.enter 32 args) w := enters_of Tryd.func32 (by kernel_rfl) rfl
theorem en33 : ∀ args w, (callFunc 33 args).run Tryd.prog w = .ok (.enter 33 args) w := enters_of Tryd.func33 (by kernel_rfl) rfl
theorem en34 : ∀ args w, (callFunc 34 args).run Tryd.prog w = .ok (.enter 34 args) w := enters_of Tryd.func34 (by kernel_rfl) rfl
theorem en35 : ∀ args w, (callFunc 35 args).run Tryd.prog w = .ok (.enter 35 args) w := enters_of Tryd.func35 (by kernel_rfl) rfl
theorem en36 : ∀ args w, (callFunc 36 args).run Tryd.prog w = .ok (.enter 36 args) w := enters_of Tryd.func36 (by kernel_rfl) rfl
theorem en37 : ∀ args w, (callFunc 37 args).run Tryd.prog w = .ok (.enter 37 args) w := enters_of Tryd.func37 (by kernel_rfl) rfl
theorem en38 : ∀ args w, (callFunc 38 args).run Tryd.prog w = .ok (.enter 38 args) w := enters_of Tryd.func38 (by kernel_rfl) rfl
theorem en39 : ∀ args w, (callFunc 39 args).run Tryd.prog w = .ok (.enter 39 args) w := enters_of Tryd.func39 (by kernel_rfl) rfl
theorem en40 : ∀ args w, (callFunc 40 args).run Tryd.prog w = .ok (.enter 40 args) w := enters_of Tryd.func40 (by kernel_rfl) rfl
theorem en41 : ∀ args w, (callFunc 41 args).run Tryd.prog w = .ok (.enter 41 args) w := enters_of Tryd.func41 (by kernel_rfl) rfl
theorem en42 : ∀ args w, (callFunc 42 args).run Tryd.prog w = .ok (.enter 42 args) w := enters_of Tryd.func42 (by kernel_rfl) rfl
theorem en43 : ∀ args w, (callFunc 43 args).run Tryd.prog w = .ok (.enter 43 args) w := enters_of Tryd.func43 (by kernel_rfl) rfl
theorem en44 : ∀ args w, (callFunc 44 args).run Tryd.prog w = .ok (.enter 44 args) w := enters_of Tryd.func44 (by kernel_rfl) rfl
theorem en45 : ∀ args w, (callFunc 45 args).run Tryd.prog w = .ok (.enter 45 args) w := enters_of Tryd.func45 (by kernel_rfl) rfl
theorem en46 : ∀ args w, (callFunc 46 args).run Tryd.prog w = .ok (.enter 46 args) w := enters_of Tryd.func46 (by kernel_rfl) rfl
theorem en47 : ∀ args w, (callFunc 47 args).run Tryd.prog w = .ok (.enter 47 args) w := enters_of Tryd.func47 (by kernel_rfl) rfl
theorem eq27 (a b : Request) : eqP Tryd.prog 9 27 (.agg (vRequest a).toArray) (.agg (vRequest b).toArray) = some (qRequest a b) := by kernel_rfl
theorem eq59 (a b : Place) : eqP Tryd.prog 9 59 (.agg (vPlace a).toArray) (.agg (vPlace b).toArray) = some (qPlace a b) := by kernel_rfl
theorem fo25_0 : ∀ w a, (Instr.fieldAt 25 (.pointer (some a)) 0).run Tryd.prog w = .ok (.pointer (some (a.add 0))) w := field_of (by kernel_rfl)
theorem fo25_1 : ∀ w a, (Instr.fieldAt 25 (.pointer (some a)) 1).run Tryd.prog w = .ok (.pointer (some (a.add 1))) w := field_of (by kernel_rfl)
theorem fo25_2 : ∀ w a, (Instr.fieldAt 25 (.pointer (some a)) 2).run Tryd.prog w = .ok (.pointer (some (a.add 2))) w := field_of (by kernel_rfl)
theorem fo27_0 : ∀ w a, (Instr.fieldAt 27 (.pointer (some a)) 0).run Tryd.prog w = .ok (.pointer (some (a.add 0))) w := field_of (by kernel_rfl)
theorem fo27_1 : ∀ w a, (Instr.fieldAt 27 (.pointer (some a)) 1).run Tryd.prog w = .ok (.pointer (some (a.add 1))) w := field_of (by kernel_rfl)
theorem fo27_2 : ∀ w a, (Instr.fieldAt 27 (.pointer (some a)) 2).run Tryd.prog w = .ok (.pointer (some (a.add 2))) w := field_of (by kernel_rfl)
theorem fo27_3 : ∀ w a, (Instr.fieldAt 27 (.pointer (some a)) 3).run Tryd.prog w = .ok (.pointer (some (a.add 3))) w := field_of (by kernel_rfl)
theorem fo27_4 : ∀ w a, (Instr.fieldAt 27 (.pointer (some a)) 4).run Tryd.prog w = .ok (.pointer (some (a.add 4))) w := field_of (by kernel_rfl)
theorem fo27_6 : ∀ w a, (Instr.fieldAt 27 (.pointer (some a)) 6).run Tryd.prog w = .ok (.pointer (some (a.add 6))) w := field_of (by kernel_rfl)
theorem fo27_7 : ∀ w a, (Instr.fieldAt 27 (.pointer (some a)) 7).run Tryd.prog w = .ok (.pointer (some (a.add 7))) w := field_of (by kernel_rfl)
theorem fo27_8 : ∀ w a, (Instr.fieldAt 27 (.pointer (some a)) 8).run Tryd.prog w = .ok (.pointer (some (a.add 10))) w := field_of (by kernel_rfl)
theorem fo27_9 : ∀ w a, (Instr.fieldAt 27 (.pointer (some a)) 9).run Tryd.prog w = .ok (.pointer (some (a.add 11))) w := field_of (by kernel_rfl)
theorem fo29_0 : ∀ w a, (Instr.fieldAt 29 (.pointer (some a)) 0).run Tryd.prog w = .ok (.pointer (some (a.add 0))) w := field_of (by kernel_rfl)
theorem fo29_1 : ∀ w a, (Instr.fieldAt 29 (.pointer (some a)) 1).run Tryd.prog w = .ok (.pointer (some (a.add 1))) w := field_of (by kernel_rfl)
theorem fo29_2 : ∀ w a, (Instr.fieldAt 29 (.pointer (some a)) 2).run Tryd.prog w = .ok (.pointer (some (a.add 2))) w := field_of (by kernel_rfl)
theorem fo29_3 : ∀ w a, (Instr.fieldAt 29 (.pointer (some a)) 3).run Tryd.prog w = .ok (.pointer (some (a.add 3))) w := field_of (by kernel_rfl)
theorem fo29_4 : ∀ w a, (Instr.fieldAt 29 (.pointer (some a)) 4).run Tryd.prog w = .ok (.pointer (some (a.add 4))) w := field_of (by kernel_rfl)
theorem fo29_5 : ∀ w a, (Instr.fieldAt 29 (.pointer (some a)) 5).run Tryd.prog w = .ok (.pointer (some (a.add 16))) w := field_of (by kernel_rfl)
theorem fo29_6 : ∀ w a, (Instr.fieldAt 29 (.pointer (some a)) 6).run Tryd.prog w = .ok (.pointer (some (a.add 17))) w := field_of (by kernel_rfl)
theorem fo33_0 : ∀ w a, (Instr.fieldAt 33 (.pointer (some a)) 0).run Tryd.prog w = .ok (.pointer (some (a.add 0))) w := field_of (by kernel_rfl)
theorem fo33_1 : ∀ w a, (Instr.fieldAt 33 (.pointer (some a)) 1).run Tryd.prog w = .ok (.pointer (some (a.add 1))) w := field_of (by kernel_rfl)
theorem fo33_4 : ∀ w a, (Instr.fieldAt 33 (.pointer (some a)) 4).run Tryd.prog w = .ok (.pointer (some (a.add 6))) w := field_of (by kernel_rfl)
theorem fo35_0 : ∀ w a, (Instr.fieldAt 35 (.pointer (some a)) 0).run Tryd.prog w = .ok (.pointer (some (a.add 0))) w := field_of (by kernel_rfl)
theorem fo35_1 : ∀ w a, (Instr.fieldAt 35 (.pointer (some a)) 1).run Tryd.prog w = .ok (.pointer (some (a.add 1))) w := field_of (by kernel_rfl)
theorem fo35_2 : ∀ w a, (Instr.fieldAt 35 (.pointer (some a)) 2).run Tryd.prog w = .ok (.pointer (some (a.add 2))) w := field_of (by kernel_rfl)
theorem fo35_3 : ∀ w a, (Instr.fieldAt 35 (.pointer (some a)) 3).run Tryd.prog w = .ok (.pointer (some (a.add 3))) w := field_of (by kernel_rfl)
theorem fo35_4 : ∀ w a, (Instr.fieldAt 35 (.pointer (some a)) 4).run Tryd.prog w = .ok (.pointer (some (a.add 4))) w := field_of (by kernel_rfl)
theorem fo35_5 : ∀ w a, (Instr.fieldAt 35 (.pointer (some a)) 5).run Tryd.prog w = .ok (.pointer (some (a.add 5))) w := field_of (by kernel_rfl)
theorem fo35_6 : ∀ w a, (Instr.fieldAt 35 (.pointer (some a)) 6).run Tryd.prog w = .ok (.pointer (some (a.add 6))) w := field_of (by kernel_rfl)
theorem fo35_7 : ∀ w a, (Instr.fieldAt 35 (.pointer (some a)) 7).run Tryd.prog w = .ok (.pointer (some (a.add 7))) w := field_of (by kernel_rfl)
theorem fo35_8 : ∀ w a, (Instr.fieldAt 35 (.pointer (some a)) 8).run Tryd.prog w = .ok (.pointer (some (a.add 8))) w := field_of (by kernel_rfl)
theorem fo35_9 : ∀ w a, (Instr.fieldAt 35 (.pointer (some a)) 9).run Tryd.prog w = .ok (.pointer (some (a.add 9))) w := field_of (by kernel_rfl)
theorem fo35_10 : ∀ w a, (Instr.fieldAt 35 (.pointer (some a)) 10).run Tryd.prog w = .ok (.pointer (some (a.add 12))) w := field_of (by kernel_rfl)
theorem fo35_11 : ∀ w a, (Instr.fieldAt 35 (.pointer (some a)) 11).run Tryd.prog w = .ok (.pointer (some (a.add 13))) w := field_of (by kernel_rfl)
theorem fo35_12 : ∀ w a, (Instr.fieldAt 35 (.pointer (some a)) 12).run Tryd.prog w = .ok (.pointer (some (a.add 25))) w := field_of (by kernel_rfl)
theorem fo35_13 : ∀ w a, (Instr.fieldAt 35 (.pointer (some a)) 13).run Tryd.prog w = .ok (.pointer (some (a.add 34))) w := field_of (by kernel_rfl)
theorem fo35_14 : ∀ w a, (Instr.fieldAt 35 (.pointer (some a)) 14).run Tryd.prog w = .ok (.pointer (some (a.add 35))) w := field_of (by kernel_rfl)
theorem fo41_0 : ∀ w a, (Instr.fieldAt 41 (.pointer (some a)) 0).run Tryd.prog w = .ok (.pointer (some (a.add 0))) w := field_of (by kernel_rfl)
theorem fo46_0 : ∀ w a, (Instr.fieldAt 46 (.pointer (some a)) 0).run Tryd.prog w = .ok (.pointer (some (a.add 0))) w := field_of (by kernel_rfl)
theorem fo46_1 : ∀ w a, (Instr.fieldAt 46 (.pointer (some a)) 1).run Tryd.prog w = .ok (.pointer (some (a.add 1))) w := field_of (by kernel_rfl)
theorem fo46_2 : ∀ w a, (Instr.fieldAt 46 (.pointer (some a)) 2).run Tryd.prog w = .ok (.pointer (some (a.add 2))) w := field_of (by kernel_rfl)
theorem fo46_3 : ∀ w a, (Instr.fieldAt 46 (.pointer (some a)) 3).run Tryd.prog w = .ok (.pointer (some (a.add 3))) w := field_of (by kernel_rfl)
theorem fo46_4 : ∀ w a, (Instr.fieldAt 46 (.pointer (some a)) 4).run Tryd.prog w = .ok (.pointer (some (a.add 4))) w := field_of (by kernel_rfl)
theorem fo46_5 : ∀ w a, (Instr.fieldAt 46 (.pointer (some a)) 5).run Tryd.prog w = .ok (.pointer (some (a.add 16))) w := field_of (by kernel_rfl)
theorem fo46_6 : ∀ w a, (Instr.fieldAt 46 (.pointer (some a)) 6).run Tryd.prog w = .ok (.pointer (some (a.add 17))) w := field_of (by kernel_rfl)
theorem fo57_0 : ∀ w a, (Instr.fieldAt 57 (.pointer (some a)) 0).run Tryd.prog w = .ok (.pointer (some (a.add 0))) w := field_of (by kernel_rfl)
theorem fo57_1 : ∀ w a, (Instr.fieldAt 57 (.pointer (some a)) 1).run Tryd.prog w = .ok (.pointer (some (a.add 1))) w := field_of (by kernel_rfl)
theorem fo59_0 : ∀ w a, (Instr.fieldAt 59 (.pointer (some a)) 0).run Tryd.prog w = .ok (.pointer (some (a.add 0))) w := field_of (by kernel_rfl)
theorem fo59_1 : ∀ w a, (Instr.fieldAt 59 (.pointer (some a)) 1).run Tryd.prog w = .ok (.pointer (some (a.add 2))) w := field_of (by kernel_rfl)
theorem fo59_2 : ∀ w a, (Instr.fieldAt 59 (.pointer (some a)) 2).run Tryd.prog w = .ok (.pointer (some (a.add 3))) w := field_of (by kernel_rfl)
theorem fo59_3 : ∀ w a, (Instr.fieldAt 59 (.pointer (some a)) 3).run Tryd.prog w = .ok (.pointer (some (a.add 4))) w := field_of (by kernel_rfl)
theorem ft27 : ∀ (i : Nat) (v : Value) (c : V), zv27.cells[i]? = some v → zc27[i]? = some c → c = .d (.s v) ∨ zeroFits v c = true := fit_of rfl
theorem ft29 : ∀ (i : Nat) (v : Value) (c : V), zv29.cells[i]? = some v → zc29[i]? = some c → c = .d (.s v) ∨ zeroFits v c = true := fit_of rfl
theorem ft33 : ∀ (i : Nat) (v : Value) (c : V), zv33.cells[i]? = some v → zc33[i]? = some c → c = .d (.s v) ∨ zeroFits v c = true := fit_of rfl
theorem ft35 : ∀ (i : Nat) (v : Value) (c : V), zv35.cells[i]? = some v → zc35[i]? = some c → c = .d (.s v) ∨ zeroFits v c = true := fit_of rfl
theorem ft41 : ∀ (i : Nat) (v : Value) (c : V), zv41.cells[i]? = some v → zc41[i]? = some c → c = .d (.s v) ∨ zeroFits v c = true := fit_of rfl
theorem ft46 : ∀ (i : Nat) (v : Value) (c : V), zv46.cells[i]? = some v → zc46[i]? = some c → c = .d (.s v) ∨ zeroFits v c = true := fit_of rfl
theorem ft57 : ∀ (i : Nat) (v : Value) (c : V), zv57.cells[i]? = some v → zc57[i]? = some c → c = .d (.s v) ∨ zeroFits v c = true := fit_of rfl
theorem ft59 : ∀ (i : Nat) (v : Value) (c : V), zv59.cells[i]? = some v → zc59[i]? = some c → c = .d (.s v) ∨ zeroFits v c = true := fit_of rfl
theorem mixed : Tryd.prog.follows .mixedOrders = true := by kernel_rfl
theorem onT3 : OneT Tryd.prog 3 := .mk' (by kernel_rfl : Tryd.prog.underlying 3 = some (.int .i64)) rfl (by kernel_rfl)
theorem onT4 : OneT Tryd.prog 4 := .mk' (by kernel_rfl : Tryd.prog.underlying 4 = some (.bool)) rfl (by kernel_rfl)
theorem onT9 : OneT Tryd.prog 9 := .mk' (by kernel_rfl : Tryd.prog.underlying 9 = some (.string)) rfl (by kernel_rfl)
theorem onT22 : OneT Tryd.prog 22 := .mk' (by kernel_rfl : Tryd.prog.underlying 22 = some (.slice 59)) rfl (by kernel_rfl)
theorem onT23 : OneT Tryd.prog 23 := .mk' (by kernel_rfl : Tryd.prog.underlying 23 = some (.slice 3)) rfl (by kernel_rfl)
theorem onT30 : OneT Tryd.prog 30 := .mk' (by kernel_rfl : Tryd.prog.underlying 30 = some (.int .i64)) rfl (by kernel_rfl)
theorem onT31 : OneT Tryd.prog 31 := .mk' (by kernel_rfl : Tryd.prog.underlying 31 = some (.slice 109)) rfl (by kernel_rfl)
theorem slT22 : SliceT Tryd.prog 22 59 5 := .mk' (by kernel_rfl) (by kernel_rfl)
theorem slT23 : SliceT Tryd.prog 23 3 1 := .mk' (by kernel_rfl) (by kernel_rfl)
theorem slT31 : SliceT Tryd.prog 31 109 2 := .mk' (by kernel_rfl) (by kernel_rfl)
theorem slT39 : SliceT Tryd.prog 39 35 36 := .mk' (by kernel_rfl) (by kernel_rfl)
theorem slT79 : SliceT Tryd.prog 79 57 2 := .mk' (by kernel_rfl) (by kernel_rfl)
theorem sz3 : ∀ w, (sizeOf 3).run Tryd.prog w = .ok 1 w := run_size (by kernel_rfl)
theorem sz4 : ∀ w, (sizeOf 4).run Tryd.prog w = .ok 1 w := run_size (by kernel_rfl)
theorem sz22 : ∀ w, (sizeOf 22).run Tryd.prog w = .ok 1 w := run_size (by kernel_rfl)
theorem sz23 : ∀ w, (sizeOf 23).run Tryd.prog w = .ok 1 w := run_size (by kernel_rfl)
theorem sz25 : ∀ w, (sizeOf 25).run Tryd.prog w = .ok 3 w := run_size (by kernel_rfl)
theorem sz27 : ∀ w, (sizeOf 27).run Tryd.prog w = .ok 12 w := run_size (by kernel_rfl)
theorem sz29 : ∀ w, (sizeOf 29).run Tryd.prog w = .ok 18 w := run_size (by kernel_rfl)
theorem sz33 : ∀ w, (sizeOf 33).run Tryd.prog w = .ok 9 w := run_size (by kernel_rfl)
theorem sz35 : ∀ w, (sizeOf 35).run Tryd.prog w = .ok 36 w := run_size (by kernel_rfl)
theorem sz41 : ∀ w, (sizeOf 41).run Tryd.prog w = .ok 24 w := run_size (by kernel_rfl)
theorem sz46 : ∀ w, (sizeOf 46).run Tryd.prog w = .ok 18 w := run_size (by kernel_rfl)
theorem sz57 : ∀ w, (sizeOf 57).run Tryd.prog w = .ok 2 w := run_size (by kernel_rfl)
theorem sz59 : ∀ w, (sizeOf 59).run Tryd.prog w = .ok 5 w := run_size (by kernel_rfl)
theorem und4 : Tryd.prog.underlying 4 = some (.bool) := by kernel_rfl
theorem und5 : Tryd.prog.underlying 5 = some (.int .u8) := by kernel_rfl
theorem und9 : Tryd.prog.underlying 9 = some (.string) := by kernel_rfl
theorem und21 : Tryd.prog.underlying 21 = some (.int .i32) := by kernel_rfl
theorem und22 : Tryd.prog.underlying 22 = some (.slice 59) := by kernel_rfl
theorem und23 : Tryd.prog.underlying 23 = some (.slice 3) := by kernel_rfl
theorem zr3 : ∀ w, (zeroValue 3).run Tryd.prog w = .ok (.int .i64 0) w := zero_of (by kernel_rfl)
theorem zr35 : ∀ w, (zeroValue 35).run Tryd.prog w = .ok (.agg #[.int .i64 0, .int .i64 0, .int .i64 0, .int .i64 0, .int .i64 0, .int .i64 0, .int .i64 0, .int .i64 0, .int .i64 0, .int .i64 0, .int .i64 0, .int .i64 0, .string ⟨#[]⟩, .int .i64 0, .int .i64 0, .int .i64 0, .string ⟨#[]⟩, .string ⟨#[]⟩, .bool false, .string ⟨#[]⟩, .int .i64 0, .int .i64 0, .int .i64 0, .string ⟨#[]⟩, .int .i64 0, .int .i64 0, .int .i64 0, .int .i64 0, .int .i64 0, .bool false, .string ⟨#[]⟩, .slice none 0 0, .string ⟨#[]⟩, .bool false, .slice none 0 0, .slice none 0 0]) w := zero_of (by kernel_rfl)
theorem zr57 : ∀ w, (zeroValue 57).run Tryd.prog w = .ok (.agg #[.string ⟨#[]⟩, .string ⟨#[]⟩]) w := zero_of (by kernel_rfl)
theorem zr59 : ∀ w, (zeroValue 59).run Tryd.prog w = .ok (.agg #[.string ⟨#[]⟩, .string ⟨#[]⟩, .int .i64 0, .int .i64 0, .int .i64 0]) w := zero_of (by kernel_rfl)
theorem zu27 : ∀ w, (zeroValue 27).run Tryd.prog w = .ok zv27 w := zero_of (by kernel_rfl)
theorem zu29 : ∀ w, (zeroValue 29).run Tryd.prog w = .ok zv29 w := zero_of (by kernel_rfl)
theorem zu33 : ∀ w, (zeroValue 33).run Tryd.prog w = .ok zv33 w := zero_of (by kernel_rfl)
theorem zu35 : ∀ w, (zeroValue 35).run Tryd.prog w = .ok zv35 w := zero_of (by kernel_rfl)
theorem zu41 : ∀ w, (zeroValue 41).run Tryd.prog w = .ok zv41 w := zero_of (by kernel_rfl)
theorem zu46 : ∀ w, (zeroValue 46).run Tryd.prog w = .ok zv46 w := zero_of (by kernel_rfl)
theorem zu57 : ∀ w, (zeroValue 57).run Tryd.prog w = .ok zv57 w := zero_of (by kernel_rfl)
theorem zu59 : ∀ w, (zeroValue 59).run Tryd.prog w = .ok zv59 w := zero_of (by kernel_rfl)
theorem zw27 : BuildT Tryd.prog 27 zv27 #[(0, 1), (1, 1), (2, 1), (3, 1), (4, 1), (5, 1), (6, 1), (7, 3), (10, 1), (11, 1)] := .mk2 (pl := [(0, 1), (1, 1), (2, 1), (3, 1), (4, 1), (5, 1), (6, 1), (7, 3), (10, 1), (11, 1)]) zu27 (by kernel_rfl)
theorem zw29 : BuildT Tryd.prog 29 zv29 #[(0, 1), (1, 1), (2, 1), (3, 1), (4, 12), (16, 1), (17, 1)] := .mk2 (pl := [(0, 1), (1, 1), (2, 1), (3, 1), (4, 12), (16, 1), (17, 1)]) zu29 (by kernel_rfl)
theorem zw33 : BuildT Tryd.prog 33 zv33 #[(0, 1), (1, 3), (4, 1), (5, 1), (6, 1), (7, 1), (8, 1)] := .mk2 (pl := [(0, 1), (1, 3), (4, 1), (5, 1), (6, 1), (7, 1), (8, 1)]) zu33 (by kernel_rfl)
theorem zw35 : BuildT Tryd.prog 35 zv35 #[(0, 1), (1, 1), (2, 1), (3, 1), (4, 1), (5, 1), (6, 1), (7, 1), (8, 1), (9, 3), (12, 1), (13, 12), (25, 9), (34, 1), (35, 1)] := .mk2 (pl := [(0, 1), (1, 1), (2, 1), (3, 1), (4, 1), (5, 1), (6, 1), (7, 1), (8, 1), (9, 3), (12, 1), (13, 12), (25, 9), (34, 1), (35, 1)]) zu35 (by kernel_rfl)
theorem zw41 : BuildT Tryd.prog 41 zv41 #[(0, 1), (1, 12), (13, 1), (14, 9), (23, 1)] := .mk2 (pl := [(0, 1), (1, 12), (13, 1), (14, 9), (23, 1)]) zu41 (by kernel_rfl)
theorem zw57 : BuildT Tryd.prog 57 zv57 #[(0, 1), (1, 1)] := .mk2 (pl := [(0, 1), (1, 1)]) zu57 (by kernel_rfl)
theorem zw59 : BuildT Tryd.prog 59 zv59 #[(0, 2), (2, 1), (3, 1), (4, 1)] := .mk2 (pl := [(0, 2), (2, 1), (3, 1), (4, 1)]) zu59 (by kernel_rfl)
set_option maxRecDepth 100000 in
set_option maxHeartbeats 4000000 in
theorem s4 (k : Nat) (t0 : Client) (r : Bool) (h : F4 k t0 = some r) : Awp.Spec Tryd.prog amb 4 [(.agg (eClient t0))] (.ds [(.s (.bool r))]) := by
  rw [F4] at h
  refine spec_of Tryd.func4 rfl (ble _ _ rfl) fun w0 ok0 lt0 hA => ?_
  refine ht_seq ?_
  refine ht_region ?_
  refine sq_cons ⟨_, [(.t 1, .d (.dp (eClient t0)))]⟩ (v_box_d (cs := (eClient t0)) rfl trivial rfl (ble _ _ rfl) rfl rfl (ones_of rfl)) ?_
  refine sq_cons ⟨_, [(.t 2, bV false)]⟩ (v_move (.inr rfl) trivial rfl (ble _ _ rfl) rfl) ?_
  refine sq_nil ?_
  refine ht_seq ?_
  refine ht_region ?_
  refine sq_cons ⟨_, [(.t 3, .d (.dp (List.drop 2 (eClient t0))))]⟩ (v_field_dp (a0 := 2) (cs := (eClient t0)) rfl trivial rfl (ble _ _ rfl) fo29_2 rfl) ?_
  refine sq_cons ⟨_, [(.t 4, .d (.sl 5 (t0.mPlaces.map ePlace)))]⟩ (v_load_dp1 rfl trivial rfl (ble _ _ rfl) onT22 rfl rfl) ?_
  refine sq_cons ⟨_, [(.t 5, iV (t0.mPlaces.length : Int))]⟩ (w_len t0.mPlaces ePlace rfl rfl trivial rfl (ble _ _ rfl) slT22 rfl) ?_
  refine sq_cons ⟨_, [(.t 6, bV (leI (t0.mPlaces.length : Int) 40))]⟩ (v_bin rfl trivial rfl (ble _ _ rfl) rfl rfl (b_leq rfl)) ?_
  refine sq_cons ⟨_, [(.t 7, bV (leI (t0.mPlaces.length : Int) 40))]⟩ (v_move (.inl rfl) trivial rfl (ble _ _ rfl) rfl) ?_
  refine sq_cons ⟨_, [(.t 8, mg (leI (t0.mPlaces.length : Int) 40) (.d (.dp (List.drop 3 (eClient t0)))))]⟩ (v_cT rfl rfl rfl (ble _ _ rfl) rfl fun e1 => (v_field_dp (a0 := 3) (cs := (eClient t0)) rfl ⟨_, rfl, be e1⟩ rfl (ble _ _ rfl) fo29_3 rfl)) ?_
  refine sq_cons ⟨_, [(.t 9, mg (leI (t0.mPlaces.length : Int) 40) (.d (.sl 1 (t0.mLeads.map (eI .i64)))))]⟩ (v_cT rfl rfl rfl (ble _ _ rfl) rfl fun e2 => (v_load_dp1 rfl ⟨_, rfl, be e2⟩ rfl (ble _ _ rfl) onT23 (gv e2) rfl)) ?_
  refine sq_cons ⟨_, [(.t 10, mg (leI (t0.mPlaces.length : Int) 40) (iV (t0.mLeads.length : Int)))]⟩ (v_cT rfl rfl rfl (ble _ _ rfl) rfl fun e3 => (w_len t0.mLeads (eI .i64) rfl rfl ⟨_, rfl, be e3⟩ rfl (ble _ _ rfl) slT23 (gv e3))) ?_
  refine sq_cons ⟨_, [(.t 11, mg (leI (t0.mPlaces.length : Int) 40) (bV (leI (t0.mLeads.length : Int) 40)))]⟩ (v_cT rfl rfl rfl (ble _ _ rfl) rfl fun e4 => (v_bin rfl ⟨_, rfl, be e4⟩ rfl (ble _ _ rfl) (gv e4) rfl (b_leq rfl))) ?_
  refine sq_cons ⟨_, [(.t 12, bV ((leI (t0.mPlaces.length : Int) 40) && (leI (t0.mLeads.length : Int) 40)))]⟩ (v_pickB rfl trivial rfl (ble _ _ rfl) rfl (fun e5 => (gv e5)) (fun e6 => rfl) (pA _ _)) ?_
  refine sq_cons ⟨_, [(.t 2, bV ((leI (t0.mPlaces.length : Int) 40) && (leI (t0.mLeads.length : Int) 40)))]⟩ (v_move (.inr rfl) trivial rfl (ble _ _ rfl) rfl) ?_
  refine sq_nil ?_
  refine ht_ret ?_
  cases h
  exact ret1 rfl (.tmp rfl)
set_option maxRecDepth 100000 in
set_option maxHeartbeats 4000000 in
theorem s5 (k : Nat) (t0 : Msg) (r : Bool) (h : F5 k t0 = some r) : Awp.Spec Tryd.prog amb 5 [(.agg (eMsg t0))] (.ds [(.s (.bool r))]) := by
  rw [F5] at h
  refine spec_of Tryd.func5 rfl (ble _ _ rfl) fun w0 ok0 lt0 hA => ?_
  refine ht_seq ?_
  refine ht_region ?_
  refine sq_cons ⟨_, [(.t 1, .d (.dp (eMsg t0)))]⟩ (v_box_d (cs := (eMsg t0)) rfl trivial rfl (ble _ _ rfl) rfl rfl (ones_of rfl)) ?_
  refine sq_cons ⟨_, [(.t 2, bV false)]⟩ (v_move (.inr rfl) trivial rfl (ble _ _ rfl) rfl) ?_
  refine sq_nil ?_
  refine ht_seq ?_
  refine ht_region ?_
  refine sq_cons ⟨_, [(.t 3, .d (.dp (List.drop 25 (eMsg t0))))]⟩ (v_field_dp (a0 := 25) (cs := (eMsg t0)) rfl trivial rfl (ble _ _ rfl) fo35_12 rfl) ?_
  refine sq_cons ⟨_, [(.t 4, .d (.dp (List.drop 31 (eMsg t0))))]⟩ (v_field_dp (a0 := 6) (cs := (List.drop 25 (eMsg t0))) rfl trivial rfl (ble _ _ rfl) fo33_4 rfl) ?_
  refine sq_cons ⟨_, [(.t 5, .d (.sl 2 (t0.mAnswer.mItems.map eItem)))]⟩ (v_load_dp1 rfl trivial rfl (ble _ _ rfl) onT31 rfl rfl) ?_
  refine sq_cons ⟨_, [(.t 6, iV (t0.mAnswer.mItems.length : Int))]⟩ (w_len t0.mAnswer.mItems eItem rfl rfl trivial rfl (ble _ _ rfl) slT31 rfl) ?_
  refine sq_cons ⟨_, [(.t 7, bV (leI (t0.mAnswer.mItems.length : Int) 40))]⟩ (v_bin rfl trivial rfl (ble _ _ rfl) rfl rfl (b_leq rfl)) ?_
  refine sq_cons ⟨_, [(.t 8, bV (leI (t0.mAnswer.mItems.length : Int) 40))]⟩ (v_move (.inl rfl) trivial rfl (ble _ _ rfl) rfl) ?_
  refine sq_cons ⟨_, [(.t 9, mg (leI (t0.mAnswer.mItems.length : Int) 40) (.d (.dp (List.drop 34 (eMsg t0)))))]⟩ (v_cT rfl rfl rfl (ble _ _ rfl) rfl fun e1 => (v_field_dp (a0 := 34) (cs := (eMsg t0)) rfl ⟨_, rfl, be e1⟩ rfl (ble _ _ rfl) fo35_13 rfl)) ?_
  refine sq_cons ⟨_, [(.t 10, mg (leI (t0.mAnswer.mItems.length : Int) 40) (.d (.sl 5 (t0.mPlaces.map ePlace))))]⟩ (v_cT rfl rfl rfl (ble _ _ rfl) rfl fun e2 => (v_load_dp1 rfl ⟨_, rfl, be e2⟩ rfl (ble _ _ rfl) onT22 (gv e2) rfl)) ?_
  refine sq_cons ⟨_, [(.t 11, mg (leI (t0.mAnswer.mItems.length : Int) 40) (iV (t0.mPlaces.length : Int)))]⟩ (v_cT rfl rfl rfl (ble _ _ rfl) rfl fun e3 => (w_len t0.mPlaces ePlace rfl rfl ⟨_, rfl, be e3⟩ rfl (ble _ _ rfl) slT22 (gv e3))) ?_
  refine sq_cons ⟨_, [(.t 12, mg (leI (t0.mAnswer.mItems.length : Int) 40) (bV (leI (t0.mPlaces.length : Int) 40)))]⟩ (v_cT rfl rfl rfl (ble _ _ rfl) rfl fun e4 => (v_bin rfl ⟨_, rfl, be e4⟩ rfl (ble _ _ rfl) (gv e4) rfl (b_leq rfl))) ?_
  refine sq_cons ⟨_, [(.t 13, bV ((leI (t0.mAnswer.mItems.length : Int) 40) && (leI (t0.mPlaces.length : Int) 40)))]⟩ (v_pickB rfl trivial rfl (ble _ _ rfl) rfl (fun e5 => (gv e5)) (fun e6 => rfl) (pA _ _)) ?_
  refine sq_cons ⟨_, [(.t 14, bV ((leI (t0.mAnswer.mItems.length : Int) 40) && (leI (t0.mPlaces.length : Int) 40)))]⟩ (v_move (.inl rfl) trivial rfl (ble _ _ rfl) rfl) ?_
  refine sq_cons ⟨_, [(.t 15, mg ((leI (t0.mAnswer.mItems.length : Int) 40) && (leI (t0.mPlaces.length : Int) 40)) (.d (.dp (List.drop 35 (eMsg t0)))))]⟩ (v_cT rfl rfl rfl (ble _ _ rfl) rfl fun e7 => (v_field_dp (a0 := 35) (cs := (eMsg t0)) rfl ⟨_, rfl, be e7⟩ rfl (ble _ _ rfl) fo35_14 rfl)) ?_
  refine sq_cons ⟨_, [(.t 16, mg ((leI (t0.mAnswer.mItems.length : Int) 40) && (leI (t0.mPlaces.length : Int) 40)) (.d (.sl 1 (t0.mMembers.map (eI .i64)))))]⟩ (v_cT rfl rfl rfl (ble _ _ rfl) rfl fun e8 => (v_load_dp1 rfl ⟨_, rfl, be e8⟩ rfl (ble _ _ rfl) onT23 (gv e8) rfl)) ?_
  refine sq_cons ⟨_, [(.t 17, mg ((leI (t0.mAnswer.mItems.length : Int) 40) && (leI (t0.mPlaces.length : Int) 40)) (iV (t0.mMembers.length : Int)))]⟩ (v_cT rfl rfl rfl (ble _ _ rfl) rfl fun e9 => (w_len t0.mMembers (eI .i64) rfl rfl ⟨_, rfl, be e9⟩ rfl (ble _ _ rfl) slT23 (gv e9))) ?_
  refine sq_cons ⟨_, [(.t 18, mg ((leI (t0.mAnswer.mItems.length : Int) 40) && (leI (t0.mPlaces.length : Int) 40)) (bV (leI (t0.mMembers.length : Int) 40)))]⟩ (v_cT rfl rfl rfl (ble _ _ rfl) rfl fun e10 => (v_bin rfl ⟨_, rfl, be e10⟩ rfl (ble _ _ rfl) (gv e10) rfl (b_leq rfl))) ?_
  refine sq_cons ⟨_, [(.t 19, bV (((leI (t0.mAnswer.mItems.length : Int) 40) && (leI (t0.mPlaces.length : Int) 40)) && (leI (t0.mMembers.length : Int) 40)))]⟩ (v_pickB rfl trivial rfl (ble _ _ rfl) rfl (fun e11 => (gv e11)) (fun e12 => rfl) (pA _ _)) ?_
  refine sq_cons ⟨_, [(.t 20, bV (((leI (t0.mAnswer.mItems.length : Int) 40) && (leI (t0.mPlaces.length : Int) 40)) && (leI (t0.mMembers.length : Int) 40)))]⟩ (v_move (.inl rfl) trivial rfl (ble _ _ rfl) rfl) ?_
  refine sq_cons ⟨_, [(.t 21, mg (((leI (t0.mAnswer.mItems.length : Int) 40) && (leI (t0.mPlaces.length : Int) 40)) && (leI (t0.mMembers.length : Int) 40)) (.d (.dp (List.drop 12 (eMsg t0)))))]⟩ (v_cT rfl rfl rfl (ble _ _ rfl) rfl fun e13 => (v_field_dp (a0 := 12) (cs := (eMsg t0)) rfl ⟨_, rfl, be e13⟩ rfl (ble _ _ rfl) fo35_10 rfl)) ?_
  refine sq_cons ⟨_, [(.t 22, mg (((leI (t0.mAnswer.mItems.length : Int) 40) && (leI (t0.mPlaces.length : Int) 40)) && (leI (t0.mMembers.length : Int) 40)) (sV t0.mText))]⟩ (v_cT rfl rfl rfl (ble _ _ rfl) rfl fun e14 => (v_load_dp1 rfl ⟨_, rfl, be e14⟩ rfl (ble _ _ rfl) onT9 (gv e14) rfl)) ?_
  refine sq_cons ⟨_, [(.t 23, mg (((leI (t0.mAnswer.mItems.length : Int) 40) && (leI (t0.mPlaces.length : Int) 40)) && (leI (t0.mMembers.length : Int) 40)) (iV (t0.mText.size : Int)))]⟩ (v_cT rfl rfl rfl (ble _ _ rfl) rfl fun e15 => (v_len_str rfl rfl ⟨_, rfl, be e15⟩ rfl (ble _ _ rfl) und9 (gv e15))) ?_
  refine sq_cons ⟨_, [(.t 24, mg (((leI (t0.mAnswer.mItems.length : Int) 40) && (leI (t0.mPlaces.length : Int) 40)) && (leI (t0.mMembers.length : Int) 40)) (bV (leI (t0.mText.size : Int) 262144)))]⟩ (v_cT rfl rfl rfl (ble _ _ rfl) rfl fun e16 => (v_bin rfl ⟨_, rfl, be e16⟩ rfl (ble _ _ rfl) (gv e16) rfl (b_leq rfl))) ?_
  refine sq_cons ⟨_, [(.t 25, bV ((((leI (t0.mAnswer.mItems.length : Int) 40) && (leI (t0.mPlaces.length : Int) 40)) && (leI (t0.mMembers.length : Int) 40)) && (leI (t0.mText.size : Int) 262144)))]⟩ (v_pickB rfl trivial rfl (ble _ _ rfl) rfl (fun e17 => (gv e17)) (fun e18 => rfl) (pA _ _)) ?_
  refine sq_cons ⟨_, [(.t 2, bV ((((leI (t0.mAnswer.mItems.length : Int) 40) && (leI (t0.mPlaces.length : Int) 40)) && (leI (t0.mMembers.length : Int) 40)) && (leI (t0.mText.size : Int) 262144)))]⟩ (v_move (.inr rfl) trivial rfl (ble _ _ rfl) rfl) ?_
  refine sq_nil ?_
  refine ht_ret ?_
  cases h
  exact ret1 rfl (.tmp rfl)
set_option maxRecDepth 100000 in
set_option maxHeartbeats 4000000 in
theorem s11 (k : Nat) (t0 : Int) (r : Client × Int) (h : F11 k t0 = some r) : Awp.Spec Tryd.prog amb 11 [(.s (.int .i64 t0))] (.ds [(.agg (eClient r.1)), (.s (.int .i64 r.2))]) := by
  rw [F11] at h
  refine spec_of Tryd.func11 rfl (ble _ _ rfl) fun w0 ok0 lt0 hA => ?_
  refine ht_seq ?_
  refine ht_region ?_
  refine sq_cons _ (v_alloc (id := 2) (cs := zc29) rfl trivial rfl (ble _ _ rfl) zu29 rfl ft29 rfl) ?_
  refine sq_cons ⟨_, [(.t 3, iV 0)]⟩ (v_move (.inr rfl) trivial rfl (ble _ _ rfl) rfl) ?_
  refine sq_nil ?_
  refine ht_seq ?_
  refine ht_seq ?_
  refine ht_region ?_
  refine sq_cons ⟨_, [(.t 4, iV t0)]⟩ (v_move (.inl rfl) trivial rfl (ble _ _ rfl) rfl) ?_
  refine sq_cons ⟨_, [(.t 5, bV (ltI t0 1))]⟩ (v_bin rfl trivial rfl (ble _ _ rfl) rfl rfl (b_lss rfl)) ?_
  refine sq_cons ⟨_, [(.t 6, bV (ltI t0 1))]⟩ (v_move (.inl rfl) trivial rfl (ble _ _ rfl) rfl) ?_
  refine sq_cons ⟨_, [(.t 7, mg (!(ltI t0 1)) (iV t0))]⟩ (v_cF rfl rfl rfl (ble _ _ rfl) rfl fun e1 => (v_move (.inl rfl) ⟨_, rfl, be e1⟩ rfl (ble _ _ rfl) rfl)) ?_
  refine sq_cons ⟨_, [(.t 8, mg (!(ltI t0 1)) (bV (ltI 8 t0)))]⟩ (v_cF rfl rfl rfl (ble _ _ rfl) rfl fun e2 => (v_bin rfl ⟨_, rfl, be e2⟩ rfl (ble _ _ rfl) (gv (nF e2)) rfl (b_gtr rfl))) ?_
  refine sq_cons ⟨_, [(.t 9, bV ((ltI t0 1) || (ltI 8 t0)))]⟩ (v_pickB rfl trivial rfl (ble _ _ rfl) rfl (fun e3 => rfl) (fun e4 => (gv (nF e4))) (pO _ _)) ?_
  refine sq_nil ?_
  refine ht_cond (b := ((ltI t0 1) || (ltI 8 t0))) rfl (fun e5 => ?_) (fun e5 => ?_)
  · replace h := cpos e5 h
    refine ht_seq ?_
    refine ht_region ?_
    refine sq_cons ⟨_, [(.t 10, .d (.agg (eClient (⟨0, 0, [], [], (⟨0, 0, 0, ⟨#[]⟩, ⟨#[]⟩, false, ⟨#[]⟩, (⟨0, 0, 0⟩ : Stamp), ⟨#[]⟩, 0⟩ : Request), false, 0⟩ : Client))))]⟩ (w_bld zc29 ((eClient (⟨0, 0, [], [], (⟨0, 0, 0, ⟨#[]⟩, ⟨#[]⟩, false, ⟨#[]⟩, (⟨0, 0, 0⟩ : Stamp), ⟨#[]⟩, 0⟩ : Request), false, 0⟩ : Client)).map V.d) [] rfl trivial rfl (ble _ _ rfl) zw29 rfl ft29 rfl rfl rfl rfl) ?_
    refine sq_cons _ (v_store_box (id := 2) (off := 0) (cs := (eClient (⟨0, 0, [], [], (⟨0, 0, 0, ⟨#[]⟩, ⟨#[]⟩, false, ⟨#[]⟩, (⟨0, 0, 0⟩ : Stamp), ⟨#[]⟩, 0⟩ : Request), false, 0⟩ : Client)).map V.d) rfl trivial rfl sz29 rfl rfl rfl rfl (ones_of rfl) (ble _ _ rfl)) ?_
    refine sq_cons ⟨_, [(.t 3, iV 1)]⟩ (v_move (.inr rfl) trivial rfl (ble _ _ rfl) rfl) ?_
    refine sq_nil ?_
    refine ht_ret ?_
    cases h
    exact ret2 rfl (.cell rfl rfl ag29 (ble _ _ rfl) rfl) (.tmp rfl)
  · replace h := cneg e5 h
    refine ht_skip ?_
    refine ht_seq ?_
    refine ht_region ?_
    refine sq_cons ⟨_, [(.t 11, iV t0)]⟩ (v_move (.inl rfl) trivial rfl (ble _ _ rfl) rfl) ?_
    refine sq_cons ⟨_, [(.t 12, .d (.agg (eClient (⟨t0, 1, ([] : List Place), ([] : List Int), (⟨0, 0, 0, ⟨#[]⟩, ⟨#[]⟩, false, ⟨#[]⟩, (⟨0, 0, 0⟩ : Stamp), ⟨#[]⟩, 0⟩ : Request), false, 0⟩ : Client))))]⟩ (w_bld zc29 ((eClient (⟨t0, 1, ([] : List Place), ([] : List Int), (⟨0, 0, 0, ⟨#[]⟩, ⟨#[]⟩, false, ⟨#[]⟩, (⟨0, 0, 0⟩ : Stamp), ⟨#[]⟩, 0⟩ : Request), false, 0⟩ : Client)).map V.d) [(0, iV t0), (1, iV 1)] rfl trivial rfl (ble _ _ rfl) zw29 rfl ft29 rfl rfl rfl rfl) ?_
    refine sq_cons _ (v_store_box (id := 2) (off := 0) (cs := (eClient (⟨t0, 1, ([] : List Place), ([] : List Int), (⟨0, 0, 0, ⟨#[]⟩, ⟨#[]⟩, false, ⟨#[]⟩, (⟨0, 0, 0⟩ : Stamp), ⟨#[]⟩, 0⟩ : Request), false, 0⟩ : Client)).map V.d) rfl trivial rfl sz29 rfl rfl rfl rfl (ones_of rfl) (ble _ _ rfl)) ?_
    refine sq_cons ⟨_, [(.t 3, iV 0)]⟩ (v_move (.inr rfl) trivial rfl (ble _ _ rfl) rfl) ?_
    refine sq_nil ?_
    refine ht_ret ?_
    cases h
    exact ret2 rfl (.cell rfl rfl ag29 (ble _ _ rfl) rfl) (.tmp rfl)
set_option maxRecDepth 100000 in
set_option maxHeartbeats 4000000 in
theorem s38 (k : Nat) (t0 : Int) (r : Bool) (h : F38 k t0 = some r) : Awp.Spec Tryd.prog amb 38 [(.s (.int .i64 t0))] (.ds [(.s (.bool r))]) := by
  rw [F38] at h
  refine spec_of Tryd.func38 rfl (ble _ _ rfl) fun w0 ok0 lt0 hA => ?_
  refine ht_seq ?_
  refine ht_region ?_
  refine sq_cons ⟨_, [(.t 2, bV false)]⟩ (v_move (.inr rfl) trivial rfl (ble _ _ rfl) rfl) ?_
  refine sq_nil ?_
  refine ht_seq ?_
  refine ht_region ?_
  refine sq_cons ⟨_, [(.t 3, iV t0)]⟩ (v_move (.inl rfl) trivial rfl (ble _ _ rfl) rfl) ?_
  refine sq_cons ⟨_, [(.t 4, bV (leI 1 t0))]⟩ (v_bin rfl trivial rfl (ble _ _ rfl) rfl rfl (b_geq rfl)) ?_
  refine sq_cons ⟨_, [(.t 5, bV (leI 1 t0))]⟩ (v_move (.inl rfl) trivial rfl (ble _ _ rfl) rfl) ?_
  refine sq_cons ⟨_, [(.t 6, mg (leI 1 t0) (iV t0))]⟩ (v_cT rfl rfl rfl (ble _ _ rfl) rfl fun e1 => (v_move (.inl rfl) ⟨_, rfl, be e1⟩ rfl (ble _ _ rfl) rfl)) ?_
  refine sq_cons ⟨_, [(.t 7, mg (leI 1 t0) (bV (leI t0 1099511627776)))]⟩ (v_cT rfl rfl rfl (ble _ _ rfl) rfl fun e2 => (v_bin rfl ⟨_, rfl, be e2⟩ rfl (ble _ _ rfl) (gv e2) rfl (b_leq rfl))) ?_
  refine sq_cons ⟨_, [(.t 8, bV ((leI 1 t0) && (leI t0 1099511627776)))]⟩ (v_pickB rfl trivial rfl (ble _ _ rfl) rfl (fun e3 => (gv e3)) (fun e4 => rfl) (pA _ _)) ?_
  refine sq_cons ⟨_, [(.t 2, bV ((leI 1 t0) && (leI t0 1099511627776)))]⟩ (v_move (.inr rfl) trivial rfl (ble _ _ rfl) rfl) ?_
  refine sq_nil ?_
  refine ht_ret ?_
  cases h
  exact ret1 rfl (.tmp rfl)
set_option maxRecDepth 100000 in
set_option maxHeartbeats 4000000 in
theorem s39 (k : Nat) (t0 : Int) (r : Bool) (h : F39 k t0 = some r) : Awp.Spec Tryd.prog amb 39 [(.s (.int .i64 t0))] (.ds [(.s (.bool r))]) := by
  rw [F39] at h
  refine spec_of Tryd.func39 rfl (ble _ _ rfl) fun w0 ok0 lt0 hA => ?_
  refine ht_seq ?_
  refine ht_region ?_
  refine sq_cons ⟨_, [(.t 2, bV false)]⟩ (v_move (.inr rfl) trivial rfl (ble _ _ rfl) rfl) ?_
  refine sq_nil ?_
  refine ht_seq ?_
  refine ht_region ?_
  refine sq_cons ⟨_, [(.t 3, iV t0)]⟩ (v_move (.inl rfl) trivial rfl (ble _ _ rfl) rfl) ?_
  refine sq_cons ⟨_, [(.t 4, bV (leI 1 t0))]⟩ (v_bin rfl trivial rfl (ble _ _ rfl) rfl rfl (b_geq rfl)) ?_
  refine sq_cons ⟨_, [(.t 5, bV (leI 1 t0))]⟩ (v_move (.inl rfl) trivial rfl (ble _ _ rfl) rfl) ?_
  refine sq_cons ⟨_, [(.t 6, mg (leI 1 t0) (iV t0))]⟩ (v_cT rfl rfl rfl (ble _ _ rfl) rfl fun e1 => (v_move (.inl rfl) ⟨_, rfl, be e1⟩ rfl (ble _ _ rfl) rfl)) ?_
  refine sq_cons ⟨_, [(.t 7, mg (leI 1 t0) (bV (leI t0 3)))]⟩ (v_cT rfl rfl rfl (ble _ _ rfl) rfl fun e2 => (v_bin rfl ⟨_, rfl, be e2⟩ rfl (ble _ _ rfl) (gv e2) rfl (b_leq rfl))) ?_
  refine sq_cons ⟨_, [(.t 8, bV ((leI 1 t0) && (leI t0 3)))]⟩ (v_pickB rfl trivial rfl (ble _ _ rfl) rfl (fun e3 => (gv e3)) (fun e4 => rfl) (pA _ _)) ?_
  refine sq_cons ⟨_, [(.t 2, bV ((leI 1 t0) && (leI t0 3)))]⟩ (v_move (.inr rfl) trivial rfl (ble _ _ rfl) rfl) ?_
  refine sq_nil ?_
  refine ht_ret ?_
  cases h
  exact ret1 rfl (.tmp rfl)
set_option maxRecDepth 100000 in
set_option maxHeartbeats 4000000 in
theorem s41 (k : Nat) (t0 : Place) (t1 : Place) (r : Bool) (h : F41 k t0 t1 = some r) : Awp.Spec Tryd.prog amb 41 [(.agg (ePlace t0)), (.dp (ePlace t1))] (.ds [(.s (.bool r))]) := by
  rw [F41] at h
  refine spec_of Tryd.func41 rfl (ble _ _ rfl) fun w0 ok0 lt0 hA => ?_
  refine ht_seq ?_
  refine ht_region ?_
  refine sq_cons ⟨_, [(.t 2, .d (.dp (ePlace t0)))]⟩ (v_box_d (cs := (ePlace t0)) rfl trivial rfl (ble _ _ rfl) rfl rfl (ones_of rfl)) ?_
  refine sq_cons ⟨_, [(.t 3, bV false)]⟩ (v_move (.inr rfl) trivial rfl (ble _ _ rfl) rfl) ?_
  refine sq_nil ?_
  refine ht_seq ?_
  refine ht_region ?_
  refine sq_cons ⟨_, [(.t 4, .d (.dp (List.drop 2 (ePlace t0))))]⟩ (v_field_dp (a0 := 2) (cs := (ePlace t0)) rfl trivial rfl (ble _ _ rfl) fo59_1 rfl) ?_
  refine sq_cons ⟨_, [(.t 5, iV t0.mShard)]⟩ (v_load_dp1 rfl trivial rfl (ble _ _ rfl) onT3 rfl rfl) ?_
  refine sq_cons ⟨_, [(.t 6, .d (.dp (List.drop 2 (ePlace t1))))]⟩ (v_field_dp (a0 := 2) (cs := (ePlace t1)) rfl trivial rfl (ble _ _ rfl) fo59_1 rfl) ?_
  refine sq_cons ⟨_, [(.t 7, iV t1.mShard)]⟩ (v_load_dp1 rfl trivial rfl (ble _ _ rfl) onT3 rfl rfl) ?_
  refine sq_cons ⟨_, [(.t 8, bV (eqI t0.mShard t1.mShard))]⟩ (v_bin rfl trivial rfl (ble _ _ rfl) rfl rfl (b_eql rfl)) ?_
  refine sq_cons ⟨_, [(.t 3, bV (eqI t0.mShard t1.mShard))]⟩ (v_move (.inr rfl) trivial rfl (ble _ _ rfl) rfl) ?_
  refine sq_nil ?_
  refine ht_ret ?_
  cases h
  exact ret1 rfl (.tmp rfl)
set_option maxRecDepth 100000 in
set_option maxHeartbeats 4000000 in
theorem s46_41 (k : Nat) (t0 : List Place) (t1u0 : Place) (r : Int) (h : F46_41 k t0 t1u0 = some r) : Awp.Spec Tryd.prog amb 46 [(.sl 5 (t0.map ePlace)), (.fn 41 [(.dp (ePlace t1u0))])] (.ds [(.s (.int .i64 r))]) := by
  rw [F46_41] at h
  refine spec_of Tryd.func46 rfl (ble _ _ rfl) fun w0 ok0 lt0 hA => ?_
  refine ht_seq ?_
  refine ht_region ?_
  refine sq_cons ⟨_, [(.t 4, iV 0)]⟩ (v_move (.inr rfl) trivial rfl (ble _ _ rfl) rfl) ?_
  refine sq_nil ?_
  refine ht_gj (go_id' h) (fun _ => tell []) (fun _ h => ?_) (fun v1 K2 h j4 r5 => ?_)
  · refine ht_seq ?_
    refine ht_region ?_
    refine sq_cons ⟨_, [(.t 4, iV (-1))]⟩ (v_move (.inr rfl) trivial rfl (ble _ _ rfl) rfl) ?_
    refine sq_nil ?_
    refine ht_ret ?_
    cases h
    exact ret1 rfl (.tmp rfl)
  · refine ht_seq ?_
    refine ht_region ?_
    refine sq_cons ⟨_, [(.t 6, .d (.sl 5 (t0.map ePlace)))]⟩ (v_move (.inl rfl) trivial rfl (ble _ _ rfl) rfl) ?_
    refine sq_cons ⟨_, [(.t 7, iV (t0.length : Int))]⟩ (w_len t0 ePlace rfl rfl trivial rfl (ble _ _ rfl) slT22 rfl) ?_
    refine sq_cons ⟨_, [(.t 8, iV 0)]⟩ (v_move (.inl rfl) trivial rfl (ble _ _ rfl) rfl) ?_
    refine sq_nil ?_
    refine ht_block ?_
    refine ht_rd h (fun _ => rfl) (fun t8 => tell [(.t 0, .d (.sl 5 (t0.map ePlace))), (.t 1, .d (.fn 41 [(.dp (ePlace t1u0))])), (.t 7, iV (t0.length : Int)), (.t 8, iV t8)]) (wk_ren _ (fun i => i) rfl ⟨rfl, rfl, rfl, rfl, trivial⟩) fun k t8 h K13 j7 => ?_
    rw [F46_41_l1] at h
    refine ht_seq ?_
    refine ht_region ?_
    refine sq_cons ⟨_, [(.t 9, bV (ltI t8 (t0.length : Int)))]⟩ (v_bin rfl trivial rfl (ble _ _ rfl) rfl rfl (b_lss rfl)) ?_
    refine sq_nil ?_
    refine ht_seq ?_
    refine ht_cond (b := (ltI t8 (t0.length : Int))) rfl (fun e9 => ?_) (fun e9 => ?_)
    · replace h := cpos e9 h
      refine ht_skip ?_
      refine ht_seq ?_
      refine ht_block ?_
      refine ht_seq ?_
      refine ht_region ?_
      refine sq_cons ⟨_, [(.t 10, iV t8)]⟩ (v_move (.inl rfl) trivial rfl (ble _ _ rfl) rfl) ?_
      refine sq_cons ⟨_, [(.t 5, iV t8)]⟩ (v_move (.inr rfl) trivial rfl (ble _ _ rfl) rfl) ?_
      refine sq_nil ?_
      refine ht_seq ?_
      refine ht_region ?_
      refine sq_cons ⟨_, [(.t 11, .d (.fn 41 [(.dp (ePlace t1u0))]))]⟩ (v_move (.inl rfl) trivial rfl (ble _ _ rfl) rfl) ?_
      refine sq_cons ⟨_, [(.t 12, .d (.sl 5 (t0.map ePlace)))]⟩ (v_move (.inl rfl) trivial rfl (ble _ _ rfl) rfl) ?_
      refine sq_cons ⟨_, [(.t 13, iV t8)]⟩ (v_move (.inl rfl) trivial rfl (ble _ _ rfl) rfl) ?_
      obtain ⟨e10, h⟩ := gpos h
      refine sq_cons ⟨_, [(.t 14, .d (.dp (ePlace (rd t0 t8))))]⟩ (w_idx t0 ePlace rfl trivial rfl (ble _ _ rfl) slT22 rfl rfl e10) ?_
      refine sq_cons ⟨_, [(.t 15, .d (.agg (ePlace (rd t0 t8))))]⟩ (w_ldp (ePlace (rd t0 t8)) (ePlace (rd t0 t8)) rfl trivial rfl (ble _ _ rfl) ag59 rfl (ble _ _ rfl) rfl) ?_
      obtain ⟨t16, c11, h⟩ := bpos h
      refine sq_cons ⟨_, [(.t 16, bV t16)]⟩ (w_call (ds := [(.agg (ePlace (rd t0 t8)))]) (caps := [(.dp (ePlace t1u0))]) (l := [(.s (.bool t16))]) (s41 k (rd t0 t8) t1u0 _ c11) rfl rfl rfl en41 trivial rfl (ble _ _ rfl) (.inr rfl) rfl rfl) ?_
      refine sq_nil ?_
      refine ht_cond (b := t16) rfl (fun e12 => ?_) (fun e12 => ?_)
      · replace h := cpos e12 h
        refine ht_seq ?_
        refine ht_region ?_
        refine sq_cons ⟨_, [(.t 17, iV t8)]⟩ (v_move (.inl rfl) trivial rfl (ble _ _ rfl) rfl) ?_
        refine sq_cons ⟨_, [(.t 4, iV t8)]⟩ (v_move (.inr rfl) trivial rfl (ble _ _ rfl) rfl) ?_
        refine sq_nil ?_
        refine ht_ret ?_
        cases h
        cases r5 _ rfl
        exact ret1 rfl (.tmp rfl)
      · replace h := cneg e12 h
        refine ht_skip ?_
        refine ht_region ?_
        refine sq_cons ⟨_, [(.t 18, iV (IntKind.wrap .i64 (t8 + 1)))]⟩ (v_bin rfl trivial rfl (ble _ _ rfl) rfl rfl (b_add rfl)) ?_
        refine sq_cons ⟨_, [(.t 8, iV (IntKind.wrap .i64 (t8 + 1)))]⟩ (v_move (.inl rfl) trivial rfl (ble _ _ rfl) rfl) ?_
        refine sq_nil ?_
        exact j7 _ _ h (wk_ren _ (fun i => i) rfl ⟨rfl, rfl, rfl, rfl, trivial⟩)
    · replace h := cneg e9 h
      refine ht_exit ?_
      refine tq ?_
      refine tq ?_
      refine bq_hit ?_
      cases h
      exact j4 _ _ rfl (wk_ren _ (fun i => i) rfl trivial)
set_option maxRecDepth 100000 in
set_option maxHeartbeats 4000000 in
theorem s40_41 (k : Nat) (t0 : List Place) (t1u0 : Place) (r : Bool) (h : F40_41 k t0 t1u0 = some r) : Awp.Spec Tryd.prog amb 40 [(.sl 5 (t0.map ePlace)), (.fn 41 [(.dp (ePlace t1u0))])] (.ds [(.s (.bool r))]) := by
  rw [F40_41] at h
  refine spec_of Tryd.func40 rfl (ble _ _ rfl) fun w0 ok0 lt0 hA => ?_
  refine ht_seq ?_
  refine ht_region ?_
  refine sq_cons ⟨_, [(.t 4, bV false)]⟩ (v_move (.inr rfl) trivial rfl (ble _ _ rfl) rfl) ?_
  refine sq_nil ?_
  refine ht_seq ?_
  refine ht_region ?_
  refine sq_cons ⟨_, [(.t 5, .d (.sl 5 (t0.map ePlace)))]⟩ (v_move (.inl rfl) trivial rfl (ble _ _ rfl) rfl) ?_
  refine sq_cons ⟨_, [(.t 6, .d (.fn 41 [(.dp (ePlace t1u0))]))]⟩ (v_move (.inl rfl) trivial rfl (ble _ _ rfl) rfl) ?_
  obtain ⟨t7, c1, h⟩ := bpos h
  refine sq_cons ⟨_, [(.t 7, iV t7)]⟩ (w_call (ds := [(.sl 5 (t0.map ePlace)), (.fn 41 [(.dp (ePlace t1u0))])]) (caps := []) (l := [(.s (.int .i64 t7))]) (s46_41 k t0 t1u0 _ c1) rfl rfl rfl en46 trivial rfl (ble _ _ rfl) (.inl ⟨rfl, rfl⟩) rfl rfl) ?_
  refine sq_cons ⟨_, [(.t 8, bV (leI 0 t7))]⟩ (v_bin rfl trivial rfl (ble _ _ rfl) rfl rfl (b_geq rfl)) ?_
  refine sq_cons ⟨_, [(.t 4, bV (leI 0 t7))]⟩ (v_move (.inr rfl) trivial rfl (ble _ _ rfl) rfl) ?_
  refine sq_nil ?_
  refine ht_ret ?_
  cases h
  exact ret1 rfl (.tmp rfl)
set_option maxRecDepth 100000 in
set_option maxHeartbeats 4000000 in
theorem s43 (k : Nat) (t0 : ByteArray) (r : Int × Int) (h : F43 k t0 = some r) : Awp.Spec Tryd.prog amb 43 [(.s (.string t0))] (.ds [(.s (.int .i32 r.1)), (.s (.int .i64 r.2))]) := by
  rw [F43] at h
  refine spec_of Tryd.func43 rfl (ble _ _ rfl) fun w0 ok0 lt0 hA => ?_
  refine ht_seq ?_
  refine ht_region ?_
  refine sq_cons ⟨_, [(.t 2, nV .i32 0)]⟩ (v_move (.inr rfl) trivial rfl (ble _ _ rfl) rfl) ?_
  refine sq_cons ⟨_, [(.t 3, iV 0)]⟩ (v_move (.inr rfl) trivial rfl (ble _ _ rfl) rfl) ?_
  refine sq_nil ?_
  refine ht_seq ?_
  refine ht_seq ?_
  refine ht_region ?_
  refine sq_cons ⟨_, [(.t 4, sV t0)]⟩ (v_move (.inl rfl) trivial rfl (ble _ _ rfl) rfl) ?_
  refine sq_cons ⟨_, [(.t 5, bV (!strEq t0 (⟨#[]⟩ : ByteArray)))]⟩ (v_bin rfl trivial rfl (ble _ _ rfl) rfl rfl (b_neS rfl)) ?_
  refine sq_cons ⟨_, [(.t 6, bV (!strEq t0 (⟨#[]⟩ : ByteArray)))]⟩ (v_move (.inl rfl) trivial rfl (ble _ _ rfl) rfl) ?_
  refine sq_cons ⟨_, [(.t 7, mg (!strEq t0 (⟨#[]⟩ : ByteArray)) (sV t0))]⟩ (v_cT rfl rfl rfl (ble _ _ rfl) rfl fun e1 => (v_move (.inl rfl) ⟨_, rfl, be e1⟩ rfl (ble _ _ rfl) rfl)) ?_
  obtain ⟨e3, h⟩ := gpos h
  refine sq_cons ⟨_, [(.t 8, mg (!strEq t0 (⟨#[]⟩ : ByteArray)) (nV .u8 (bt t0 0)))]⟩ (v_cT rfl rfl rfl (ble _ _ rfl) rfl fun e2 => (v_index rfl ⟨_, rfl, be e2⟩ rfl (ble _ _ rfl) (gv e2) rfl (i_str und9 (orT e3 e2) rfl))) ?_
  refine sq_cons ⟨_, [(.t 9, mg (!strEq t0 (⟨#[]⟩ : ByteArray)) (bV (ltI (bt t0 0) 128)))]⟩ (v_cT rfl rfl rfl (ble _ _ rfl) rfl fun e4 => (v_bin rfl ⟨_, rfl, be e4⟩ rfl (ble _ _ rfl) (gv e4) rfl (b_lss rfl))) ?_
  refine sq_cons ⟨_, [(.t 10, bV ((!strEq t0 (⟨#[]⟩ : ByteArray)) && (ltI (bt t0 0) 128)))]⟩ (v_pickB rfl trivial rfl (ble _ _ rfl) rfl (fun e5 => (gv e5)) (fun e6 => rfl) (pA _ _)) ?_
  refine sq_nil ?_
  refine ht_cond (b := ((!strEq t0 (⟨#[]⟩ : ByteArray)) && (ltI (bt t0 0) 128))) rfl (fun e7 => ?_) (fun e7 => ?_)
  · replace h := cpos e7 h
    refine ht_seq ?_
    refine ht_region ?_
    refine sq_cons ⟨_, [(.t 11, sV t0)]⟩ (v_move (.inl rfl) trivial rfl (ble _ _ rfl) rfl) ?_
    obtain ⟨e8, h⟩ := gpos h
    refine sq_cons ⟨_, [(.t 12, nV .u8 (bt t0 0))]⟩ (v_index rfl trivial rfl (ble _ _ rfl) rfl rfl (i_str und9 e8 rfl)) ?_
    refine sq_cons ⟨_, [(.t 13, nV .i32 (IntKind.wrap .i32 (bt t0 0)))]⟩ (v_conv rfl trivial rfl (ble _ _ rfl) rfl (c_int und5 und21 rfl)) ?_
    refine sq_cons ⟨_, [(.t 2, nV .i32 (IntKind.wrap .i32 (bt t0 0)))]⟩ (v_move (.inr rfl) trivial rfl (ble _ _ rfl) rfl) ?_
    refine sq_cons ⟨_, [(.t 3, iV 1)]⟩ (v_move (.inr rfl) trivial rfl (ble _ _ rfl) rfl) ?_
    refine sq_nil ?_
    refine ht_ret ?_
    cases h
    exact ret2 rfl (.tmp rfl) (.tmp rfl)
  · replace h := cneg e7 h
    refine ht_region ?_
    refine sq_cons ⟨_, [(.t 15, sV t0)]⟩ (v_move (.inl rfl) trivial rfl (ble _ _ rfl) rfl) ?_
    obtain ⟨⟨t16a, t16b⟩, c9, h⟩ := bpos h
    refine sq_cons ⟨_, [(.t 16, .tup [nV .i32 t16a, iV t16b])]⟩ (w_call (ds := [(.s (.string t0))]) (caps := []) (l := [(.s (.int .i32 t16a)), (.s (.int .i64 t16b))]) (s47 k t0 _ c9) rfl rfl rfl en47 trivial rfl (ble _ _ rfl) (.inl ⟨rfl, rfl⟩) rfl rfl) ?_
    refine sq_cons ⟨_, [(.t 14, .tup [nV .i32 t16a, iV t16b])]⟩ (v_move (.inl rfl) trivial rfl (ble _ _ rfl) rfl) ?_
    refine sq_cons ⟨_, [(.t 17, nV .i32 t16a)]⟩ (v_extract rfl trivial rfl (ble _ _ rfl) rfl rfl) ?_
    refine sq_cons ⟨_, [(.t 18, iV t16b)]⟩ (v_extract rfl trivial rfl (ble _ _ rfl) rfl rfl) ?_
    refine sq_cons ⟨_, [(.t 2, nV .i32 t16a)]⟩ (v_move (.inr rfl) trivial rfl (ble _ _ rfl) rfl) ?_
    refine sq_cons ⟨_, [(.t 3, iV t16b)]⟩ (v_move (.inr rfl) trivial rfl (ble _ _ rfl) rfl) ?_
    refine sq_nil ?_
    refine ht_ret ?_
    cases h
    exact ret2 rfl (.tmp rfl) (.tmp rfl)
set_option maxRecDepth 100000 in
set_option maxHeartbeats 4000000 in
theorem s44 (k : Nat) (t0 : Int) (t1 : Int) (r : Bool) (h : F44 k t0 t1 = some r) : Awp.Spec Tryd.prog amb 44 [(.s (.int .i32 t0)), (.s (.int .i64 t1))] (.ds [(.s (.bool r))]) := by
  rw [F44] at h
  refine spec_of Tryd.func44 rfl (ble _ _ rfl) fun w0 ok0 lt0 hA => ?_
  refine ht_seq ?_
  refine ht_region ?_
  refine sq_cons ⟨_, [(.t 4, bV false)]⟩ (v_move (.inr rfl) trivial rfl (ble _ _ rfl) rfl) ?_
  refine sq_nil ?_
  refine ht_seq ?_
  refine ht_region ?_
  refine sq_cons ⟨_, [(.t 5, nV .i32 t0)]⟩ (v_move (.inl rfl) trivial rfl (ble _ _ rfl) rfl) ?_
  refine sq_cons ⟨_, [(.t 6, bV (leI 33 t0))]⟩ (v_bin rfl trivial rfl (ble _ _ rfl) rfl rfl (b_geq rfl)) ?_
  refine sq_cons ⟨_, [(.t 7, bV (leI 33 t0))]⟩ (v_move (.inl rfl) trivial rfl (ble _ _ rfl) rfl) ?_
  refine sq_cons ⟨_, [(.t 8, mg (leI 33 t0) (nV .i32 t0))]⟩ (v_cT rfl rfl rfl (ble _ _ rfl) rfl fun e1 => (v_move (.inl rfl) ⟨_, rfl, be e1⟩ rfl (ble _ _ rfl) rfl)) ?_
  refine sq_cons ⟨_, [(.t 9, mg (leI 33 t0) (bV (ltI t0 127)))]⟩ (v_cT rfl rfl rfl (ble _ _ rfl) rfl fun e2 => (v_bin rfl ⟨_, rfl, be e2⟩ rfl (ble _ _ rfl) (gv e2) rfl (b_lss rfl))) ?_
  refine sq_cons ⟨_, [(.t 10, mg (leI 33 t0) (bV (ltI t0 127)))]⟩ (v_cT rfl rfl rfl (ble _ _ rfl) rfl fun e3 => (v_move (.inl rfl) ⟨_, rfl, be e3⟩ rfl (ble _ _ rfl) (gv e3))) ?_
  refine sq_cons ⟨_, [(.t 11, mg ((leI 33 t0) && (!(ltI t0 127))) (nV .i32 t0))]⟩ (v_mF rfl rfl rfl (ble _ _ rfl) rfl fun e4 e5 => (v_move (.inl rfl) ⟨_, rfl, bm e4 e5⟩ rfl (ble _ _ rfl) rfl)) ?_
  refine sq_cons ⟨_, [(.t 12, mg ((leI 33 t0) && (!(ltI t0 127))) (bV (ltI 159 t0)))]⟩ (v_mF rfl rfl rfl (ble _ _ rfl) rfl fun e6 e7 => (v_bin rfl ⟨_, rfl, bm e6 e7⟩ rfl (ble _ _ rfl) (gv (aT e6 (nF e7))) rfl (b_gtr rfl))) ?_
  refine sq_cons ⟨_, [(.t 13, mg (leI 33 t0) (bV ((ltI t0 127) || (ltI 159 t0))))]⟩ (v_cT rfl rfl rfl (ble _ _ rfl) rfl fun e8 => (v_pickB rfl ⟨_, rfl, be e8⟩ rfl (ble _ _ rfl) (gv e8) (fun e9 => rfl) (fun e10 => (gv (aT e8 (nF e10)))) (pO _ _))) ?_
  refine sq_cons ⟨_, [(.t 14, bV ((leI 33 t0) && ((ltI t0 127) || (ltI 159 t0))))]⟩ (v_pickB rfl trivial rfl (ble _ _ rfl) rfl (fun e11 => (gv e11)) (fun e12 => rfl) (pA _ _)) ?_
  refine sq_cons ⟨_, [(.t 15, bV ((leI 33 t0) && ((ltI t0 127) || (ltI 159 t0))))]⟩ (v_move (.inl rfl) trivial rfl (ble _ _ rfl) rfl) ?_
  refine sq_cons ⟨_, [(.t 16, mg ((leI 33 t0) && ((ltI t0 127) || (ltI 159 t0))) (nV .i32 t0))]⟩ (v_cT rfl rfl rfl (ble _ _ rfl) rfl fun e13 => (v_move (.inl rfl) ⟨_, rfl, be e13⟩ rfl (ble _ _ rfl) rfl)) ?_
  refine sq_cons ⟨_, [(.t 17, mg ((leI 33 t0) && ((ltI t0 127) || (ltI 159 t0))) (bV (!eqI t0 65533)))]⟩ (v_cT rfl rfl rfl (ble _ _ rfl) rfl fun e14 => (v_bin rfl ⟨_, rfl, be e14⟩ rfl (ble _ _ rfl) (gv e14) rfl (b_neq rfl))) ?_
  refine sq_cons ⟨_, [(.t 18, mg ((leI 33 t0) && ((ltI t0 127) || (ltI 159 t0))) (bV (!eqI t0 65533)))]⟩ (v_cT rfl rfl rfl (ble _ _ rfl) rfl fun e15 => (v_move (.inl rfl) ⟨_, rfl, be e15⟩ rfl (ble _ _ rfl) (gv e15))) ?_
  refine sq_cons ⟨_, [(.t 19, mg (((leI 33 t0) && ((ltI t0 127) || (ltI 159 t0))) && (!(!eqI t0 65533))) (iV t1))]⟩ (v_mF rfl rfl rfl (ble _ _ rfl) rfl fun e16 e17 => (v_move (.inl rfl) ⟨_, rfl, bm e16 e17⟩ rfl (ble _ _ rfl) rfl)) ?_
  refine sq_cons ⟨_, [(.t 20, mg (((leI 33 t0) && ((ltI t0 127) || (ltI 159 t0))) && (!(!eqI t0 65533))) (bV (eqI t1 3)))]⟩ (v_mF rfl rfl rfl (ble _ _ rfl) rfl fun e18 e19 => (v_bin rfl ⟨_, rfl, bm e18 e19⟩ rfl (ble _ _ rfl) (gv (aT e18 (nF e19))) rfl (b_eql rfl))) ?_
  refine sq_cons ⟨_, [(.t 21, mg ((leI 33 t0) && ((ltI t0 127) || (ltI 159 t0))) (bV ((!eqI t0 65533) || (eqI t1 3))))]⟩ (v_cT rfl rfl rfl (ble _ _ rfl) rfl fun e20 => (v_pickB rfl ⟨_, rfl, be e20⟩ rfl (ble _ _ rfl) (gv e20) (fun e21 => rfl) (fun e22 => (gv (aT e20 (nF e22)))) (pO _ _))) ?_
  refine sq_cons ⟨_, [(.t 22, bV (((leI 33 t0) && ((ltI t0 127) || (ltI 159 t0))) && ((!eqI t0 65533) || (eqI t1 3))))]⟩ (v_pickB rfl trivial rfl (ble _ _ rfl) rfl (fun e23 => (gv e23)) (fun e24 => rfl) (pA _ _)) ?_
  refine sq_cons ⟨_, [(.t 4, bV (((leI 33 t0) && ((ltI t0 127) || (ltI 159 t0))) && ((!eqI t0 65533) || (eqI t1 3))))]⟩ (v_move (.inr rfl) trivial rfl (ble _ _ rfl) rfl) ?_
  refine sq_nil ?_
  refine ht_ret ?_
  cases h
  exact ret1 rfl (.tmp rfl)
set_option maxRecDepth 100000 in
set_option maxHeartbeats 4000000 in
theorem s32 (k : Nat) (t0 : ByteArray) (r : Bool) (h : F32 k t0 = some r) : Awp.Spec Tryd.prog amb 32 [(.s (.string t0))] (.ds [(.s (.bool r))]) := by
  rw [F32] at h
  refine spec_of Tryd.func32 rfl (ble _ _ rfl) fun w0 ok0 lt0 hA => ?_
  refine ht_seq ?_
  refine ht_region ?_
  refine sq_cons ⟨_, [(.t 2, bV false)]⟩ (v_move (.inr rfl) trivial rfl (ble _ _ rfl) rfl) ?_
  refine sq_nil ?_
  refine ht_gj (go_id' h) (fun _ => tell [(.t 0, sV t0)]) (fun _ h => ?_) (fun v1 K2 h j4 r5 => ?_)
  · refine ht_seq ?_
    refine ht_region ?_
    refine sq_cons ⟨_, [(.t 24, sV t0)]⟩ (v_move (.inl rfl) trivial rfl (ble _ _ rfl) rfl) ?_
    refine sq_cons ⟨_, [(.t 25, iV (t0.size : Int))]⟩ (v_len_str rfl rfl trivial rfl (ble _ _ rfl) und9 rfl) ?_
    refine sq_cons ⟨_, [(.t 26, bV (leI 1 (t0.size : Int)))]⟩ (v_bin rfl trivial rfl (ble _ _ rfl) rfl rfl (b_geq rfl)) ?_
    refine sq_cons ⟨_, [(.t 27, bV (leI 1 (t0.size : Int)))]⟩ (v_move (.inl rfl) trivial rfl (ble _ _ rfl) rfl) ?_
    refine sq_cons ⟨_, [(.t 28, mg (leI 1 (t0.size : Int)) (sV t0))]⟩ (v_cT rfl rfl rfl (ble _ _ rfl) rfl fun e15 => (v_move (.inl rfl) ⟨_, rfl, be e15⟩ rfl (ble _ _ rfl) rfl)) ?_
    refine sq_cons ⟨_, [(.t 29, mg (leI 1 (t0.size : Int)) (iV (t0.size : Int)))]⟩ (v_cT rfl rfl rfl (ble _ _ rfl) rfl fun e16 => (v_len_str rfl rfl ⟨_, rfl, be e16⟩ rfl (ble _ _ rfl) und9 (gv e16))) ?_
    refine sq_cons ⟨_, [(.t 30, mg (leI 1 (t0.size : Int)) (bV (leI (t0.size : Int) 16)))]⟩ (v_cT rfl rfl rfl (ble _ _ rfl) rfl fun e17 => (v_bin rfl ⟨_, rfl, be e17⟩ rfl (ble _ _ rfl) (gv e17) rfl (b_leq rfl))) ?_
    refine sq_cons ⟨_, [(.t 31, bV ((leI 1 (t0.size : Int)) && (leI (t0.size : Int) 16)))]⟩ (v_pickB rfl trivial rfl (ble _ _ rfl) rfl (fun e18 => (gv e18)) (fun e19 => rfl) (pA _ _)) ?_
    refine sq_cons ⟨_, [(.t 2, bV ((leI 1 (t0.size : Int)) && (leI (t0.size : Int) 16)))]⟩ (v_move (.inr rfl) trivial rfl (ble _ _ rfl) rfl) ?_
    refine sq_nil ?_
    refine ht_ret ?_
    cases h
    exact ret1 rfl (.tmp rfl)
  · refine ht_seq ?_
    refine ht_region ?_
    refine sq_cons ⟨_, [(.t 7, sV t0)]⟩ (v_move (.inl rfl) trivial rfl (ble _ _ rfl) rfl) ?_
    refine sq_cons ⟨_, [(.b 8, .iter t0 0), (.t 8, .ptr 8 0)]⟩ (v_range (id := 8) rfl trivial rfl (ble _ _ rfl) und9 rfl rfl) ?_
    refine sq_nil ?_
    refine ht_block ?_
    refine ht_rd h (fun _ => rfl) (fun t8p => tell [(.b 8, .iter t0 t8p), (.t 0, sV t0), (.t 8, .ptr 8 0)]) (wk_ren _ (fun i => i) rfl ⟨rfl, rfl, rfl, trivial⟩) fun k t8p h K14 j7 => ?_
    rw [F32_l1] at h
    refine ht_seq ?_
    refine ht_region ?_
    refine sq_cons ⟨_, [(.b 8, .iter t0 (nxp t0 t8p)), (.t 9, nxV t0 t8p)]⟩ (v_next rfl trivial rfl (ble _ _ rfl) rfl rfl) ?_
    refine sq_cons ⟨_, [(.t 10, bV (nxc t0 t8p))]⟩ (v_nx0 rfl trivial rfl (ble _ _ rfl) rfl) ?_
    refine sq_nil ?_
    refine ht_seq ?_
    refine ht_cond (b := (nxc t0 t8p)) rfl (fun e9 => ?_) (fun e9 => ?_)
    · replace h := cpos e9 h
      refine ht_weak (wk_eq (.t 9) (.tup [bV true, iV ((t8p : Nat) : Int), nV .i32 (nxr t0 t8p)]) (nxV_t e9)) ?_
      refine ht_weak (wk_eq (.b 8) (.iter t0 (nxw t0 t8p)) (nxp_t e9)) ?_
      refine ht_skip ?_
      refine ht_block ?_
      refine ht_seq ?_
      refine ht_region ?_
      refine sq_cons ⟨_, [(.t 11, iV ((t8p : Nat) : Int))]⟩ (v_extract rfl trivial rfl (ble _ _ rfl) rfl rfl) ?_
      refine sq_cons ⟨_, [(.t 12, nV .i32 (nxr t0 t8p))]⟩ (v_extract rfl trivial rfl (ble _ _ rfl) rfl rfl) ?_
      refine sq_cons ⟨_, [(.t 3, iV ((t8p : Nat) : Int))]⟩ (v_move (.inr rfl) trivial rfl (ble _ _ rfl) rfl) ?_
      refine sq_cons ⟨_, [(.t 4, nV .i32 (nxr t0 t8p))]⟩ (v_move (.inr rfl) trivial rfl (ble _ _ rfl) rfl) ?_
      refine sq_nil ?_
      refine ht_seq ?_
      refine ht_region ?_
      refine sq_cons ⟨_, [(.t 14, sV t0)]⟩ (v_move (.inl rfl) trivial rfl (ble _ _ rfl) rfl) ?_
      refine sq_cons ⟨_, [(.t 15, iV ((t8p : Nat) : Int))]⟩ (v_move (.inl rfl) trivial rfl (ble _ _ rfl) rfl) ?_
      obtain ⟨e10, h⟩ := gpos h
      refine sq_cons ⟨_, [(.t 16, sV (t0.extract ((t8p : Nat) : Int).toNat (t0.size : Int).toNat))]⟩ (w_cut_str t0 ((t8p : Nat) : Int) (t0.size : Int) rfl trivial rfl (ble _ _ rfl) und9 rfl (.inr ⟨_, _, rfl, rfl⟩) (.inl ⟨rfl, rfl⟩) e10) ?_
      obtain ⟨⟨t17a, t17b⟩, c11, h⟩ := bpos h
      refine sq_cons ⟨_, [(.t 17, .tup [nV .i32 t17a, iV t17b])]⟩ (w_call (ds := [(.s (.string (t0.extract ((t8p : Nat) : Int).toNat (t0.size : Int).toNat)))]) (caps := []) (l := [(.s (.int .i32 t17a)), (.s (.int .i64 t17b))]) (s43 k (t0.extract ((t8p : Nat) : Int).toNat (t0.size : Int).toNat) _ c11) rfl rfl rfl en43 trivial rfl (ble _ _ rfl) (.inl ⟨rfl, rfl⟩) rfl rfl) ?_
      refine sq_cons ⟨_, [(.t 13, .tup [nV .i32 t17a, iV t17b])]⟩ (v_move (.inl rfl) trivial rfl (ble _ _ rfl) rfl) ?_
      refine sq_cons ⟨_, [(.t 18, nV .i32 t17a)]⟩ (v_extract rfl trivial rfl (ble _ _ rfl) rfl rfl) ?_
      refine sq_cons ⟨_, [(.t 19, iV t17b)]⟩ (v_extract rfl trivial rfl (ble _ _ rfl) rfl rfl) ?_
      refine sq_cons ⟨_, [(.t 5, nV .i32 t17a)]⟩ (v_move (.inr rfl) trivial rfl (ble _ _ rfl) rfl) ?_
      refine sq_cons ⟨_, [(.t 6, iV t17b)]⟩ (v_move (.inr rfl) trivial rfl (ble _ _ rfl) rfl) ?_
      refine sq_nil ?_
      refine ht_seq ?_
      refine ht_region ?_
      refine sq_cons ⟨_, [(.t 20, nV .i32 (nxr t0 t8p))]⟩ (v_move (.inl rfl) trivial rfl (ble _ _ rfl) rfl) ?_
      refine sq_cons ⟨_, [(.t 21, iV t17b)]⟩ (v_move (.inl rfl) trivial rfl (ble _ _ rfl) rfl) ?_
      obtain ⟨t22, c12, h⟩ := bpos h
      refine sq_cons ⟨_, [(.t 22, bV t22)]⟩ (w_call (ds := [(.s (.int .i32 (nxr t0 t8p))), (.s (.int .i64 t17b))]) (caps := []) (l := [(.s (.bool t22))]) (s44 k (nxr t0 t8p) t17b _ c12) rfl rfl rfl en44 trivial rfl (ble _ _ rfl) (.inl ⟨rfl, rfl⟩) rfl rfl) ?_
      refine sq_cons ⟨_, [(.t 23, bV (!t22))]⟩ (v_un rfl trivial rfl (ble _ _ rfl) rfl (u_not rfl)) ?_
      refine sq_nil ?_
      refine ht_cond (b := (!t22)) rfl (fun e13 => ?_) (fun e13 => ?_)
      · replace h := cpos e13 h
        refine ht_seq ?_
        refine ht_region ?_
        refine sq_cons ⟨_, [(.t 2, bV false)]⟩ (v_move (.inr rfl) trivial rfl (ble _ _ rfl) rfl) ?_
        refine sq_nil ?_
        refine ht_ret ?_
        cases h
        cases r5 _ rfl
        exact ret1 rfl (.tmp rfl)
      · replace h := cneg e13 h
        refine ht_skip ?_
        exact j7 _ _ h (wk_ren _ (fun i => i) rfl ⟨rfl, rfl, rfl, trivial⟩)
    · replace h := cneg e9 h
      refine ht_exit ?_
      refine tq ?_
      refine tq ?_
      refine bq_hit ?_
      cases h
      exact j4 _ _ rfl (wk_ren _ (fun i => i) rfl ⟨rfl, trivial⟩)
set_option maxRecDepth 100000 in
set_option maxHeartbeats 4000000 in
theorem s33 (k : Nat) (t0 : ByteArray) (t1 : ByteArray) (r : Int) (h : F33 k t0 t1 = some r) : Awp.Spec Tryd.prog amb 33 [(.s (.string t0)), (.s (.string t1))] (.ds [(.s (.int .i64 r))]) := by
  rw [F33] at h
  refine spec_of Tryd.func33 rfl (ble _ _ rfl) fun w0 ok0 lt0 hA => ?_
  refine ht_seq ?_
  refine ht_region ?_
  refine sq_cons ⟨_, [(.t 4, iV 0)]⟩ (v_move (.inr rfl) trivial rfl (ble _ _ rfl) rfl) ?_
  refine sq_nil ?_
  refine ht_gj (go_id' h) (fun (t0_1, t1_1) => tell [(.t 0, sV t0_1), (.t 1, sV t1_1)]) (fun v1 h => ?_) (fun v1 K2 h j4 r5 => ?_)
  · obtain ⟨t0_1, t1_1⟩ := v1
    refine ht_seq ?_
    refine ht_block ?_
    refine ht_seq ?_
    refine ht_region ?_
    refine sq_cons ⟨_, [(.t 40, sV t0_1)]⟩ (v_move (.inl rfl) trivial rfl (ble _ _ rfl) rfl) ?_
    refine sq_cons ⟨_, [(.t 41, bV (!strEq t0_1 (⟨#[]⟩ : ByteArray)))]⟩ (v_bin rfl trivial rfl (ble _ _ rfl) rfl rfl (b_neS rfl)) ?_
    refine sq_cons ⟨_, [(.t 39, bV (!strEq t0_1 (⟨#[]⟩ : ByteArray)))]⟩ (v_move (.inr rfl) trivial rfl (ble _ _ rfl) rfl) ?_
    refine sq_nil ?_
    refine ht_cond (b := (!strEq t0_1 (⟨#[]⟩ : ByteArray))) rfl (fun e21 => ?_) (fun e21 => ?_)
    · replace h := cpos e21 h
      refine ht_seq ?_
      refine ht_region ?_
      refine sq_cons ⟨_, [(.t 4, iV 1)]⟩ (v_move (.inr rfl) trivial rfl (ble _ _ rfl) rfl) ?_
      refine sq_nil ?_
      refine ht_ret ?_
      cases h
      exact ret1 rfl (.tmp rfl)
    · replace h := cneg e21 h
      refine ht_seq ?_
      refine ht_region ?_
      refine sq_cons ⟨_, [(.t 43, sV t1_1)]⟩ (v_move (.inl rfl) trivial rfl (ble _ _ rfl) rfl) ?_
      refine sq_cons ⟨_, [(.t 44, bV (!strEq t1_1 (⟨#[]⟩ : ByteArray)))]⟩ (v_bin rfl trivial rfl (ble _ _ rfl) rfl rfl (b_neS rfl)) ?_
      refine sq_cons ⟨_, [(.t 42, bV (!strEq t1_1 (⟨#[]⟩ : ByteArray)))]⟩ (v_move (.inr rfl) trivial rfl (ble _ _ rfl) rfl) ?_
      refine sq_nil ?_
      refine ht_cond (b := (!strEq t1_1 (⟨#[]⟩ : ByteArray))) rfl (fun e22 => ?_) (fun e22 => ?_)
      · replace h := cpos e22 h
        refine ht_seq ?_
        refine ht_region ?_
        refine sq_cons ⟨_, [(.t 4, iV (-1))]⟩ (v_move (.inr rfl) trivial rfl (ble _ _ rfl) rfl) ?_
        refine sq_nil ?_
        refine ht_ret ?_
        cases h
        exact ret1 rfl (.tmp rfl)
      · replace h := cneg e22 h
        refine ht_skip ?_
        refine ht_seq ?_
        refine ht_region ?_
        refine sq_cons ⟨_, [(.t 4, iV 0)]⟩ (v_move (.inr rfl) trivial rfl (ble _ _ rfl) rfl) ?_
        refine sq_nil ?_
        refine ht_ret ?_
        cases h
        exact ret1 rfl (.tmp rfl)
  · refine ht_block ?_
    refine ht_rd h (fun _ => rfl) (fun (t0_2, t1_2) => tell [(.t 0, sV t0_2), (.t 1, sV t1_2)]) (wk_ren _ (fun i => i) rfl ⟨rfl, rfl, trivial⟩) fun k v8 h K20 j7 => ?_
    obtain ⟨t0_2, t1_2⟩ := v8
    rw [F33_l1] at h
    refine ht_seq ?_
    refine ht_seq ?_
    refine ht_region ?_
    refine sq_cons ⟨_, [(.t 9, sV t0_2)]⟩ (v_move (.inl rfl) trivial rfl (ble _ _ rfl) rfl) ?_
    refine sq_cons ⟨_, [(.t 10, bV (!strEq t0_2 (⟨#[]⟩ : ByteArray)))]⟩ (v_bin rfl trivial rfl (ble _ _ rfl) rfl rfl (b_neS rfl)) ?_
    refine sq_cons ⟨_, [(.t 11, bV (!strEq t0_2 (⟨#[]⟩ : ByteArray)))]⟩ (v_move (.inl rfl) trivial rfl (ble _ _ rfl) rfl) ?_
    refine sq_cons ⟨_, [(.t 12, mg (!strEq t0_2 (⟨#[]⟩ : ByteArray)) (sV t1_2))]⟩ (v_cT rfl rfl rfl (ble _ _ rfl) rfl fun e9 => (v_move (.inl rfl) ⟨_, rfl, be e9⟩ rfl (ble _ _ rfl) rfl)) ?_
    refine sq_cons ⟨_, [(.t 13, mg (!strEq t0_2 (⟨#[]⟩ : ByteArray)) (bV (!strEq t1_2 (⟨#[]⟩ : ByteArray))))]⟩ (v_cT rfl rfl rfl (ble _ _ rfl) rfl fun e10 => (v_bin rfl ⟨_, rfl, be e10⟩ rfl (ble _ _ rfl) (gv e10) rfl (b_neS rfl))) ?_
    refine sq_cons ⟨_, [(.t 14, bV ((!strEq t0_2 (⟨#[]⟩ : ByteArray)) && (!strEq t1_2 (⟨#[]⟩ : ByteArray))))]⟩ (v_pickB rfl trivial rfl (ble _ _ rfl) rfl (fun e11 => (gv e11)) (fun e12 => rfl) (pA _ _)) ?_
    refine sq_nil ?_
    refine ht_cond (b := ((!strEq t0_2 (⟨#[]⟩ : ByteArray)) && (!strEq t1_2 (⟨#[]⟩ : ByteArray)))) rfl (fun e13 => ?_) (fun e13 => ?_)
    · replace h := cpos e13 h
      refine ht_skip ?_
      refine ht_block ?_
      refine ht_seq ?_
      refine ht_region ?_
      refine sq_cons ⟨_, [(.t 16, sV t0_2)]⟩ (v_move (.inl rfl) trivial rfl (ble _ _ rfl) rfl) ?_
      obtain ⟨⟨t17a, t17b⟩, c14, h⟩ := bpos h
      refine sq_cons ⟨_, [(.t 17, .tup [nV .i32 t17a, iV t17b])]⟩ (w_call (ds := [(.s (.string t0_2))]) (caps := []) (l := [(.s (.int .i32 t17a)), (.s (.int .i64 t17b))]) (s43 k t0_2 _ c14) rfl rfl rfl en43 trivial rfl (ble _ _ rfl) (.inl ⟨rfl, rfl⟩) rfl rfl) ?_
      refine sq_cons ⟨_, [(.t 15, .tup [nV .i32 t17a, iV t17b])]⟩ (v_move (.inl rfl) trivial rfl (ble _ _ rfl) rfl) ?_
      refine sq_cons ⟨_, [(.t 18, nV .i32 t17a)]⟩ (v_extract rfl trivial rfl (ble _ _ rfl) rfl rfl) ?_
      refine sq_cons ⟨_, [(.t 19, iV t17b)]⟩ (v_extract rfl trivial rfl (ble _ _ rfl) rfl rfl) ?_
      refine sq_cons ⟨_, [(.t 5, nV .i32 t17a)]⟩ (v_move (.inr rfl) trivial rfl (ble _ _ rfl) rfl) ?_
      refine sq_cons ⟨_, [(.t 6, iV t17b)]⟩ (v_move (.inr rfl) trivial rfl (ble _ _ rfl) rfl) ?_
      refine sq_nil ?_
      refine ht_seq ?_
      refine ht_region ?_
      refine sq_cons ⟨_, [(.t 21, sV t1_2)]⟩ (v_move (.inl rfl) trivial rfl (ble _ _ rfl) rfl) ?_
      obtain ⟨⟨t22a, t22b⟩, c15, h⟩ := bpos h
      refine sq_cons ⟨_, [(.t 22, .tup [nV .i32 t22a, iV t22b])]⟩ (w_call (ds := [(.s (.string t1_2))]) (caps := []) (l := [(.s (.int .i32 t22a)), (.s (.int .i64 t22b))]) (s43 k t1_2 _ c15) rfl rfl rfl en43 trivial rfl (ble _ _ rfl) (.inl ⟨rfl, rfl⟩) rfl rfl) ?_
      refine sq_cons ⟨_, [(.t 20, .tup [nV .i32 t22a, iV t22b])]⟩ (v_move (.inl rfl) trivial rfl (ble _ _ rfl) rfl) ?_
      refine sq_cons ⟨_, [(.t 23, nV .i32 t22a)]⟩ (v_extract rfl trivial rfl (ble _ _ rfl) rfl rfl) ?_
      refine sq_cons ⟨_, [(.t 24, iV t22b)]⟩ (v_extract rfl trivial rfl (ble _ _ rfl) rfl rfl) ?_
      refine sq_cons ⟨_, [(.t 7, nV .i32 t22a)]⟩ (v_move (.inr rfl) trivial rfl (ble _ _ rfl) rfl) ?_
      refine sq_cons ⟨_, [(.t 8, iV t22b)]⟩ (v_move (.inr rfl) trivial rfl (ble _ _ rfl) rfl) ?_
      refine sq_nil ?_
      refine ht_seq ?_
      refine ht_block ?_
      refine ht_seq ?_
      refine ht_region ?_
      refine sq_cons ⟨_, [(.t 26, nV .i32 t17a)]⟩ (v_move (.inl rfl) trivial rfl (ble _ _ rfl) rfl) ?_
      refine sq_cons ⟨_, [(.t 27, nV .i32 t22a)]⟩ (v_move (.inl rfl) trivial rfl (ble _ _ rfl) rfl) ?_
      refine sq_cons ⟨_, [(.t 28, bV (ltI t17a t22a))]⟩ (v_bin rfl trivial rfl (ble _ _ rfl) rfl rfl (b_lss rfl)) ?_
      refine sq_cons ⟨_, [(.t 25, bV (ltI t17a t22a))]⟩ (v_move (.inr rfl) trivial rfl (ble _ _ rfl) rfl) ?_
      refine sq_nil ?_
      refine ht_cond (b := (ltI t17a t22a)) rfl (fun e16 => ?_) (fun e16 => ?_)
      · replace h := cpos e16 h
        refine ht_seq ?_
        refine ht_region ?_
        refine sq_cons ⟨_, [(.t 4, iV (-1))]⟩ (v_move (.inr rfl) trivial rfl (ble _ _ rfl) rfl) ?_
        refine sq_nil ?_
        refine ht_ret ?_
        cases h
        cases r5 _ rfl
        exact ret1 rfl (.tmp rfl)
      · replace h := cneg e16 h
        refine ht_seq ?_
        refine ht_region ?_
        refine sq_cons ⟨_, [(.t 30, nV .i32 t17a)]⟩ (v_move (.inl rfl) trivial rfl (ble _ _ rfl) rfl) ?_
        refine sq_cons ⟨_, [(.t 31, nV .i32 t22a)]⟩ (v_move (.inl rfl) trivial rfl (ble _ _ rfl) rfl) ?_
        refine sq_cons ⟨_, [(.t 32, bV (ltI t22a t17a))]⟩ (v_bin rfl trivial rfl (ble _ _ rfl) rfl rfl (b_gtr rfl)) ?_
        refine sq_cons ⟨_, [(.t 29, bV (ltI t22a t17a))]⟩ (v_move (.inr rfl) trivial rfl (ble _ _ rfl) rfl) ?_
        refine sq_nil ?_
        refine ht_cond (b := (ltI t22a t17a)) rfl (fun e17 => ?_) (fun e17 => ?_)
        · replace h := cpos e17 h
          refine ht_seq ?_
          refine ht_region ?_
          refine sq_cons ⟨_, [(.t 4, iV 1)]⟩ (v_move (.inr rfl) trivial rfl (ble _ _ rfl) rfl) ?_
          refine sq_nil ?_
          refine ht_ret ?_
          cases h
          cases r5 _ rfl
          exact ret1 rfl (.tmp rfl)
        · replace h := cneg e17 h
          refine ht_skip ?_
          refine ht_region_draw mixed ?_
          refine rg_cons ⟨_, [(.t 33, sV t0_2)]⟩ (v_move (.inl rfl) trivial rfl (ble _ _ rfl) rfl) ?_
          refine rg_cons ⟨_, [(.t 34, iV t17b)]⟩ (v_move (.inl rfl) trivial rfl (ble _ _ rfl) rfl) ?_
          obtain ⟨e18, h⟩ := gpos h
          refine rg_cons ⟨_, [(.t 35, sV (t0_2.extract t17b.toNat (t0_2.size : Int).toNat))]⟩ (w_cut_str t0_2 t17b (t0_2.size : Int) rfl trivial rfl (ble _ _ rfl) und9 rfl (.inr ⟨_, _, rfl, rfl⟩) (.inl ⟨rfl, rfl⟩) e18) ?_
          refine rg_cons ⟨_, [(.t 36, sV t1_2)]⟩ (v_move (.inl rfl) trivial rfl (ble _ _ rfl) rfl) ?_
          refine rg_cons ⟨_, [(.t 37, iV t22b)]⟩ (v_move (.inl rfl) trivial rfl (ble _ _ rfl) rfl) ?_
          obtain ⟨e19, h⟩ := gpos h
          refine rg_cons ⟨_, [(.t 38, sV (t1_2.extract t22b.toNat (t1_2.size : Int).toNat))]⟩ (w_cut_str t1_2 t22b (t1_2.size : Int) rfl trivial rfl (ble _ _ rfl) und9 rfl (.inr ⟨_, _, rfl, rfl⟩) (.inl ⟨rfl, rfl⟩) e19) ?_
          refine rg_cons ⟨_, [(.t 0, sV (t0_2.extract t17b.toNat (t0_2.size : Int).toNat))]⟩ (v_move (.inr rfl) trivial rfl (ble _ _ rfl) rfl) ?_
          refine rg_cons ⟨_, [(.t 1, sV (t1_2.extract t22b.toNat (t1_2.size : Int).toNat))]⟩ (v_move (.inr rfl) trivial rfl (ble _ _ rfl) rfl) ?_
          refine rg_nil ⟨by kernel_rfl, ?_⟩
          exact j7 _ _ h (wk_ren _ (fun i => i) rfl ⟨rfl, rfl, trivial⟩)
    · replace h := cneg e13 h
      refine ht_exit ?_
      refine tq ?_
      refine tq ?_
      refine bq_hit ?_
      cases h
      exact j4 _ _ rfl (wk_ren _ (fun i => i) rfl ⟨rfl, rfl, trivial⟩)
set_option maxRecDepth 100000 in
set_option maxHeartbeats 4000000 in
theorem s23 (k : Nat) (t0 : Span) (r : Bool) (h : F23 k t0 = some r) : Awp.Spec Tryd.prog amb 23 [(.agg (eSpan t0))] (.ds [(.s (.bool r))]) := by
  rw [F23] at h
  refine spec_of Tryd.func23 rfl (ble _ _ rfl) fun w0 ok0 lt0 hA => ?_
  refine ht_seq ?_
  refine ht_region ?_
  refine sq_cons ⟨_, [(.t 1, .d (.dp (eSpan t0)))]⟩ (v_box_d (cs := (eSpan t0)) rfl trivial rfl (ble _ _ rfl) rfl rfl (ones_of rfl)) ?_
  refine sq_cons ⟨_, [(.t 2, bV false)]⟩ (v_move (.inr rfl) trivial rfl (ble _ _ rfl) rfl) ?_
  refine sq_nil ?_
  refine ht_seq ?_
  refine ht_seq ?_
  refine ht_region ?_
  refine sq_cons ⟨_, [(.t 3, .d (.dp (eSpan t0)))]⟩ (v_field_dp (a0 := 0) (cs := (eSpan t0)) rfl trivial rfl (ble _ _ rfl) fo57_0 rfl) ?_
  refine sq_cons ⟨_, [(.t 4, sV t0.mLo)]⟩ (v_load_dp1 rfl trivial rfl (ble _ _ rfl) onT9 rfl rfl) ?_
  refine sq_cons ⟨_, [(.t 5, bV (!strEq t0.mLo (⟨#[]⟩ : ByteArray)))]⟩ (v_bin rfl trivial rfl (ble _ _ rfl) rfl rfl (b_neS rfl)) ?_
  refine sq_cons ⟨_, [(.t 6, bV (!strEq t0.mLo (⟨#[]⟩ : ByteArray)))]⟩ (v_move (.inl rfl) trivial rfl (ble _ _ rfl) rfl) ?_
  refine sq_cons ⟨_, [(.t 7, mg (!strEq t0.mLo (⟨#[]⟩ : ByteArray)) (.d (.dp (eSpan t0))))]⟩ (v_cT rfl rfl rfl (ble _ _ rfl) rfl fun e1 => (v_field_dp (a0 := 0) (cs := (eSpan t0)) rfl ⟨_, rfl, be e1⟩ rfl (ble _ _ rfl) fo57_0 rfl)) ?_
  refine sq_cons ⟨_, [(.t 8, mg (!strEq t0.mLo (⟨#[]⟩ : ByteArray)) (sV t0.mLo))]⟩ (v_cT rfl rfl rfl (ble _ _ rfl) rfl fun e2 => (v_load_dp1 rfl ⟨_, rfl, be e2⟩ rfl (ble _ _ rfl) onT9 (gv e2) rfl)) ?_
  obtain ⟨t9, c4, h⟩ := bpos h
  refine sq_cons ⟨_, [(.t 9, mg (!strEq t0.mLo (⟨#[]⟩ : ByteArray)) (bV t9))]⟩ (v_cT rfl rfl rfl (ble _ _ rfl) rfl fun e3 => (w_call (ds := [(.s (.string t0.mLo))]) (caps := []) (l := [(.s (.bool t9))]) (s32 k t0.mLo _ (cpos e3 c4)) rfl rfl rfl en32 ⟨_, rfl, be e3⟩ rfl (ble _ _ rfl) (.inl ⟨rfl, rfl⟩) (cc (gv e3) rfl) rfl)) ?_
  refine sq_cons ⟨_, [(.t 10, mg (!strEq t0.mLo (⟨#[]⟩ : ByteArray)) (bV (!t9)))]⟩ (v_cT rfl rfl rfl (ble _ _ rfl) rfl fun e5 => (v_un rfl ⟨_, rfl, be e5⟩ rfl (ble _ _ rfl) (gv e5) (u_not rfl))) ?_
  refine sq_cons ⟨_, [(.t 11, bV ((!strEq t0.mLo (⟨#[]⟩ : ByteArray)) && (!t9)))]⟩ (v_pickB rfl trivial rfl (ble _ _ rfl) rfl (fun e6 => (gv e6)) (fun e7 => rfl) (pA _ _)) ?_
  refine sq_nil ?_
  refine ht_cond (b := ((!strEq t0.mLo (⟨#[]⟩ : ByteArray)) && (!t9))) rfl (fun e8 => ?_) (fun e8 => ?_)
  · replace h := cpos e8 h
    refine ht_seq ?_
    refine ht_region ?_
    refine sq_cons ⟨_, [(.t 2, bV false)]⟩ (v_move (.inr rfl) trivial rfl (ble _ _ rfl) rfl) ?_
    refine sq_nil ?_
    refine ht_ret ?_
    cases h
    exact ret1 rfl (.tmp rfl)
  · replace h := cneg e8 h
    refine ht_skip ?_
    refine ht_seq ?_
    refine ht_region ?_
    refine sq_cons ⟨_, [(.t 12, .d (.dp (List.drop 1 (eSpan t0))))]⟩ (v_field_dp (a0 := 1) (cs := (eSpan t0)) rfl trivial rfl (ble _ _ rfl) fo57_1 rfl) ?_
    refine sq_cons ⟨_, [(.t 13, sV t0.mHi)]⟩ (v_load_dp1 rfl trivial rfl (ble _ _ rfl) onT9 rfl rfl) ?_
    refine sq_cons ⟨_, [(.t 14, bV (strEq t0.mHi (⟨#[]⟩ : ByteArray)))]⟩ (v_bin rfl trivial rfl (ble _ _ rfl) rfl rfl (b_eqS rfl)) ?_
    refine sq_cons ⟨_, [(.t 15, bV (strEq t0.mHi (⟨#[]⟩ : ByteArray)))]⟩ (v_move (.inl rfl) trivial rfl (ble _ _ rfl) rfl) ?_
    refine sq_cons ⟨_, [(.t 16, mg (!(strEq t0.mHi (⟨#[]⟩ : ByteArray))) (.d (.dp (List.drop 1 (eSpan t0)))))]⟩ (v_cF rfl rfl rfl (ble _ _ rfl) rfl fun e9 => (v_field_dp (a0 := 1) (cs := (eSpan t0)) rfl ⟨_, rfl, be e9⟩ rfl (ble _ _ rfl) fo57_1 rfl)) ?_
    refine sq_cons ⟨_, [(.t 17, mg (!(strEq t0.mHi (⟨#[]⟩ : ByteArray))) (sV t0.mHi))]⟩ (v_cF rfl rfl rfl (ble _ _ rfl) rfl fun e10 => (v_load_dp1 rfl ⟨_, rfl, be e10⟩ rfl (ble _ _ rfl) onT9 (gv (nF e10)) rfl)) ?_
    obtain ⟨t18, c12, h⟩ := bpos h
    refine sq_cons ⟨_, [(.t 18, mg (!(strEq t0.mHi (⟨#[]⟩ : ByteArray))) (bV t18))]⟩ (v_cF rfl rfl rfl (ble _ _ rfl) rfl fun e11 => (w_call (ds := [(.s (.string t0.mHi))]) (caps := []) (l := [(.s (.bool t18))]) (s32 k t0.mHi _ (cpos (nF e11) c12)) rfl rfl rfl en32 ⟨_, rfl, be e11⟩ rfl (ble _ _ rfl) (.inl ⟨rfl, rfl⟩) (cc (gv (nF e11)) rfl) rfl)) ?_
    refine sq_cons ⟨_, [(.t 19, mg (!(strEq t0.mHi (⟨#[]⟩ : ByteArray))) (bV t18))]⟩ (v_cF rfl rfl rfl (ble _ _ rfl) rfl fun e13 => (v_move (.inl rfl) ⟨_, rfl, be e13⟩ rfl (ble _ _ rfl) (gv (nF e13)))) ?_
    refine sq_cons ⟨_, [(.t 20, mg ((!(strEq t0.mHi (⟨#[]⟩ : ByteArray))) && t18) (.d (.dp (eSpan t0))))]⟩ (v_mT rfl rfl rfl (ble _ _ rfl) rfl fun e14 e15 => (v_field_dp (a0 := 0) (cs := (eSpan t0)) rfl ⟨_, rfl, bm e14 e15⟩ rfl (ble _ _ rfl) fo57_0 rfl)) ?_
    refine sq_cons ⟨_, [(.t 21, mg ((!(strEq t0.mHi (⟨#[]⟩ : ByteArray))) && t18) (sV t0.mLo))]⟩ (v_mT rfl rfl rfl (ble _ _ rfl) rfl fun e16 e17 => (v_load_dp1 rfl ⟨_, rfl, bm e16 e17⟩ rfl (ble _ _ rfl) onT9 (gv (aT e16 e17)) rfl)) ?_
    refine sq_cons ⟨_, [(.t 22, mg ((!(strEq t0.mHi (⟨#[]⟩ : ByteArray))) && t18) (.d (.dp (List.drop 1 (eSpan t0)))))]⟩ (v_mT rfl rfl rfl (ble _ _ rfl) rfl fun e18 e19 => (v_field_dp (a0 := 1) (cs := (eSpan t0)) rfl ⟨_, rfl, bm e18 e19⟩ rfl (ble _ _ rfl) fo57_1 rfl)) ?_
    refine sq_cons ⟨_, [(.t 23, mg ((!(strEq t0.mHi (⟨#[]⟩ : ByteArray))) && t18) (sV t0.mHi))]⟩ (v_mT rfl rfl rfl (ble _ _ rfl) rfl fun e20 e21 => (v_load_dp1 rfl ⟨_, rfl, bm e20 e21⟩ rfl (ble _ _ rfl) onT9 (gv (aT e20 e21)) rfl)) ?_
    obtain ⟨t24, c24, h⟩ := bpos h
    refine sq_cons ⟨_, [(.t 24, mg ((!(strEq t0.mHi (⟨#[]⟩ : ByteArray))) && t18) (iV t24))]⟩ (v_mT rfl rfl rfl (ble _ _ rfl) rfl fun e22 e23 => (w_call (ds := [(.s (.string t0.mLo)), (.s (.string t0.mHi))]) (caps := []) (l := [(.s (.int .i64 t24))]) (s33 k t0.mLo t0.mHi _ (cpos (aT e22 e23) c24)) rfl rfl rfl en33 ⟨_, rfl, bm e22 e23⟩ rfl (ble _ _ rfl) (.inl ⟨rfl, rfl⟩) (cc (gv (aT e22 e23)) (cc (gv (aT e22 e23)) rfl)) rfl)) ?_
    refine sq_cons ⟨_, [(.t 25, mg ((!(strEq t0.mHi (⟨#[]⟩ : ByteArray))) && t18) (bV (ltI t24 0)))]⟩ (v_mT rfl rfl rfl (ble _ _ rfl) rfl fun e25 e26 => (v_bin rfl ⟨_, rfl, bm e25 e26⟩ rfl (ble _ _ rfl) (gv (aT e25 e26)) rfl (b_lss rfl))) ?_
    refine sq_cons ⟨_, [(.t 26, mg (!(strEq t0.mHi (⟨#[]⟩ : ByteArray))) (bV (t18 && (ltI t24 0))))]⟩ (v_cF rfl rfl rfl (ble _ _ rfl) rfl fun e27 => (v_pickB rfl ⟨_, rfl, be e27⟩ rfl (ble _ _ rfl) (gv (nF e27)) (fun e28 => (gv (aT (nF e27) e28))) (fun e29 => rfl) (pA _ _))) ?_
    refine sq_cons ⟨_, [(.t 27, bV ((strEq t0.mHi (⟨#[]⟩ : ByteArray)) || (t18 && (ltI t24 0))))]⟩ (v_pickB rfl trivial rfl (ble _ _ rfl) rfl (fun e30 => rfl) (fun e31 => (gv (nF e31))) (pO _ _)) ?_
    refine sq_cons ⟨_, [(.t 2, bV ((strEq t0.mHi (⟨#[]⟩ : ByteArray)) || (t18 && (ltI t24 0))))]⟩ (v_move (.inr rfl) trivial rfl (ble _ _ rfl) rfl) ?_
    refine sq_nil ?_
    refine ht_ret ?_
    cases h
    exact ret1 rfl (.tmp rfl)
set_option maxRecDepth 100000 in
set_option maxHeartbeats 4000000 in
theorem s42 (k : Nat) (t0 : List Span) (r : Bool) (h : F42 k t0 = some r) : Awp.Spec Tryd.prog amb 42 [(.sl 2 (t0.map eSpan))] (.ds [(.s (.bool r))]) := by
  rw [F42] at h
  refine spec_of Tryd.func42 rfl (ble _ _ rfl) fun w0 ok0 lt0 hA => ?_
  refine ht_seq ?_
  refine ht_region ?_
  refine sq_cons ⟨_, [(.t 2, bV false)]⟩ (v_move (.inr rfl) trivial rfl (ble _ _ rfl) rfl) ?_
  refine sq_nil ?_
  refine ht_seq ?_
  refine ht_region ?_
  refine sq_cons ⟨_, [(.t 3, sV (⟨#[]⟩ : ByteArray))]⟩ (v_move (.inr rfl) trivial rfl (ble _ _ rfl) rfl) ?_
  refine sq_nil ?_
  refine ht_gj (go_id' h) (fun t3 => tell [(.t 0, .d (.sl 2 (t0.map eSpan))), (.t 3, sV t3)]) (fun t3 h => ?_) (fun v1 K2 h j4 r5 => ?_)
  · refine ht_seq ?_
    refine ht_region ?_
    refine sq_cons ⟨_, [(.t 33, .d (.sl 2 (t0.map eSpan)))]⟩ (v_move (.inl rfl) trivial rfl (ble _ _ rfl) rfl) ?_
    refine sq_cons ⟨_, [(.t 34, iV (t0.length : Int))]⟩ (w_len t0 eSpan rfl rfl trivial rfl (ble _ _ rfl) slT79 rfl) ?_
    refine sq_cons ⟨_, [(.t 35, bV (ltI 0 (t0.length : Int)))]⟩ (v_bin rfl trivial rfl (ble _ _ rfl) rfl rfl (b_gtr rfl)) ?_
    refine sq_cons ⟨_, [(.t 36, bV (ltI 0 (t0.length : Int)))]⟩ (v_move (.inl rfl) trivial rfl (ble _ _ rfl) rfl) ?_
    refine sq_cons ⟨_, [(.t 37, mg (ltI 0 (t0.length : Int)) (sV t3))]⟩ (v_cT rfl rfl rfl (ble _ _ rfl) rfl fun e32 => (v_move (.inl rfl) ⟨_, rfl, be e32⟩ rfl (ble _ _ rfl) rfl)) ?_
    refine sq_cons ⟨_, [(.t 38, mg (ltI 0 (t0.length : Int)) (bV (strEq t3 (⟨#[]⟩ : ByteArray))))]⟩ (v_cT rfl rfl rfl (ble _ _ rfl) rfl fun e33 => (v_bin rfl ⟨_, rfl, be e33⟩ rfl (ble _ _ rfl) (gv e33) rfl (b_eqS rfl))) ?_
    refine sq_cons ⟨_, [(.t 39, bV ((ltI 0 (t0.length : Int)) && (strEq t3 (⟨#[]⟩ : ByteArray))))]⟩ (v_pickB rfl trivial rfl (ble _ _ rfl) rfl (fun e34 => (gv e34)) (fun e35 => rfl) (pA _ _)) ?_
    refine sq_cons ⟨_, [(.t 2, bV ((ltI 0 (t0.length : Int)) && (strEq t3 (⟨#[]⟩ : ByteArray))))]⟩ (v_move (.inr rfl) trivial rfl (ble _ _ rfl) rfl) ?_
    refine sq_nil ?_
    refine ht_ret ?_
    cases h
    exact ret1 rfl (.tmp rfl)
  · refine ht_seq ?_
    refine ht_region ?_
    refine sq_cons ⟨_, [(.t 6, .d (.sl 2 (t0.map eSpan)))]⟩ (v_move (.inl rfl) trivial rfl (ble _ _ rfl) rfl) ?_
    refine sq_cons ⟨_, [(.t 7, iV (t0.length : Int))]⟩ (w_len t0 eSpan rfl rfl trivial rfl (ble _ _ rfl) slT79 rfl) ?_
    refine sq_cons ⟨_, [(.t 8, iV 0)]⟩ (v_move (.inl rfl) trivial rfl (ble _ _ rfl) rfl) ?_
    refine sq_nil ?_
    refine ht_block ?_
    refine ht_rd h (fun _ => rfl) (fun (t3_1, t8) => tell [(.t 0, .d (.sl 2 (t0.map eSpan))), (.t 3, sV t3_1), (.t 6, .d (.sl 2 (t0.map eSpan))), (.t 7, iV (t0.length : Int)), (.t 8, iV t8)]) (wk_ren _ (fun i => i) rfl ⟨rfl, rfl, rfl, rfl, rfl, trivial⟩) fun k v8 h K31 j7 => ?_
    obtain ⟨t3_1, t8⟩ := v8
    rw [F42_l1] at h
    refine ht_seq ?_
    refine ht_region ?_
    refine sq_cons ⟨_, [(.t 9, bV (ltI t8 (t0.length : Int)))]⟩ (v_bin rfl trivial rfl (ble _ _ rfl) rfl rfl (b_lss rfl)) ?_
    refine sq_nil ?_
    refine ht_seq ?_
    refine ht_cond (b := (ltI t8 (t0.length : Int))) rfl (fun e9 => ?_) (fun e9 => ?_)
    · replace h := cpos e9 h
      refine ht_skip ?_
      refine ht_seq ?_
      refine ht_block ?_
      refine ht_seq ?_
      refine ht_region ?_
      refine sq_cons ⟨_, [(.t 10, iV t8)]⟩ (v_move (.inl rfl) trivial rfl (ble _ _ rfl) rfl) ?_
      obtain ⟨e10, h⟩ := gpos h
      refine sq_cons ⟨_, [(.t 11, .d (.dp (eSpan (rd t0 t8))))]⟩ (w_idx t0 eSpan rfl trivial rfl (ble _ _ rfl) slT79 rfl rfl e10) ?_
      refine sq_cons ⟨_, [(.t 12, .d (.agg (eSpan (rd t0 t8))))]⟩ (w_ldp (eSpan (rd t0 t8)) (eSpan (rd t0 t8)) rfl trivial rfl (ble _ _ rfl) ag57 rfl (ble _ _ rfl) rfl) ?_
      refine sq_cons _ (v_alloc (id := 5) (cs := zc57) rfl trivial rfl (ble _ _ rfl) zu57 rfl ft57 rfl) ?_
      refine sq_cons ⟨_, [(.t 4, iV t8)]⟩ (v_move (.inr rfl) trivial rfl (ble _ _ rfl) rfl) ?_
      refine sq_cons _ (v_store_box (id := 5) (off := 0) (cs := (eSpan (rd t0 t8)).map V.d) rfl trivial rfl sz57 rfl rfl rfl rfl (ones_of rfl) (ble _ _ rfl)) ?_
      refine sq_nil ?_
      refine ht_seq ?_
      refine ht_seq ?_
      refine ht_region ?_
      refine sq_cons ⟨_, [(.t 13, .d (.agg (eSpan (rd t0 t8))))]⟩ (w_ldb 5 0 rfl trivial rfl (ble _ _ rfl) ag57 rfl rfl (ble _ _ rfl) rfl) ?_
      obtain ⟨t14, c11, h⟩ := bpos h
      refine sq_cons ⟨_, [(.t 14, bV t14)]⟩ (w_call (ds := [(.agg (eSpan (rd t0 t8)))]) (caps := []) (l := [(.s (.bool t14))]) (s23 k (rd t0 t8) _ c11) rfl rfl rfl en23 trivial rfl (ble _ _ rfl) (.inl ⟨rfl, rfl⟩) rfl rfl) ?_
      refine sq_cons ⟨_, [(.t 15, bV (!t14))]⟩ (v_un rfl trivial rfl (ble _ _ rfl) rfl (u_not rfl)) ?_
      refine sq_cons ⟨_, [(.t 16, bV (!t14))]⟩ (v_move (.inl rfl) trivial rfl (ble _ _ rfl) rfl) ?_
      refine sq_cons ⟨_, [(.t 17, mg (!(!t14)) (.ptr 5 0))]⟩ (v_cF rfl rfl rfl (ble _ _ rfl) rfl fun e12 => (v_field_box (off := 0) (a0 := 0) rfl ⟨_, rfl, be e12⟩ rfl (ble _ _ rfl) fo57_0 rfl)) ?_
      refine sq_cons ⟨_, [(.t 18, mg (!(!t14)) (sV (rd t0 t8).mLo))]⟩ (v_cF rfl rfl rfl (ble _ _ rfl) rfl fun e13 => (v_load_box1 (id := 5) (off := 0) rfl ⟨_, rfl, be e13⟩ rfl (ble _ _ rfl) onT9 (gv (nF e13)) rfl (ble _ _ rfl) rfl)) ?_
      refine sq_cons ⟨_, [(.t 19, mg (!(!t14)) (sV t3_1))]⟩ (v_cF rfl rfl rfl (ble _ _ rfl) rfl fun e14 => (v_move (.inl rfl) ⟨_, rfl, be e14⟩ rfl (ble _ _ rfl) rfl)) ?_
      refine sq_cons ⟨_, [(.t 20, mg (!(!t14)) (bV (!strEq (rd t0 t8).mLo t3_1)))]⟩ (v_cF rfl rfl rfl (ble _ _ rfl) rfl fun e15 => (v_bin rfl ⟨_, rfl, be e15⟩ rfl (ble _ _ rfl) (gv (nF e15)) (gv (nF e15)) (b_neS rfl))) ?_
      refine sq_cons ⟨_, [(.t 21, bV ((!t14) || (!strEq (rd t0 t8).mLo t3_1)))]⟩ (v_pickB rfl trivial rfl (ble _ _ rfl) rfl (fun e16 => rfl) (fun e17 => (gv (nF e17))) (pO _ _)) ?_
      refine sq_cons ⟨_, [(.t 22, bV ((!t14) || (!strEq (rd t0 t8).mLo t3_1)))]⟩ (v_move (.inl rfl) trivial rfl (ble _ _ rfl) rfl) ?_
      refine sq_cons ⟨_, [(.t 23, mg (!((!t14) || (!strEq (rd t0 t8).mLo t3_1))) (iV t8))]⟩ (v_cF rfl rfl rfl (ble _ _ rfl) rfl fun e18 => (v_move (.inl rfl) ⟨_, rfl, be e18⟩ rfl (ble _ _ rfl) rfl)) ?_
      refine sq_cons ⟨_, [(.t 24, mg (!((!t14) || (!strEq (rd t0 t8).mLo t3_1))) (bV (ltI 0 t8)))]⟩ (v_cF rfl rfl rfl (ble _ _ rfl) rfl fun e19 => (v_bin rfl ⟨_, rfl, be e19⟩ rfl (ble _ _ rfl) (gv (nF e19)) rfl (b_gtr rfl))) ?_
      refine sq_cons ⟨_, [(.t 25, mg (!((!t14) || (!strEq (rd t0 t8).mLo t3_1))) (bV (ltI 0 t8)))]⟩ (v_cF rfl rfl rfl (ble _ _ rfl) rfl fun e20 => (v_move (.inl rfl) ⟨_, rfl, be e20⟩ rfl (ble _ _ rfl) (gv (nF e20)))) ?_
      refine sq_cons ⟨_, [(.t 26, mg ((!((!t14) || (!strEq (rd t0 t8).mLo t3_1))) && (ltI 0 t8)) (sV t3_1))]⟩ (v_mT rfl rfl rfl (ble _ _ rfl) rfl fun e21 e22 => (v_move (.inl rfl) ⟨_, rfl, bm e21 e22⟩ rfl (ble _ _ rfl) rfl)) ?_
      refine sq_cons ⟨_, [(.t 27, mg ((!((!t14) || (!strEq (rd t0 t8).mLo t3_1))) && (ltI 0 t8)) (bV (strEq t3_1 (⟨#[]⟩ : ByteArray))))]⟩ (v_mT rfl rfl rfl (ble _ _ rfl) rfl fun e23 e24 => (v_bin rfl ⟨_, rfl, bm e23 e24⟩ rfl (ble _ _ rfl) (gv (aT e23 e24)) rfl (b_eqS rfl))) ?_
      refine sq_cons ⟨_, [(.t 28, mg (!((!t14) || (!strEq (rd t0 t8).mLo t3_1))) (bV ((ltI 0 t8) && (strEq t3_1 (⟨#[]⟩ : ByteArray)))))]⟩ (v_cF rfl rfl rfl (ble _ _ rfl) rfl fun e25 => (v_pickB rfl ⟨_, rfl, be e25⟩ rfl (ble _ _ rfl) (gv (nF e25)) (fun e26 => (gv (aT (nF e25) e26))) (fun e27 => rfl) (pA _ _))) ?_
      refine sq_cons ⟨_, [(.t 29, bV (((!t14) || (!strEq (rd t0 t8).mLo t3_1)) || ((ltI 0 t8) && (strEq t3_1 (⟨#[]⟩ : ByteArray)))))]⟩ (v_pickB rfl trivial rfl (ble _ _ rfl) rfl (fun e28 => rfl) (fun e29 => (gv (nF e29))) (pO _ _)) ?_
      refine sq_nil ?_
      refine ht_cond (b := (((!t14) || (!strEq (rd t0 t8).mLo t3_1)) || ((ltI 0 t8) && (strEq t3_1 (⟨#[]⟩ : ByteArray))))) rfl (fun e30 => ?_) (fun e30 => ?_)
      · replace h := cpos e30 h
        refine ht_seq ?_
        refine ht_region ?_
        refine sq_cons ⟨_, [(.t 2, bV false)]⟩ (v_move (.inr rfl) trivial rfl (ble _ _ rfl) rfl) ?_
        refine sq_nil ?_
        refine ht_ret ?_
        cases h
        cases r5 _ rfl
        exact ret1 rfl (.tmp rfl)
      · replace h := cneg e30 h
        refine ht_skip ?_
        refine ht_region ?_
        refine sq_cons ⟨_, [(.t 30, .ptr 5 1)]⟩ (v_field_box (off := 0) (a0 := 1) rfl trivial rfl (ble _ _ rfl) fo57_1 rfl) ?_
        refine sq_cons ⟨_, [(.t 31, sV (rd t0 t8).mHi)]⟩ (v_load_box1 (id := 5) (off := 1) rfl trivial rfl (ble _ _ rfl) onT9 rfl rfl (ble _ _ rfl) rfl) ?_
        refine sq_cons ⟨_, [(.t 3, sV (rd t0 t8).mHi)]⟩ (v_move (.inr rfl) trivial rfl (ble _ _ rfl) rfl) ?_
        refine sq_nil ?_
        refine ht_region ?_
        refine sq_cons ⟨_, [(.t 32, iV (IntKind.wrap .i64 (t8 + 1)))]⟩ (v_bin rfl trivial rfl (ble _ _ rfl) rfl rfl (b_add rfl)) ?_
        refine sq_cons ⟨_, [(.t 8, iV (IntKind.wrap .i64 (t8 + 1)))]⟩ (v_move (.inl rfl) trivial rfl (ble _ _ rfl) rfl) ?_
        refine sq_nil ?_
        exact j7 _ _ h (wk_ren _ (fun i => i) rfl ⟨rfl, rfl, rfl, rfl, rfl, trivial⟩)
    · replace h := cneg e9 h
      refine ht_exit ?_
      refine tq ?_
      refine tq ?_
      refine bq_hit ?_
      cases h
      exact j4 _ _ rfl (wk_ren _ (fun i => i) rfl ⟨rfl, rfl, trivial⟩)
set_option maxRecDepth 100000 in
set_option maxHeartbeats 4000000 in
theorem s30 (k : Nat) (t0 : List Place) (r : Bool) (h : F30 k t0 = some r) : Awp.Spec Tryd.prog amb 30 [(.sl 5 (t0.map ePlace))] (.ds [(.s (.bool r))]) := by
  rw [F30] at h
  refine spec_of Tryd.func30 rfl (ble _ _ rfl) fun w0 ok0 lt0 hA => ?_
  refine ht_seq ?_
  refine ht_region ?_
  refine sq_cons ⟨_, [(.t 2, bV false)]⟩ (v_move (.inr rfl) trivial rfl (ble _ _ rfl) rfl) ?_
  refine sq_nil ?_
  refine ht_seq ?_
  refine ht_seq ?_
  refine ht_region ?_
  refine sq_cons ⟨_, [(.t 6, .d (.sl 5 (t0.map ePlace)))]⟩ (v_move (.inl rfl) trivial rfl (ble _ _ rfl) rfl) ?_
  refine sq_cons ⟨_, [(.t 7, iV (t0.length : Int))]⟩ (w_len t0 ePlace rfl rfl trivial rfl (ble _ _ rfl) slT22 rfl) ?_
  refine sq_cons ⟨_, [(.t 8, bV (ltI 8 (t0.length : Int)))]⟩ (v_bin rfl trivial rfl (ble _ _ rfl) rfl rfl (b_gtr rfl)) ?_
  refine sq_nil ?_
  refine ht_cond (b := (ltI 8 (t0.length : Int))) rfl (fun e1 => ?_) (fun e1 => ?_)
  · replace h := cpos e1 h
    refine ht_seq ?_
    refine ht_region ?_
    refine sq_cons ⟨_, [(.t 2, bV false)]⟩ (v_move (.inr rfl) trivial rfl (ble _ _ rfl) rfl) ?_
    refine sq_nil ?_
    refine ht_ret ?_
    cases h
    exact ret1 rfl (.tmp rfl)
  · replace h := cneg e1 h
    refine ht_skip ?_
    refine ht_seq ?_
    refine ht_region ?_
    refine sq_cons ⟨_, [(.t 3, .d (.s (.slice none 0 0)))]⟩ (v_move (.inr rfl) trivial rfl (ble _ _ rfl) rfl) ?_
    refine sq_nil ?_
    refine ht_gj (go_id' h) (fun t3 => tell [(.b 1003, .row false 57 2 (t3.map eSpan)), (.t 3, .own 1003 2 t3.length)]) (fun t3 h => ?_) (fun v2 K3 h j5 r6 => ?_)
    · refine ht_seq ?_
      refine ht_weak (wk_still_row 1003 _ _ _ rfl) ?_
      refine ht_weak (wk_row (.t 3) (nb 3) 1003 _ _ _ _ rfl rfl (lm _ _)) ?_
      refine ht_region ?_
      refine sq_cons ⟨_, [(.t 43, .d (.sl 2 (t3.map eSpan)))]⟩ (v_move (.inl rfl) trivial rfl (ble _ _ rfl) rfl) ?_
      obtain ⟨t44, c33, h⟩ := bpos h
      refine sq_cons ⟨_, [(.t 44, bV t44)]⟩ (w_call (ds := [(.sl 2 (t3.map eSpan))]) (caps := []) (l := [(.s (.bool t44))]) (s42 k t3 _ c33) rfl rfl rfl en42 trivial rfl (ble _ _ rfl) (.inl ⟨rfl, rfl⟩) rfl rfl) ?_
      refine sq_cons ⟨_, [(.t 2, bV t44)]⟩ (v_move (.inr rfl) trivial rfl (ble _ _ rfl) rfl) ?_
      refine sq_nil ?_
      refine ht_ret ?_
      cases h
      exact ret1 rfl (.tmp rfl)
    · refine ht_seq ?_
      refine ht_region ?_
      refine sq_cons ⟨_, [(.t 9, .d (.sl 5 (t0.map ePlace)))]⟩ (v_move (.inl rfl) trivial rfl (ble _ _ rfl) rfl) ?_
      refine sq_cons ⟨_, [(.t 10, iV (t0.length : Int))]⟩ (w_len t0 ePlace rfl rfl trivial rfl (ble _ _ rfl) slT22 rfl) ?_
      refine sq_cons ⟨_, [(.t 11, iV 0)]⟩ (v_move (.inl rfl) trivial rfl (ble _ _ rfl) rfl) ?_
      refine sq_nil ?_
      refine ht_block ?_
      refine ht_rd h (fun _ => rfl) (fun (t3_1, t11) => tell [(.b 1003, .row false 57 2 (t3_1.map eSpan)), (.t 0, .d (.sl 5 (t0.map ePlace))), (.t 3, .own 1003 2 t3_1.length), (.t 9, .d (.sl 5 (t0.map ePlace))), (.t 10, iV (t0.length : Int)), (.t 11, iV t11)]) (wkt (wk_nilrow (.t 3) (nb 3) 1001003 57 2 rfl rfl) (wk_ren _ (fun i => bif Nat.beq i 1003 then 1001003 else i) rfl ⟨rfl, rfl, rfl, rfl, rfl, rfl, trivial⟩)) fun k v9 h K32 j8 => ?_
      obtain ⟨t3_1, t11⟩ := v9
      rw [F30_l1] at h
      refine ht_seq ?_
      refine ht_region ?_
      refine sq_cons ⟨_, [(.t 12, bV (ltI t11 (t0.length : Int)))]⟩ (v_bin rfl trivial rfl (ble _ _ rfl) rfl rfl (b_lss rfl)) ?_
      refine sq_nil ?_
      refine ht_seq ?_
      refine ht_cond (b := (ltI t11 (t0.length : Int))) rfl (fun e10 => ?_) (fun e10 => ?_)
      · replace h := cpos e10 h
        refine ht_skip ?_
        refine ht_seq ?_
        refine ht_block ?_
        refine ht_seq ?_
        refine ht_region ?_
        refine sq_cons ⟨_, [(.t 13, iV t11)]⟩ (v_move (.inl rfl) trivial rfl (ble _ _ rfl) rfl) ?_
        obtain ⟨e11, h⟩ := gpos h
        refine sq_cons ⟨_, [(.t 14, .d (.dp (ePlace (rd t0 t11))))]⟩ (w_idx t0 ePlace rfl trivial rfl (ble _ _ rfl) slT22 rfl rfl e11) ?_
        refine sq_cons ⟨_, [(.t 15, .d (.agg (ePlace (rd t0 t11))))]⟩ (w_ldp (ePlace (rd t0 t11)) (ePlace (rd t0 t11)) rfl trivial rfl (ble _ _ rfl) ag59 rfl (ble _ _ rfl) rfl) ?_
        refine sq_cons _ (v_alloc (id := 5) (cs := zc59) rfl trivial rfl (ble _ _ rfl) zu59 rfl ft59 rfl) ?_
        refine sq_cons ⟨_, [(.t 4, iV t11)]⟩ (v_move (.inr rfl) trivial rfl (ble _ _ rfl) rfl) ?_
        refine sq_cons _ (v_store_box (id := 5) (off := 0) (cs := (ePlace (rd t0 t11)).map V.d) rfl trivial rfl sz59 rfl rfl rfl rfl (ones_of rfl) (ble _ _ rfl)) ?_
        refine sq_nil ?_
        refine ht_seq ?_
        refine ht_seq ?_
        refine ht_region ?_
        refine sq_cons ⟨_, [(.t 16, .ptr 5 2)]⟩ (v_field_box (off := 0) (a0 := 2) rfl trivial rfl (ble _ _ rfl) fo59_1 rfl) ?_
        refine sq_cons ⟨_, [(.t 17, iV (rd t0 t11).mShard)]⟩ (v_load_box1 (id := 5) (off := 2) rfl trivial rfl (ble _ _ rfl) onT3 rfl rfl (ble _ _ rfl) rfl) ?_
        obtain ⟨t18, c12, h⟩ := bpos h
        refine sq_cons ⟨_, [(.t 18, bV t18)]⟩ (w_call (ds := [(.s (.int .i64 (rd t0 t11).mShard))]) (caps := []) (l := [(.s (.bool t18))]) (s38 k (rd t0 t11).mShard _ c12) rfl rfl rfl en38 trivial rfl (ble _ _ rfl) (.inl ⟨rfl, rfl⟩) rfl rfl) ?_
        refine sq_cons ⟨_, [(.t 19, bV (!t18))]⟩ (v_un rfl trivial rfl (ble _ _ rfl) rfl (u_not rfl)) ?_
        refine sq_cons ⟨_, [(.t 20, bV (!t18))]⟩ (v_move (.inl rfl) trivial rfl (ble _ _ rfl) rfl) ?_
        refine sq_cons ⟨_, [(.t 21, mg (!(!t18)) (.ptr 5 4))]⟩ (v_cF rfl rfl rfl (ble _ _ rfl) rfl fun e13 => (v_field_box (off := 0) (a0 := 4) rfl ⟨_, rfl, be e13⟩ rfl (ble _ _ rfl) fo59_3 rfl)) ?_
        refine sq_cons ⟨_, [(.t 22, mg (!(!t18)) (iV (rd t0 t11).mEpoch))]⟩ (v_cF rfl rfl rfl (ble _ _ rfl) rfl fun e14 => (v_load_box1 (id := 5) (off := 4) rfl ⟨_, rfl, be e14⟩ rfl (ble _ _ rfl) onT3 (gv (nF e14)) rfl (ble _ _ rfl) rfl)) ?_
        obtain ⟨t23, c16, h⟩ := bpos h
        refine sq_cons ⟨_, [(.t 23, mg (!(!t18)) (bV t23))]⟩ (v_cF rfl rfl rfl (ble _ _ rfl) rfl fun e15 => (w_call (ds := [(.s (.int .i64 (rd t0 t11).mEpoch))]) (caps := []) (l := [(.s (.bool t23))]) (s38 k (rd t0 t11).mEpoch _ (cpos (nF e15) c16)) rfl rfl rfl en38 ⟨_, rfl, be e15⟩ rfl (ble _ _ rfl) (.inl ⟨rfl, rfl⟩) (cc (gv (nF e15)) rfl) rfl)) ?_
        refine sq_cons ⟨_, [(.t 24, mg (!(!t18)) (bV (!t23)))]⟩ (v_cF rfl rfl rfl (ble _ _ rfl) rfl fun e17 => (v_un rfl ⟨_, rfl, be e17⟩ rfl (ble _ _ rfl) (gv (nF e17)) (u_not rfl))) ?_
        refine sq_cons ⟨_, [(.t 25, bV ((!t18) || (!t23)))]⟩ (v_pickB rfl trivial rfl (ble _ _ rfl) rfl (fun e18 => rfl) (fun e19 => (gv (nF e19))) (pO _ _)) ?_
        refine sq_cons ⟨_, [(.t 26, bV ((!t18) || (!t23)))]⟩ (v_move (.inl rfl) trivial rfl (ble _ _ rfl) rfl) ?_
        refine sq_cons ⟨_, [(.t 27, mg (!((!t18) || (!t23))) (.ptr 5 3))]⟩ (v_cF rfl rfl rfl (ble _ _ rfl) rfl fun e20 => (v_field_box (off := 0) (a0 := 3) rfl ⟨_, rfl, be e20⟩ rfl (ble _ _ rfl) fo59_2 rfl)) ?_
        refine sq_cons ⟨_, [(.t 28, mg (!((!t18) || (!t23))) (iV (rd t0 t11).mCell))]⟩ (v_cF rfl rfl rfl (ble _ _ rfl) rfl fun e21 => (v_load_box1 (id := 5) (off := 3) rfl ⟨_, rfl, be e21⟩ rfl (ble _ _ rfl) onT3 (gv (nF e21)) rfl (ble _ _ rfl) rfl)) ?_
        obtain ⟨t29, c23, h⟩ := bpos h
        refine sq_cons ⟨_, [(.t 29, mg (!((!t18) || (!t23))) (bV t29))]⟩ (v_cF rfl rfl rfl (ble _ _ rfl) rfl fun e22 => (w_call (ds := [(.s (.int .i64 (rd t0 t11).mCell))]) (caps := []) (l := [(.s (.bool t29))]) (s39 k (rd t0 t11).mCell _ (cpos (nF e22) c23)) rfl rfl rfl en39 ⟨_, rfl, be e22⟩ rfl (ble _ _ rfl) (.inl ⟨rfl, rfl⟩) (cc (gv (nF e22)) rfl) rfl)) ?_
        refine sq_cons ⟨_, [(.t 30, mg (!((!t18) || (!t23))) (bV (!t29)))]⟩ (v_cF rfl rfl rfl (ble _ _ rfl) rfl fun e24 => (v_un rfl ⟨_, rfl, be e24⟩ rfl (ble _ _ rfl) (gv (nF e24)) (u_not rfl))) ?_
        refine sq_cons ⟨_, [(.t 31, bV (((!t18) || (!t23)) || (!t29)))]⟩ (v_pickB rfl trivial rfl (ble _ _ rfl) rfl (fun e25 => rfl) (fun e26 => (gv (nF e26))) (pO _ _)) ?_
        refine sq_nil ?_
        refine ht_cond (b := (((!t18) || (!t23)) || (!t29))) rfl (fun e27 => ?_) (fun e27 => ?_)
        · replace h := cpos e27 h
          refine ht_seq ?_
          refine ht_region ?_
          refine sq_cons ⟨_, [(.t 2, bV false)]⟩ (v_move (.inr rfl) trivial rfl (ble _ _ rfl) rfl) ?_
          refine sq_nil ?_
          refine ht_ret ?_
          cases h
          cases r6 _ rfl
          exact ret1 rfl (.tmp rfl)
        · replace h := cneg e27 h
          refine ht_skip ?_
          refine ht_seq ?_
          refine ht_seq ?_
          refine ht_weak (wk_still_box 5 _ rfl) ?_
          refine ht_weak (wk_ptr (.t 5) (nb 5) 5 0 _ (ePlace (rd t0 t11)) rfl rfl (ble _ _ rfl) rfl) ?_
          refine ht_weak (wk_ptr (.t 16) (nb 16) 5 2 _ [(.s (.int .i64 (rd t0 t11).mShard))] rfl rfl (ble _ _ rfl) rfl) ?_
          refine ht_region ?_
          refine sq_cons ⟨_, [(.t 32, .d (.sl 5 (t0.map ePlace)))]⟩ (v_move (.inl rfl) trivial rfl (ble _ _ rfl) rfl) ?_
          refine sq_cons ⟨_, [(.t 33, iV t11)]⟩ (v_move (.inl rfl) trivial rfl (ble _ _ rfl) rfl) ?_
          obtain ⟨e28, h⟩ := gpos h
          refine sq_cons ⟨_, [(.t 34, .d (.sl 5 ((List.take t11.toNat t0).map ePlace)))]⟩ (w_cuth t0 ePlace rfl trivial rfl (ble _ _ rfl) slT22 rfl rfl e28) ?_
          refine sq_cons ⟨_, [(.t 35, .d (.fn 41 [(.dp (ePlace (rd t0 t11)))]))]⟩ (v_func_d (ds := [(.dp (ePlace (rd t0 t11)))]) rfl trivial rfl (ble _ _ rfl) rfl) ?_
          obtain ⟨t36, c29, h⟩ := bpos h
          refine sq_cons ⟨_, [(.t 36, bV t36)]⟩ (w_call (ds := [(.sl 5 ((List.take t11.toNat t0).map ePlace)), (.fn 41 [(.dp (ePlace (rd t0 t11)))])]) (caps := []) (l := [(.s (.bool t36))]) (s40_41 k (List.take t11.toNat t0) (rd t0 t11) _ c29) rfl rfl rfl en40 trivial rfl (ble _ _ rfl) (.inl ⟨rfl, rfl⟩) rfl rfl) ?_
          refine sq_nil ?_
          refine ht_cond (b := t36) rfl (fun e30 => ?_) (fun e30 => ?_)
          · replace h := cpos e30 h
            refine ht_seq ?_
            refine ht_region ?_
            refine sq_cons ⟨_, [(.t 2, bV false)]⟩ (v_move (.inr rfl) trivial rfl (ble _ _ rfl) rfl) ?_
            refine sq_nil ?_
            refine ht_ret ?_
            cases h
            cases r6 _ rfl
            exact ret1 rfl (.tmp rfl)
          · replace h := cneg e30 h
            refine ht_skip ?_
            refine ht_region ?_
            refine sq_cons ⟨_, [(.t 37, .own 1003 2 t3_1.length)]⟩ (v_move (.inl rfl) trivial rfl (ble _ _ rfl) rfl) ?_
            refine sq_cons ⟨_, [(.t 38, .d (.dp (ePlace (rd t0 t11))))]⟩ (v_field_dp (a0 := 0) (cs := (ePlace (rd t0 t11))) rfl trivial rfl (ble _ _ rfl) fo59_0 rfl) ?_
            refine sq_cons ⟨_, [(.t 39, .d (.agg (eSpan (rd t0 t11).mSpan)))]⟩ (w_ldp (ePlace (rd t0 t11)) (eSpan (rd t0 t11).mSpan) rfl trivial rfl (ble _ _ rfl) ag57 rfl (ble _ _ rfl) rfl) ?_
            refine sq_cons ⟨_, [(.b 40, .row false 57 2 (([(rd t0 t11).mSpan]).map eSpan)), (.t 40, .own 40 2 ([(rd t0 t11).mSpan]).length)]⟩ (w_bsl (id := 40) [(0, .d (.agg (eSpan (rd t0 t11).mSpan)))] [(rd t0 t11).mSpan] eSpan rfl trivial rfl (ble _ _ rfl) slT79 zr57 teSpan (ble _ _ rfl) rfl (by kernel_rfl) rfl rfl (by kernel_rfl) (by kernel_rfl)) ?_
            obtain ⟨e31, h⟩ := gpos h
            refine sq_cons ⟨_, [(.b 1003, .spent), (.b 41, .row false 57 2 ((t3_1 ++ [(rd t0 t11).mSpan]).map eSpan)), (.t 41, .own 41 2 (t3_1 ++ [(rd t0 t11).mSpan]).length)]⟩ (w_app 41 t3_1 ([(rd t0 t11).mSpan]) eSpan rfl rfl trivial rfl (ble _ _ rfl) slT79 elT57 teSpan rfl rfl rfl (.own 40 _ _ rfl) rfl e31) ?_
            refine sq_cons ⟨_, [(.t 3, .own 41 2 (t3_1 ++ [(rd t0 t11).mSpan]).length)]⟩ (v_move (.inr rfl) trivial rfl (ble _ _ rfl) rfl) ?_
            refine sq_nil ?_
            refine ht_region ?_
            refine sq_cons ⟨_, [(.t 42, iV (IntKind.wrap .i64 (t11 + 1)))]⟩ (v_bin rfl trivial rfl (ble _ _ rfl) rfl rfl (b_add rfl)) ?_
            refine sq_cons ⟨_, [(.t 11, iV (IntKind.wrap .i64 (t11 + 1)))]⟩ (v_move (.inl rfl) trivial rfl (ble _ _ rfl) rfl) ?_
            refine sq_nil ?_
            exact j8 _ _ h (wk_ren _ (fun i => bif Nat.beq i 1003 then 41 else i) rfl ⟨rfl, rfl, rfl, rfl, rfl, rfl, trivial⟩)
      · replace h := cneg e10 h
        refine ht_exit ?_
        refine tq ?_
        refine tq ?_
        refine bq_hit ?_
        cases h
        exact j5 _ _ rfl (wk_ren _ (fun i => i) rfl ⟨rfl, rfl, trivial⟩)
set_option maxRecDepth 100000 in
set_option maxHeartbeats 4000000 in
theorem s31 (k : Nat) (t0 : Int) (r : Bool) (h : F31 k t0 = some r) : Awp.Spec Tryd.prog amb 31 [(.s (.int .i64 t0))] (.ds [(.s (.bool r))]) := by
  rw [F31] at h
  refine spec_of Tryd.func31 rfl (ble _ _ rfl) fun w0 ok0 lt0 hA => ?_
  refine ht_seq ?_
  refine ht_region ?_
  refine sq_cons ⟨_, [(.t 2, bV false)]⟩ (v_move (.inr rfl) trivial rfl (ble _ _ rfl) rfl) ?_
  refine sq_nil ?_
  refine ht_seq ?_
  refine ht_region ?_
  refine sq_cons ⟨_, [(.t 3, iV t0)]⟩ (v_move (.inl rfl) trivial rfl (ble _ _ rfl) rfl) ?_
  refine sq_cons ⟨_, [(.t 4, bV (ltI t0 1))]⟩ (v_bin rfl trivial rfl (ble _ _ rfl) rfl rfl (b_lss rfl)) ?_
  refine sq_cons ⟨_, [(.t 5, bV (ltI t0 1))]⟩ (v_move (.inl rfl) trivial rfl (ble _ _ rfl) rfl) ?_
  refine sq_cons ⟨_, [(.t 6, mg (!(ltI t0 1)) (iV t0))]⟩ (v_cF rfl rfl rfl (ble _ _ rfl) rfl fun e1 => (v_move (.inl rfl) ⟨_, rfl, be e1⟩ rfl (ble _ _ rfl) rfl)) ?_
  refine sq_cons ⟨_, [(.t 7, mg (!(ltI t0 1)) (bV (ltI 3 t0)))]⟩ (v_cF rfl rfl rfl (ble _ _ rfl) rfl fun e2 => (v_bin rfl ⟨_, rfl, be e2⟩ rfl (ble _ _ rfl) (gv (nF e2)) rfl (b_gtr rfl))) ?_
  refine sq_cons ⟨_, [(.t 8, bV ((ltI t0 1) || (ltI 3 t0)))]⟩ (v_pickB rfl trivial rfl (ble _ _ rfl) rfl (fun e3 => rfl) (fun e4 => (gv (nF e4))) (pO _ _)) ?_
  refine sq_cons ⟨_, [(.t 2, bV ((ltI t0 1) || (ltI 3 t0)))]⟩ (v_move (.inr rfl) trivial rfl (ble _ _ rfl) rfl) ?_
  refine sq_nil ?_
  refine ht_ret ?_
  cases h
  exact ret1 rfl (.tmp rfl)
set_option maxRecDepth 100000 in
set_option maxHeartbeats 4000000 in
theorem s36_31 (k : Nat) (t0 : List Int) (r : Int) (h : F36_31 k t0 = some r) : Awp.Spec Tryd.prog amb 36 [(.sl 1 (t0.map (eI .i64))), (.fn 31 [])] (.ds [(.s (.int .i64 r))]) := by
  rw [F36_31] at h
  refine spec_of Tryd.func36 rfl (ble _ _ rfl) fun w0 ok0 lt0 hA => ?_
  refine ht_seq ?_
  refine ht_region ?_
  refine sq_cons ⟨_, [(.t 4, iV 0)]⟩ (v_move (.inr rfl) trivial rfl (ble _ _ rfl) rfl) ?_
  refine sq_nil ?_
  refine ht_gj (go_id' h) (fun _ => tell []) (fun _ h => ?_) (fun v1 K2 h j4 r5 => ?_)
  · refine ht_seq ?_
    refine ht_region ?_
    refine sq_cons ⟨_, [(.t 4, iV (-1))]⟩ (v_move (.inr rfl) trivial rfl (ble _ _ rfl) rfl) ?_
    refine sq_nil ?_
    refine ht_ret ?_
    cases h
    exact ret1 rfl (.tmp rfl)
  · refine ht_seq ?_
    refine ht_region ?_
    refine sq_cons ⟨_, [(.t 6, .d (.sl 1 (t0.map (eI .i64))))]⟩ (v_move (.inl rfl) trivial rfl (ble _ _ rfl) rfl) ?_
    refine sq_cons ⟨_, [(.t 7, iV (t0.length : Int))]⟩ (w_len t0 (eI .i64) rfl rfl trivial rfl (ble _ _ rfl) slT23 rfl) ?_
    refine sq_cons ⟨_, [(.t 8, iV 0)]⟩ (v_move (.inl rfl) trivial rfl (ble _ _ rfl) rfl) ?_
    refine sq_nil ?_
    refine ht_block ?_
    refine ht_rd h (fun _ => rfl) (fun t8 => tell [(.t 0, .d (.sl 1 (t0.map (eI .i64)))), (.t 1, .d (.fn 31 [])), (.t 7, iV (t0.length : Int)), (.t 8, iV t8)]) (wk_ren _ (fun i => i) rfl ⟨rfl, rfl, rfl, rfl, trivial⟩) fun k t8 h K13 j7 => ?_
    rw [F36_31_l1] at h
    refine ht_seq ?_
    refine ht_region ?_
    refine sq_cons ⟨_, [(.t 9, bV (ltI t8 (t0.length : Int)))]⟩ (v_bin rfl trivial rfl (ble _ _ rfl) rfl rfl (b_lss rfl)) ?_
    refine sq_nil ?_
    refine ht_seq ?_
    refine ht_cond (b := (ltI t8 (t0.length : Int))) rfl (fun e9 => ?_) (fun e9 => ?_)
    · replace h := cpos e9 h
      refine ht_skip ?_
      refine ht_seq ?_
      refine ht_block ?_
      refine ht_seq ?_
      refine ht_region ?_
      refine sq_cons ⟨_, [(.t 10, iV t8)]⟩ (v_move (.inl rfl) trivial rfl (ble _ _ rfl) rfl) ?_
      refine sq_cons ⟨_, [(.t 5, iV t8)]⟩ (v_move (.inr rfl) trivial rfl (ble _ _ rfl) rfl) ?_
      refine sq_nil ?_
      refine ht_seq ?_
      refine ht_region ?_
      refine sq_cons ⟨_, [(.t 11, .d (.fn 31 []))]⟩ (v_move (.inl rfl) trivial rfl (ble _ _ rfl) rfl) ?_
      refine sq_cons ⟨_, [(.t 12, .d (.sl 1 (t0.map (eI .i64))))]⟩ (v_move (.inl rfl) trivial rfl (ble _ _ rfl) rfl) ?_
      refine sq_cons ⟨_, [(.t 13, iV t8)]⟩ (v_move (.inl rfl) trivial rfl (ble _ _ rfl) rfl) ?_
      obtain ⟨e10, h⟩ := gpos h
      refine sq_cons ⟨_, [(.t 14, .d (.dp [(.s (.int .i64 (rd t0 t8)))]))]⟩ (w_idx t0 (eI .i64) rfl trivial rfl (ble _ _ rfl) slT23 rfl rfl e10) ?_
      refine sq_cons ⟨_, [(.t 15, iV (rd t0 t8))]⟩ (v_load_dp1 rfl trivial rfl (ble _ _ rfl) onT3 rfl rfl) ?_
      obtain ⟨t16, c11, h⟩ := bpos h
      refine sq_cons ⟨_, [(.t 16, bV t16)]⟩ (w_call (ds := [(.s (.int .i64 (rd t0 t8)))]) (caps := []) (l := [(.s (.bool t16))]) (s31 k (rd t0 t8) _ c11) rfl rfl rfl en31 trivial rfl (ble _ _ rfl) (.inr rfl) rfl rfl) ?_
      refine sq_nil ?_
      refine ht_cond (b := t16) rfl (fun e12 => ?_) (fun e12 => ?_)
      · replace h := cpos e12 h
        refine ht_seq ?_
        refine ht_region ?_
        refine sq_cons ⟨_, [(.t 17, iV t8)]⟩ (v_move (.inl rfl) trivial rfl (ble _ _ rfl) rfl) ?_
        refine sq_cons ⟨_, [(.t 4, iV t8)]⟩ (v_move (.inr rfl) trivial rfl (ble _ _ rfl) rfl) ?_
        refine sq_nil ?_
        refine ht_ret ?_
        cases h
        cases r5 _ rfl
        exact ret1 rfl (.tmp rfl)
      · replace h := cneg e12 h
        refine ht_skip ?_
        refine ht_region ?_
        refine sq_cons ⟨_, [(.t 18, iV (IntKind.wrap .i64 (t8 + 1)))]⟩ (v_bin rfl trivial rfl (ble _ _ rfl) rfl rfl (b_add rfl)) ?_
        refine sq_cons ⟨_, [(.t 8, iV (IntKind.wrap .i64 (t8 + 1)))]⟩ (v_move (.inl rfl) trivial rfl (ble _ _ rfl) rfl) ?_
        refine sq_nil ?_
        exact j7 _ _ h (wk_ren _ (fun i => i) rfl ⟨rfl, rfl, rfl, rfl, trivial⟩)
    · replace h := cneg e9 h
      refine ht_exit ?_
      refine tq ?_
      refine tq ?_
      refine bq_hit ?_
      cases h
      exact j4 _ _ rfl (wk_ren _ (fun i => i) rfl trivial)
set_option maxRecDepth 100000 in
set_option maxHeartbeats 4000000 in
theorem s26_31 (k : Nat) (t0 : List Int) (r : Bool) (h : F26_31 k t0 = some r) : Awp.Spec Tryd.prog amb 26 [(.sl 1 (t0.map (eI .i64))), (.fn 31 [])] (.ds [(.s (.bool r))]) := by
  rw [F26_31] at h
  refine spec_of Tryd.func26 rfl (ble _ _ rfl) fun w0 ok0 lt0 hA => ?_
  refine ht_seq ?_
  refine ht_region ?_
  refine sq_cons ⟨_, [(.t 4, bV false)]⟩ (v_move (.inr rfl) trivial rfl (ble _ _ rfl) rfl) ?_
  refine sq_nil ?_
  refine ht_seq ?_
  refine ht_region ?_
  refine sq_cons ⟨_, [(.t 5, .d (.sl 1 (t0.map (eI .i64))))]⟩ (v_move (.inl rfl) trivial rfl (ble _ _ rfl) rfl) ?_
  refine sq_cons ⟨_, [(.t 6, .d (.fn 31 []))]⟩ (v_move (.inl rfl) trivial rfl (ble _ _ rfl) rfl) ?_
  obtain ⟨t7, c1, h⟩ := bpos h
  refine sq_cons ⟨_, [(.t 7, iV t7)]⟩ (w_call (ds := [(.sl 1 (t0.map (eI .i64))), (.fn 31 [])]) (caps := []) (l := [(.s (.int .i64 t7))]) (s36_31 k t0 _ c1) rfl rfl rfl en36 trivial rfl (ble _ _ rfl) (.inl ⟨rfl, rfl⟩) rfl rfl) ?_
  refine sq_cons ⟨_, [(.t 8, bV (leI 0 t7))]⟩ (v_bin rfl trivial rfl (ble _ _ rfl) rfl rfl (b_geq rfl)) ?_
  refine sq_cons ⟨_, [(.t 4, bV (leI 0 t7))]⟩ (v_move (.inr rfl) trivial rfl (ble _ _ rfl) rfl) ?_
  refine sq_nil ?_
  refine ht_ret ?_
  cases h
  exact ret1 rfl (.tmp rfl)
set_option maxRecDepth 100000 in
set_option maxHeartbeats 4000000 in
theorem s17 (k : Nat) (t0 : List Place) (t1 : List Int) (r : Bool) (h : F17 k t0 t1 = some r) : Awp.Spec Tryd.prog amb 17 [(.sl 5 (t0.map ePlace)), (.sl 1 (t1.map (eI .i64)))] (.ds [(.s (.bool r))]) := by
  rw [F17] at h
  refine spec_of Tryd.func17 rfl (ble _ _ rfl) fun w0 ok0 lt0 hA => ?_
  refine ht_seq ?_
  refine ht_region ?_
  refine sq_cons ⟨_, [(.t 4, bV false)]⟩ (v_move (.inr rfl) trivial rfl (ble _ _ rfl) rfl) ?_
  refine sq_nil ?_
  refine ht_seq ?_
  refine ht_region ?_
  refine sq_cons ⟨_, [(.t 5, .d (.sl 5 (t0.map ePlace)))]⟩ (v_move (.inl rfl) trivial rfl (ble _ _ rfl) rfl) ?_
  obtain ⟨t6, c1, h⟩ := bpos h
  refine sq_cons ⟨_, [(.t 6, bV t6)]⟩ (w_call (ds := [(.sl 5 (t0.map ePlace))]) (caps := []) (l := [(.s (.bool t6))]) (s30 k t0 _ c1) rfl rfl rfl en30 trivial rfl (ble _ _ rfl) (.inl ⟨rfl, rfl⟩) rfl rfl) ?_
  refine sq_cons ⟨_, [(.t 7, bV t6)]⟩ (v_move (.inl rfl) trivial rfl (ble _ _ rfl) rfl) ?_
  refine sq_cons ⟨_, [(.t 8, mg t6 (.d (.sl 1 (t1.map (eI .i64)))))]⟩ (v_cT rfl rfl rfl (ble _ _ rfl) rfl fun e2 => (v_move (.inl rfl) ⟨_, rfl, be e2⟩ rfl (ble _ _ rfl) rfl)) ?_
  refine sq_cons ⟨_, [(.t 9, mg t6 (iV (t1.length : Int)))]⟩ (v_cT rfl rfl rfl (ble _ _ rfl) rfl fun e3 => (w_len t1 (eI .i64) rfl rfl ⟨_, rfl, be e3⟩ rfl (ble _ _ rfl) slT23 (gv e3))) ?_
  refine sq_cons ⟨_, [(.t 10, mg t6 (bV (eqI (t1.length : Int) 3)))]⟩ (v_cT rfl rfl rfl (ble _ _ rfl) rfl fun e4 => (v_bin rfl ⟨_, rfl, be e4⟩ rfl (ble _ _ rfl) (gv e4) rfl (b_eql rfl))) ?_
  refine sq_cons ⟨_, [(.t 11, bV (t6 && (eqI (t1.length : Int) 3)))]⟩ (v_pickB rfl trivial rfl (ble _ _ rfl) rfl (fun e5 => (gv e5)) (fun e6 => rfl) (pA _ _)) ?_
  refine sq_cons ⟨_, [(.t 12, bV (t6 && (eqI (t1.length : Int) 3)))]⟩ (v_move (.inl rfl) trivial rfl (ble _ _ rfl) rfl) ?_
  refine sq_cons ⟨_, [(.t 13, mg (t6 && (eqI (t1.length : Int) 3)) (.d (.sl 1 (t1.map (eI .i64)))))]⟩ (v_cT rfl rfl rfl (ble _ _ rfl) rfl fun e7 => (v_move (.inl rfl) ⟨_, rfl, be e7⟩ rfl (ble _ _ rfl) rfl)) ?_
  obtain ⟨t14, c9, h⟩ := bpos h
  refine sq_cons ⟨_, [(.t 14, mg (t6 && (eqI (t1.length : Int) 3)) (bV t14))]⟩ (v_cT rfl rfl rfl (ble _ _ rfl) rfl fun e8 => (w_call2 (ds := [(.sl 1 (t1.map (eI .i64))), (.fn 31 [])]) (caps := []) (l := [(.s (.bool t14))]) (s26_31 k t1 _ (cpos e8 c9)) rfl rfl rfl en26 ⟨_, rfl, be e8⟩ rfl (ble _ _ rfl) (.inl ⟨rfl, rfl⟩) (.c (.of (gv e8) (.d _)) (.c (.fn _ []) .n)) rfl)) ?_
  refine sq_cons ⟨_, [(.t 15, mg (t6 && (eqI (t1.length : Int) 3)) (bV (!t14)))]⟩ (v_cT rfl rfl rfl (ble _ _ rfl) rfl fun e10 => (v_un rfl ⟨_, rfl, be e10⟩ rfl (ble _ _ rfl) (gv e10) (u_not rfl))) ?_
  refine sq_cons ⟨_, [(.t 16, bV ((t6 && (eqI (t1.length : Int) 3)) && (!t14)))]⟩ (v_pickB rfl trivial rfl (ble _ _ rfl) rfl (fun e11 => (gv e11)) (fun e12 => rfl) (pA _ _)) ?_
  refine sq_cons ⟨_, [(.t 4, bV ((t6 && (eqI (t1.length : Int) 3)) && (!t14)))]⟩ (v_move (.inr rfl) trivial rfl (ble _ _ rfl) rfl) ?_
  refine sq_nil ?_
  refine ht_ret ?_
  cases h
  exact ret1 rfl (.tmp rfl)
set_option maxRecDepth 100000 in
set_option maxHeartbeats 4000000 in
theorem s45 (k : Nat) (t0 : Int) (t1 : Int) (r : Bool) (h : F45 k t0 t1 = some r) : Awp.Spec Tryd.prog amb 45 [(.s (.int .i64 t0)), (.dp [(.s (.int .i64 t1))])] (.ds [(.s (.bool r))]) := by
  rw [F45] at h
  refine spec_of Tryd.func45 rfl (ble _ _ rfl) fun w0 ok0 lt0 hA => ?_
  refine ht_seq ?_
  refine ht_region ?_
  refine sq_cons ⟨_, [(.t 3, bV false)]⟩ (v_move (.inr rfl) trivial rfl (ble _ _ rfl) rfl) ?_
  refine sq_nil ?_
  refine ht_seq ?_
  refine ht_region ?_
  refine sq_cons ⟨_, [(.t 4, iV t0)]⟩ (v_move (.inl rfl) trivial rfl (ble _ _ rfl) rfl) ?_
  refine sq_cons ⟨_, [(.t 5, iV t1)]⟩ (v_load_dp1 rfl trivial rfl (ble _ _ rfl) onT3 rfl rfl) ?_
  refine sq_cons ⟨_, [(.t 6, bV (ltI t0 t1))]⟩ (v_bin rfl trivial rfl (ble _ _ rfl) rfl rfl (b_lss rfl)) ?_
  refine sq_cons ⟨_, [(.t 7, bV (ltI t0 t1))]⟩ (v_move (.inl rfl) trivial rfl (ble _ _ rfl) rfl) ?_
  refine sq_cons ⟨_, [(.t 8, mg (!(ltI t0 t1)) (iV t0))]⟩ (v_cF rfl rfl rfl (ble _ _ rfl) rfl fun e1 => (v_move (.inl rfl) ⟨_, rfl, be e1⟩ rfl (ble _ _ rfl) rfl)) ?_
  refine sq_cons ⟨_, [(.t 9, mg (!(ltI t0 t1)) (bV (ltI 1099511627776 t0)))]⟩ (v_cF rfl rfl rfl (ble _ _ rfl) rfl fun e2 => (v_bin rfl ⟨_, rfl, be e2⟩ rfl (ble _ _ rfl) (gv (nF e2)) rfl (b_gtr rfl))) ?_
  refine sq_cons ⟨_, [(.t 10, bV ((ltI t0 t1) || (ltI 1099511627776 t0)))]⟩ (v_pickB rfl trivial rfl (ble _ _ rfl) rfl (fun e3 => rfl) (fun e4 => (gv (nF e4))) (pO _ _)) ?_
  refine sq_cons ⟨_, [(.t 3, bV ((ltI t0 t1) || (ltI 1099511627776 t0)))]⟩ (v_move (.inr rfl) trivial rfl (ble _ _ rfl) rfl) ?_
  refine sq_nil ?_
  refine ht_ret ?_
  cases h
  exact ret1 rfl (.tmp rfl)
set_option maxRecDepth 100000 in
set_option maxHeartbeats 4000000 in
theorem s36_45 (k : Nat) (t0 : List Int) (t1u0 : Int) (r : Int) (h : F36_45 k t0 t1u0 = some r) : Awp.Spec Tryd.prog amb 36 [(.sl 1 (t0.map (eI .i64))), (.fn 45 [(.dp [(.s (.int .i64 t1u0))])])] (.ds [(.s (.int .i64 r))]) := by
  rw [F36_45] at h
  refine spec_of Tryd.func36 rfl (ble _ _ rfl) fun w0 ok0 lt0 hA => ?_
  refine ht_seq ?_
  refine ht_region ?_
  refine sq_cons ⟨_, [(.t 4, iV 0)]⟩ (v_move (.inr rfl) trivial rfl (ble _ _ rfl) rfl) ?_
  refine sq_nil ?_
  refine ht_gj (go_id' h) (fun _ => tell []) (fun _ h => ?_) (fun v1 K2 h j4 r5 => ?_)
  · refine ht_seq ?_
    refine ht_region ?_
    refine sq_cons ⟨_, [(.t 4, iV (-1))]⟩ (v_move (.inr rfl) trivial rfl (ble _ _ rfl) rfl) ?_
    refine sq_nil ?_
    refine ht_ret ?_
    cases h
    exact ret1 rfl (.tmp rfl)
  · refine ht_seq ?_
    refine ht_region ?_
    refine sq_cons ⟨_, [(.t 6, .d (.sl 1 (t0.map (eI .i64))))]⟩ (v_move (.inl rfl) trivial rfl (ble _ _ rfl) rfl) ?_
    refine sq_cons ⟨_, [(.t 7, iV (t0.length : Int))]⟩ (w_len t0 (eI .i64) rfl rfl trivial rfl (ble _ _ rfl) slT23 rfl) ?_
    refine sq_cons ⟨_, [(.t 8, iV 0)]⟩ (v_move (.inl rfl) trivial rfl (ble _ _ rfl) rfl) ?_
    refine sq_nil ?_
    refine ht_block ?_
    refine ht_rd h (fun _ => rfl) (fun t8 => tell [(.t 0, .d (.sl 1 (t0.map (eI .i64)))), (.t 1, .d (.fn 45 [(.dp [(.s (.int .i64 t1u0))])])), (.t 7, iV (t0.length : Int)), (.t 8, iV t8)]) (wk_ren _ (fun i => i) rfl ⟨rfl, rfl, rfl, rfl, trivial⟩) fun k t8 h K13 j7 => ?_
    rw [F36_45_l1] at h
    refine ht_seq ?_
    refine ht_region ?_
    refine sq_cons ⟨_, [(.t 9, bV (ltI t8 (t0.length : Int)))]⟩ (v_bin rfl trivial rfl (ble _ _ rfl) rfl rfl (b_lss rfl)) ?_
    refine sq_nil ?_
    refine ht_seq ?_
    refine ht_cond (b := (ltI t8 (t0.length : Int))) rfl (fun e9 => ?_) (fun e9 => ?_)
    · replace h := cpos e9 h
      refine ht_skip ?_
      refine ht_seq ?_
      refine ht_block ?_
      refine ht_seq ?_
      refine ht_region ?_
      refine sq_cons ⟨_, [(.t 10, iV t8)]⟩ (v_move (.inl rfl) trivial rfl (ble _ _ rfl) rfl) ?_
      refine sq_cons ⟨_, [(.t 5, iV t8)]⟩ (v_move (.inr rfl) trivial rfl (ble _ _ rfl) rfl) ?_
      refine sq_nil ?_
      refine ht_seq ?_
      refine ht_region ?_
      refine sq_cons ⟨_, [(.t 11, .d (.fn 45 [(.dp [(.s (.int .i64 t1u0))])]))]⟩ (v_move (.inl rfl) trivial rfl (ble _ _ rfl) rfl) ?_
      refine sq_cons ⟨_, [(.t 12, .d (.sl 1 (t0.map (eI .i64))))]⟩ (v_move (.inl rfl) trivial rfl (ble _ _ rfl) rfl) ?_
      refine sq_cons ⟨_, [(.t 13, iV t8)]⟩ (v_move (.inl rfl) trivial rfl (ble _ _ rfl) rfl) ?_
      obtain ⟨e10, h⟩ := gpos h
      refine sq_cons ⟨_, [(.t 14, .d (.dp [(.s (.int .i64 (rd t0 t8)))]))]⟩ (w_idx t0 (eI .i64) rfl trivial rfl (ble _ _ rfl) slT23 rfl rfl e10) ?_
      refine sq_cons ⟨_, [(.t 15, iV (rd t0 t8))]⟩ (v_load_dp1 rfl trivial rfl (ble _ _ rfl) onT3 rfl rfl) ?_
      obtain ⟨t16, c11, h⟩ := bpos h
      refine sq_cons ⟨_, [(.t 16, bV t16)]⟩ (w_call (ds := [(.s (.int .i64 (rd t0 t8)))]) (caps := [(.dp [(.s (.int .i64 t1u0))])]) (l := [(.s (.bool t16))]) (s45 k (rd t0 t8) t1u0 _ c11) rfl rfl rfl en45 trivial rfl (ble _ _ rfl) (.inr rfl) rfl rfl) ?_
      refine sq_nil ?_
      refine ht_cond (b := t16) rfl (fun e12 => ?_) (fun e12 => ?_)
      · replace h := cpos e12 h
        refine ht_seq ?_
        refine ht_region ?_
        refine sq_cons ⟨_, [(.t 17, iV t8)]⟩ (v_move (.inl rfl) trivial rfl (ble _ _ rfl) rfl) ?_
        refine sq_cons ⟨_, [(.t 4, iV t8)]⟩ (v_move (.inr rfl) trivial rfl (ble _ _ rfl) rfl) ?_
        refine sq_nil ?_
        refine ht_ret ?_
        cases h
        cases r5 _ rfl
        exact ret1 rfl (.tmp rfl)
      · replace h := cneg e12 h
        refine ht_skip ?_
        refine ht_region ?_
        refine sq_cons ⟨_, [(.t 18, iV (IntKind.wrap .i64 (t8 + 1)))]⟩ (v_bin rfl trivial rfl (ble _ _ rfl) rfl rfl (b_add rfl)) ?_
        refine sq_cons ⟨_, [(.t 8, iV (IntKind.wrap .i64 (t8 + 1)))]⟩ (v_move (.inl rfl) trivial rfl (ble _ _ rfl) rfl) ?_
        refine sq_nil ?_
        exact j7 _ _ h (wk_ren _ (fun i => i) rfl ⟨rfl, rfl, rfl, rfl, trivial⟩)
    · replace h := cneg e9 h
      refine ht_exit ?_
      refine tq ?_
      refine tq ?_
      refine bq_hit ?_
      cases h
      exact j4 _ _ rfl (wk_ren _ (fun i => i) rfl trivial)
set_option maxRecDepth 100000 in
set_option maxHeartbeats 4000000 in
theorem s26_45 (k : Nat) (t0 : List Int) (t1u0 : Int) (r : Bool) (h : F26_45 k t0 t1u0 = some r) : Awp.Spec Tryd.prog amb 26 [(.sl 1 (t0.map (eI .i64))), (.fn 45 [(.dp [(.s (.int .i64 t1u0))])])] (.ds [(.s (.bool r))]) := by
  rw [F26_45] at h
  refine spec_of Tryd.func26 rfl (ble _ _ rfl) fun w0 ok0 lt0 hA => ?_
  refine ht_seq ?_
  refine ht_region ?_
  refine sq_cons ⟨_, [(.t 4, bV false)]⟩ (v_move (.inr rfl) trivial rfl (ble _ _ rfl) rfl) ?_
  refine sq_nil ?_
  refine ht_seq ?_
  refine ht_region ?_
  refine sq_cons ⟨_, [(.t 5, .d (.sl 1 (t0.map (eI .i64))))]⟩ (v_move (.inl rfl) trivial rfl (ble _ _ rfl) rfl) ?_
  refine sq_cons ⟨_, [(.t 6, .d (.fn 45 [(.dp [(.s (.int .i64 t1u0))])]))]⟩ (v_move (.inl rfl) trivial rfl (ble _ _ rfl) rfl) ?_
  obtain ⟨t7, c1, h⟩ := bpos h
  refine sq_cons ⟨_, [(.t 7, iV t7)]⟩ (w_call (ds := [(.sl 1 (t0.map (eI .i64))), (.fn 45 [(.dp [(.s (.int .i64 t1u0))])])]) (caps := []) (l := [(.s (.int .i64 t7))]) (s36_45 k t0 t1u0 _ c1) rfl rfl rfl en36 trivial rfl (ble _ _ rfl) (.inl ⟨rfl, rfl⟩) rfl rfl) ?_
  refine sq_cons ⟨_, [(.t 8, bV (leI 0 t7))]⟩ (v_bin rfl trivial rfl (ble _ _ rfl) rfl rfl (b_geq rfl)) ?_
  refine sq_cons ⟨_, [(.t 4, bV (leI 0 t7))]⟩ (v_move (.inr rfl) trivial rfl (ble _ _ rfl) rfl) ?_
  refine sq_nil ?_
  refine ht_ret ?_
  cases h
  exact ret1 rfl (.tmp rfl)
set_option maxRecDepth 100000 in
set_option maxHeartbeats 4000000 in
theorem s34 (k : Nat) (t0 : Int) (t1 : List Int) (r : Bool) (h : F34 k t0 t1 = some r) : Awp.Spec Tryd.prog amb 34 [(.s (.int .i64 t0)), (.sl 1 (t1.map (eI .i64)))] (.ds [(.s (.bool r))]) := by
  rw [F34] at h
  refine spec_of Tryd.func34 rfl (ble _ _ rfl) fun w0 ok0 lt0 hA => ?_
  refine ht_seq ?_
  refine ht_region ?_
  refine sq_cons ⟨_, [(.t 2, .d (.dp [(.s (.int .i64 t0))]))]⟩ (v_box_d (cs := [(.s (.int .i64 t0))]) rfl trivial rfl (ble _ _ rfl) rfl rfl (ones_of rfl)) ?_
  refine sq_cons ⟨_, [(.t 4, bV false)]⟩ (v_move (.inr rfl) trivial rfl (ble _ _ rfl) rfl) ?_
  refine sq_nil ?_
  refine ht_seq ?_
  refine ht_region ?_
  refine sq_cons ⟨_, [(.t 5, .d (.sl 1 (t1.map (eI .i64))))]⟩ (v_move (.inl rfl) trivial rfl (ble _ _ rfl) rfl) ?_
  refine sq_cons ⟨_, [(.t 6, .d (.fn 45 [(.dp [(.s (.int .i64 t0))])]))]⟩ (v_func_d (ds := [(.dp [(.s (.int .i64 t0))])]) rfl trivial rfl (ble _ _ rfl) rfl) ?_
  obtain ⟨t7, c1, h⟩ := bpos h
  refine sq_cons ⟨_, [(.t 7, bV t7)]⟩ (w_call (ds := [(.sl 1 (t1.map (eI .i64))), (.fn 45 [(.dp [(.s (.int .i64 t0))])])]) (caps := []) (l := [(.s (.bool t7))]) (s26_45 k t1 t0 _ c1) rfl rfl rfl en26 trivial rfl (ble _ _ rfl) (.inl ⟨rfl, rfl⟩) rfl rfl) ?_
  refine sq_cons ⟨_, [(.t 8, bV (!t7))]⟩ (v_un rfl trivial rfl (ble _ _ rfl) rfl (u_not rfl)) ?_
  refine sq_cons ⟨_, [(.t 4, bV (!t7))]⟩ (v_move (.inr rfl) trivial rfl (ble _ _ rfl) rfl) ?_
  refine sq_nil ?_
  refine ht_ret ?_
  cases h
  exact ret1 rfl (.tmp rfl)
set_option maxRecDepth 100000 in
set_option maxHeartbeats 4000000 in
theorem s37 (k : Nat) (t0 : Int) (t1 : Int) (r : Bool) (h : F37 k t0 t1 = some r) : Awp.Spec Tryd.prog amb 37 [(.s (.int .i64 t0)), (.s (.int .i64 t1))] (.ds [(.s (.bool r))]) := by
  rw [F37] at h
  refine spec_of Tryd.func37 rfl (ble _ _ rfl) fun w0 ok0 lt0 hA => ?_
  refine ht_seq ?_
  refine ht_region ?_
  refine sq_cons ⟨_, [(.t 4, bV false)]⟩ (v_move (.inr rfl) trivial rfl (ble _ _ rfl) rfl) ?_
  refine sq_nil ?_
  refine ht_seq ?_
  refine ht_region ?_
  refine sq_cons ⟨_, [(.t 5, iV t0)]⟩ (v_move (.inl rfl) trivial rfl (ble _ _ rfl) rfl) ?_
  refine sq_cons ⟨_, [(.t 6, bV (leI 0 t0))]⟩ (v_bin rfl trivial rfl (ble _ _ rfl) rfl rfl (b_geq rfl)) ?_
  refine sq_cons ⟨_, [(.t 7, bV (leI 0 t0))]⟩ (v_move (.inl rfl) trivial rfl (ble _ _ rfl) rfl) ?_
  refine sq_cons ⟨_, [(.t 8, mg (leI 0 t0) (iV t0))]⟩ (v_cT rfl rfl rfl (ble _ _ rfl) rfl fun e1 => (v_move (.inl rfl) ⟨_, rfl, be e1⟩ rfl (ble _ _ rfl) rfl)) ?_
  refine sq_cons ⟨_, [(.t 9, mg (leI 0 t0) (iV t1))]⟩ (v_cT rfl rfl rfl (ble _ _ rfl) rfl fun e2 => (v_move (.inl rfl) ⟨_, rfl, be e2⟩ rfl (ble _ _ rfl) rfl)) ?_
  refine sq_cons ⟨_, [(.t 10, mg (leI 0 t0) (bV (leI t0 t1)))]⟩ (v_cT rfl rfl rfl (ble _ _ rfl) rfl fun e3 => (v_bin rfl ⟨_, rfl, be e3⟩ rfl (ble _ _ rfl) (gv e3) (gv e3) (b_leq rfl))) ?_
  refine sq_cons ⟨_, [(.t 11, bV ((leI 0 t0) && (leI t0 t1)))]⟩ (v_pickB rfl trivial rfl (ble _ _ rfl) rfl (fun e4 => (gv e4)) (fun e5 => rfl) (pA _ _)) ?_
  refine sq_cons ⟨_, [(.t 4, bV ((leI 0 t0) && (leI t0 t1)))]⟩ (v_move (.inr rfl) trivial rfl (ble _ _ rfl) rfl) ?_
  refine sq_nil ?_
  refine ht_ret ?_
  cases h
  exact ret1 rfl (.tmp rfl)
set_option maxRecDepth 100000 in
set_option maxHeartbeats 4000000 in
theorem s29 (k : Nat) (t0 : Stamp) (r : Bool) (h : F29 k t0 = some r) : Awp.Spec Tryd.prog amb 29 [(.agg (eStamp t0))] (.ds [(.s (.bool r))]) := by
  rw [F29] at h
  refine spec_of Tryd.func29 rfl (ble _ _ rfl) fun w0 ok0 lt0 hA => ?_
  refine ht_seq ?_
  refine ht_region ?_
  refine sq_cons ⟨_, [(.t 1, .d (.dp (eStamp t0)))]⟩ (v_box_d (cs := (eStamp t0)) rfl trivial rfl (ble _ _ rfl) rfl rfl (ones_of rfl)) ?_
  refine sq_cons ⟨_, [(.t 2, bV false)]⟩ (v_move (.inr rfl) trivial rfl (ble _ _ rfl) rfl) ?_
  refine sq_nil ?_
  refine ht_seq ?_
  refine ht_region ?_
  refine sq_cons ⟨_, [(.t 3, .d (.dp (eStamp t0)))]⟩ (v_field_dp (a0 := 0) (cs := (eStamp t0)) rfl trivial rfl (ble _ _ rfl) fo25_0 rfl) ?_
  refine sq_cons ⟨_, [(.t 4, iV t0.mWall)]⟩ (v_load_dp1 rfl trivial rfl (ble _ _ rfl) onT3 rfl rfl) ?_
  obtain ⟨t5, c1, h⟩ := bpos h
  refine sq_cons ⟨_, [(.t 5, bV t5)]⟩ (w_call (ds := [(.s (.int .i64 t0.mWall)), (.s (.int .i64 1099511627776))]) (caps := []) (l := [(.s (.bool t5))]) (s37 k t0.mWall 1099511627776 _ c1) rfl rfl rfl en37 trivial rfl (ble _ _ rfl) (.inl ⟨rfl, rfl⟩) rfl rfl) ?_
  refine sq_cons ⟨_, [(.t 6, bV t5)]⟩ (v_move (.inl rfl) trivial rfl (ble _ _ rfl) rfl) ?_
  refine sq_cons ⟨_, [(.t 7, mg t5 (.d (.dp (List.drop 1 (eStamp t0)))))]⟩ (v_cT rfl rfl rfl (ble _ _ rfl) rfl fun e2 => (v_field_dp (a0 := 1) (cs := (eStamp t0)) rfl ⟨_, rfl, be e2⟩ rfl (ble _ _ rfl) fo25_1 rfl)) ?_
  refine sq_cons ⟨_, [(.t 8, mg t5 (iV t0.mTick))]⟩ (v_cT rfl rfl rfl (ble _ _ rfl) rfl fun e3 => (v_load_dp1 rfl ⟨_, rfl, be e3⟩ rfl (ble _ _ rfl) onT3 (gv e3) rfl)) ?_
  obtain ⟨t9, c5, h⟩ := bpos h
  refine sq_cons ⟨_, [(.t 9, mg t5 (bV t9))]⟩ (v_cT rfl rfl rfl (ble _ _ rfl) rfl fun e4 => (w_call (ds := [(.s (.int .i64 t0.mTick)), (.s (.int .i64 1048576))]) (caps := []) (l := [(.s (.bool t9))]) (s37 k t0.mTick 1048576 _ (cpos e4 c5)) rfl rfl rfl en37 ⟨_, rfl, be e4⟩ rfl (ble _ _ rfl) (.inl ⟨rfl, rfl⟩) (cc (gv e4) (cc rfl rfl)) rfl)) ?_
  refine sq_cons ⟨_, [(.t 10, bV (t5 && t9))]⟩ (v_pickB rfl trivial rfl (ble _ _ rfl) rfl (fun e6 => (gv e6)) (fun e7 => rfl) (pA _ _)) ?_
  refine sq_cons ⟨_, [(.t 11, bV (t5 && t9))]⟩ (v_move (.inl rfl) trivial rfl (ble _ _ rfl) rfl) ?_
  refine sq_cons ⟨_, [(.t 12, mg (t5 && t9) (.d (.dp (List.drop 2 (eStamp t0)))))]⟩ (v_cT rfl rfl rfl (ble _ _ rfl) rfl fun e8 => (v_field_dp (a0 := 2) (cs := (eStamp t0)) rfl ⟨_, rfl, be e8⟩ rfl (ble _ _ rfl) fo25_2 rfl)) ?_
  refine sq_cons ⟨_, [(.t 13, mg (t5 && t9) (iV t0.mNode))]⟩ (v_cT rfl rfl rfl (ble _ _ rfl) rfl fun e9 => (v_load_dp1 rfl ⟨_, rfl, be e9⟩ rfl (ble _ _ rfl) onT3 (gv e9) rfl)) ?_
  obtain ⟨t14, c11, h⟩ := bpos h
  refine sq_cons ⟨_, [(.t 14, mg (t5 && t9) (bV t14))]⟩ (v_cT rfl rfl rfl (ble _ _ rfl) rfl fun e10 => (w_call (ds := [(.s (.int .i64 t0.mNode)), (.s (.int .i64 255))]) (caps := []) (l := [(.s (.bool t14))]) (s37 k t0.mNode 255 _ (cpos e10 c11)) rfl rfl rfl en37 ⟨_, rfl, be e10⟩ rfl (ble _ _ rfl) (.inl ⟨rfl, rfl⟩) (cc (gv e10) (cc rfl rfl)) rfl)) ?_
  refine sq_cons ⟨_, [(.t 15, bV ((t5 && t9) && t14))]⟩ (v_pickB rfl trivial rfl (ble _ _ rfl) rfl (fun e12 => (gv e12)) (fun e13 => rfl) (pA _ _)) ?_
  refine sq_cons ⟨_, [(.t 2, bV ((t5 && t9) && t14))]⟩ (v_move (.inr rfl) trivial rfl (ble _ _ rfl) rfl) ?_
  refine sq_nil ?_
  refine ht_ret ?_
  cases h
  exact ret1 rfl (.tmp rfl)
set_option maxRecDepth 100000 in
set_option maxHeartbeats 4000000 in
theorem s24 (k : Nat) (t0 : Request) (r : Bool) (h : F24 k t0 = some r) : Awp.Spec Tryd.prog amb 24 [(.agg (eRequest t0))] (.ds [(.s (.bool r))]) := by
  rw [F24] at h
  refine spec_of Tryd.func24 rfl (ble _ _ rfl) fun w0 ok0 lt0 hA => ?_
  refine ht_seq ?_
  refine ht_region ?_
  refine sq_cons ⟨_, [(.t 1, .d (.dp (eRequest t0)))]⟩ (v_box_d (cs := (eRequest t0)) rfl trivial rfl (ble _ _ rfl) rfl rfl (ones_of rfl)) ?_
  refine sq_cons ⟨_, [(.t 2, bV false)]⟩ (v_move (.inr rfl) trivial rfl (ble _ _ rfl) rfl) ?_
  refine sq_nil ?_
  refine ht_seq ?_
  refine ht_seq ?_
  refine ht_region ?_
  refine sq_cons ⟨_, [(.t 3, .d (.dp (eRequest t0)))]⟩ (v_field_dp (a0 := 0) (cs := (eRequest t0)) rfl trivial rfl (ble _ _ rfl) fo27_0 rfl) ?_
  refine sq_cons ⟨_, [(.t 4, iV t0.mClient)]⟩ (v_load_dp1 rfl trivial rfl (ble _ _ rfl) onT3 rfl rfl) ?_
  refine sq_cons ⟨_, [(.t 5, .d (.dp (List.drop 1 (eRequest t0))))]⟩ (v_field_dp (a0 := 1) (cs := (eRequest t0)) rfl trivial rfl (ble _ _ rfl) fo27_1 rfl) ?_
  refine sq_cons ⟨_, [(.t 6, iV t0.mReq)]⟩ (v_load_dp1 rfl trivial rfl (ble _ _ rfl) onT3 rfl rfl) ?_
  refine sq_cons ⟨_, [(.t 7, .d (.sl 1 (([t0.mClient, t0.mReq]).map (eI .i64))))]⟩ (w_bsl_d [(0, iV t0.mClient), (1, iV t0.mReq)] [t0.mClient, t0.mReq] (eI .i64) rfl trivial rfl (ble _ _ rfl) slT23 zr3 (encI .i64) (ble _ _ rfl) rfl (by kernel_rfl) rfl rfl (by kernel_rfl)) ?_
  obtain ⟨t8, c1, h⟩ := bpos h
  refine sq_cons ⟨_, [(.t 8, bV t8)]⟩ (w_call (ds := [(.s (.int .i64 1)), (.sl 1 (([t0.mClient, t0.mReq]).map (eI .i64)))]) (caps := []) (l := [(.s (.bool t8))]) (s34 k 1 ([t0.mClient, t0.mReq]) _ c1) rfl rfl rfl en34 trivial rfl (ble _ _ rfl) (.inl ⟨rfl, rfl⟩) rfl rfl) ?_
  refine sq_cons ⟨_, [(.t 9, bV (!t8))]⟩ (v_un rfl trivial rfl (ble _ _ rfl) rfl (u_not rfl)) ?_
  refine sq_cons ⟨_, [(.t 10, bV (!t8))]⟩ (v_move (.inl rfl) trivial rfl (ble _ _ rfl) rfl) ?_
  refine sq_cons ⟨_, [(.t 11, mg (!(!t8)) (.d (.dp (List.drop 2 (eRequest t0)))))]⟩ (v_cF rfl rfl rfl (ble _ _ rfl) rfl fun e2 => (v_field_dp (a0 := 2) (cs := (eRequest t0)) rfl ⟨_, rfl, be e2⟩ rfl (ble _ _ rfl) fo27_2 rfl)) ?_
  refine sq_cons ⟨_, [(.t 12, mg (!(!t8)) (iV t0.mKind))]⟩ (v_cF rfl rfl rfl (ble _ _ rfl) rfl fun e3 => (v_load_dp1 rfl ⟨_, rfl, be e3⟩ rfl (ble _ _ rfl) onT3 (gv (nF e3)) rfl)) ?_
  refine sq_cons ⟨_, [(.t 13, mg (!(!t8)) (bV (ltI t0.mKind 1)))]⟩ (v_cF rfl rfl rfl (ble _ _ rfl) rfl fun e4 => (v_bin rfl ⟨_, rfl, be e4⟩ rfl (ble _ _ rfl) (gv (nF e4)) rfl (b_lss rfl))) ?_
  refine sq_cons ⟨_, [(.t 14, bV ((!t8) || (ltI t0.mKind 1)))]⟩ (v_pickB rfl trivial rfl (ble _ _ rfl) rfl (fun e5 => rfl) (fun e6 => (gv (nF e6))) (pO _ _)) ?_
  refine sq_cons ⟨_, [(.t 15, bV ((!t8) || (ltI t0.mKind 1)))]⟩ (v_move (.inl rfl) trivial rfl (ble _ _ rfl) rfl) ?_
  refine sq_cons ⟨_, [(.t 16, mg (!((!t8) || (ltI t0.mKind 1))) (.d (.dp (List.drop 2 (eRequest t0)))))]⟩ (v_cF rfl rfl rfl (ble _ _ rfl) rfl fun e7 => (v_field_dp (a0 := 2) (cs := (eRequest t0)) rfl ⟨_, rfl, be e7⟩ rfl (ble _ _ rfl) fo27_2 rfl)) ?_
  refine sq_cons ⟨_, [(.t 17, mg (!((!t8) || (ltI t0.mKind 1))) (iV t0.mKind))]⟩ (v_cF rfl rfl rfl (ble _ _ rfl) rfl fun e8 => (v_load_dp1 rfl ⟨_, rfl, be e8⟩ rfl (ble _ _ rfl) onT3 (gv (nF e8)) rfl)) ?_
  refine sq_cons ⟨_, [(.t 18, mg (!((!t8) || (ltI t0.mKind 1))) (bV (ltI 6 t0.mKind)))]⟩ (v_cF rfl rfl rfl (ble _ _ rfl) rfl fun e9 => (v_bin rfl ⟨_, rfl, be e9⟩ rfl (ble _ _ rfl) (gv (nF e9)) rfl (b_gtr rfl))) ?_
  refine sq_cons ⟨_, [(.t 19, bV (((!t8) || (ltI t0.mKind 1)) || (ltI 6 t0.mKind)))]⟩ (v_pickB rfl trivial rfl (ble _ _ rfl) rfl (fun e10 => rfl) (fun e11 => (gv (nF e11))) (pO _ _)) ?_
  refine sq_cons ⟨_, [(.t 20, bV (((!t8) || (ltI t0.mKind 1)) || (ltI 6 t0.mKind)))]⟩ (v_move (.inl rfl) trivial rfl (ble _ _ rfl) rfl) ?_
  refine sq_cons ⟨_, [(.t 21, mg (!(((!t8) || (ltI t0.mKind 1)) || (ltI 6 t0.mKind))) (.d (.dp (List.drop 4 (eRequest t0)))))]⟩ (v_cF rfl rfl rfl (ble _ _ rfl) rfl fun e12 => (v_field_dp (a0 := 4) (cs := (eRequest t0)) rfl ⟨_, rfl, be e12⟩ rfl (ble _ _ rfl) fo27_4 rfl)) ?_
  refine sq_cons ⟨_, [(.t 22, mg (!(((!t8) || (ltI t0.mKind 1)) || (ltI 6 t0.mKind))) (sV t0.mValue))]⟩ (v_cF rfl rfl rfl (ble _ _ rfl) rfl fun e13 => (v_load_dp1 rfl ⟨_, rfl, be e13⟩ rfl (ble _ _ rfl) onT9 (gv (nF e13)) rfl)) ?_
  refine sq_cons ⟨_, [(.t 23, mg (!(((!t8) || (ltI t0.mKind 1)) || (ltI 6 t0.mKind))) (iV (t0.mValue.size : Int)))]⟩ (v_cF rfl rfl rfl (ble _ _ rfl) rfl fun e14 => (v_len_str rfl rfl ⟨_, rfl, be e14⟩ rfl (ble _ _ rfl) und9 (gv (nF e14)))) ?_
  refine sq_cons ⟨_, [(.t 24, mg (!(((!t8) || (ltI t0.mKind 1)) || (ltI 6 t0.mKind))) (bV (ltI 16 (t0.mValue.size : Int))))]⟩ (v_cF rfl rfl rfl (ble _ _ rfl) rfl fun e15 => (v_bin rfl ⟨_, rfl, be e15⟩ rfl (ble _ _ rfl) (gv (nF e15)) rfl (b_gtr rfl))) ?_
  refine sq_cons ⟨_, [(.t 25, bV ((((!t8) || (ltI t0.mKind 1)) || (ltI 6 t0.mKind)) || (ltI 16 (t0.mValue.size : Int))))]⟩ (v_pickB rfl trivial rfl (ble _ _ rfl) rfl (fun e16 => rfl) (fun e17 => (gv (nF e17))) (pO _ _)) ?_
  refine sq_cons ⟨_, [(.t 26, bV ((((!t8) || (ltI t0.mKind 1)) || (ltI 6 t0.mKind)) || (ltI 16 (t0.mValue.size : Int))))]⟩ (v_move (.inl rfl) trivial rfl (ble _ _ rfl) rfl) ?_
  refine sq_cons ⟨_, [(.t 27, mg (!((((!t8) || (ltI t0.mKind 1)) || (ltI 6 t0.mKind)) || (ltI 16 (t0.mValue.size : Int)))) (.d (.dp (List.drop 6 (eRequest t0)))))]⟩ (v_cF rfl rfl rfl (ble _ _ rfl) rfl fun e18 => (v_field_dp (a0 := 6) (cs := (eRequest t0)) rfl ⟨_, rfl, be e18⟩ rfl (ble _ _ rfl) fo27_6 rfl)) ?_
  refine sq_cons ⟨_, [(.t 28, mg (!((((!t8) || (ltI t0.mKind 1)) || (ltI 6 t0.mKind)) || (ltI 16 (t0.mValue.size : Int)))) (sV t0.mOld))]⟩ (v_cF rfl rfl rfl (ble _ _ rfl) rfl fun e19 => (v_load_dp1 rfl ⟨_, rfl, be e19⟩ rfl (ble _ _ rfl) onT9 (gv (nF e19)) rfl)) ?_
  refine sq_cons ⟨_, [(.t 29, mg (!((((!t8) || (ltI t0.mKind 1)) || (ltI 6 t0.mKind)) || (ltI 16 (t0.mValue.size : Int)))) (iV (t0.mOld.size : Int)))]⟩ (v_cF rfl rfl rfl (ble _ _ rfl) rfl fun e20 => (v_len_str rfl rfl ⟨_, rfl, be e20⟩ rfl (ble _ _ rfl) und9 (gv (nF e20)))) ?_
  refine sq_cons ⟨_, [(.t 30, mg (!((((!t8) || (ltI t0.mKind 1)) || (ltI 6 t0.mKind)) || (ltI 16 (t0.mValue.size : Int)))) (bV (ltI 16 (t0.mOld.size : Int))))]⟩ (v_cF rfl rfl rfl (ble _ _ rfl) rfl fun e21 => (v_bin rfl ⟨_, rfl, be e21⟩ rfl (ble _ _ rfl) (gv (nF e21)) rfl (b_gtr rfl))) ?_
  refine sq_cons ⟨_, [(.t 31, bV (((((!t8) || (ltI t0.mKind 1)) || (ltI 6 t0.mKind)) || (ltI 16 (t0.mValue.size : Int))) || (ltI 16 (t0.mOld.size : Int))))]⟩ (v_pickB rfl trivial rfl (ble _ _ rfl) rfl (fun e22 => rfl) (fun e23 => (gv (nF e23))) (pO _ _)) ?_
  refine sq_cons ⟨_, [(.t 32, bV (((((!t8) || (ltI t0.mKind 1)) || (ltI 6 t0.mKind)) || (ltI 16 (t0.mValue.size : Int))) || (ltI 16 (t0.mOld.size : Int))))]⟩ (v_move (.inl rfl) trivial rfl (ble _ _ rfl) rfl) ?_
  refine sq_cons ⟨_, [(.t 33, mg (!(((((!t8) || (ltI t0.mKind 1)) || (ltI 6 t0.mKind)) || (ltI 16 (t0.mValue.size : Int))) || (ltI 16 (t0.mOld.size : Int)))) (.d (.dp (List.drop 11 (eRequest t0)))))]⟩ (v_cF rfl rfl rfl (ble _ _ rfl) rfl fun e24 => (v_field_dp (a0 := 11) (cs := (eRequest t0)) rfl ⟨_, rfl, be e24⟩ rfl (ble _ _ rfl) fo27_9 rfl)) ?_
  refine sq_cons ⟨_, [(.t 34, mg (!(((((!t8) || (ltI t0.mKind 1)) || (ltI 6 t0.mKind)) || (ltI 16 (t0.mValue.size : Int))) || (ltI 16 (t0.mOld.size : Int)))) (iV t0.mLimit))]⟩ (v_cF rfl rfl rfl (ble _ _ rfl) rfl fun e25 => (v_load_dp1 rfl ⟨_, rfl, be e25⟩ rfl (ble _ _ rfl) onT3 (gv (nF e25)) rfl)) ?_
  refine sq_cons ⟨_, [(.t 35, mg (!(((((!t8) || (ltI t0.mKind 1)) || (ltI 6 t0.mKind)) || (ltI 16 (t0.mValue.size : Int))) || (ltI 16 (t0.mOld.size : Int)))) (bV (ltI t0.mLimit 0)))]⟩ (v_cF rfl rfl rfl (ble _ _ rfl) rfl fun e26 => (v_bin rfl ⟨_, rfl, be e26⟩ rfl (ble _ _ rfl) (gv (nF e26)) rfl (b_lss rfl))) ?_
  refine sq_cons ⟨_, [(.t 36, bV ((((((!t8) || (ltI t0.mKind 1)) || (ltI 6 t0.mKind)) || (ltI 16 (t0.mValue.size : Int))) || (ltI 16 (t0.mOld.size : Int))) || (ltI t0.mLimit 0)))]⟩ (v_pickB rfl trivial rfl (ble _ _ rfl) rfl (fun e27 => rfl) (fun e28 => (gv (nF e28))) (pO _ _)) ?_
  refine sq_cons ⟨_, [(.t 37, bV ((((((!t8) || (ltI t0.mKind 1)) || (ltI 6 t0.mKind)) || (ltI 16 (t0.mValue.size : Int))) || (ltI 16 (t0.mOld.size : Int))) || (ltI t0.mLimit 0)))]⟩ (v_move (.inl rfl) trivial rfl (ble _ _ rfl) rfl) ?_
  refine sq_cons ⟨_, [(.t 38, mg (!((((((!t8) || (ltI t0.mKind 1)) || (ltI 6 t0.mKind)) || (ltI 16 (t0.mValue.size : Int))) || (ltI 16 (t0.mOld.size : Int))) || (ltI t0.mLimit 0))) (.d (.dp (List.drop 11 (eRequest t0)))))]⟩ (v_cF rfl rfl rfl (ble _ _ rfl) rfl fun e29 => (v_field_dp (a0 := 11) (cs := (eRequest t0)) rfl ⟨_, rfl, be e29⟩ rfl (ble _ _ rfl) fo27_9 rfl)) ?_
  refine sq_cons ⟨_, [(.t 39, mg (!((((((!t8) || (ltI t0.mKind 1)) || (ltI 6 t0.mKind)) || (ltI 16 (t0.mValue.size : Int))) || (ltI 16 (t0.mOld.size : Int))) || (ltI t0.mLimit 0))) (iV t0.mLimit))]⟩ (v_cF rfl rfl rfl (ble _ _ rfl) rfl fun e30 => (v_load_dp1 rfl ⟨_, rfl, be e30⟩ rfl (ble _ _ rfl) onT3 (gv (nF e30)) rfl)) ?_
  refine sq_cons ⟨_, [(.t 40, mg (!((((((!t8) || (ltI t0.mKind 1)) || (ltI 6 t0.mKind)) || (ltI 16 (t0.mValue.size : Int))) || (ltI 16 (t0.mOld.size : Int))) || (ltI t0.mLimit 0))) (bV (ltI 8 t0.mLimit)))]⟩ (v_cF rfl rfl rfl (ble _ _ rfl) rfl fun e31 => (v_bin rfl ⟨_, rfl, be e31⟩ rfl (ble _ _ rfl) (gv (nF e31)) rfl (b_gtr rfl))) ?_
  refine sq_cons ⟨_, [(.t 41, bV (((((((!t8) || (ltI t0.mKind 1)) || (ltI 6 t0.mKind)) || (ltI 16 (t0.mValue.size : Int))) || (ltI 16 (t0.mOld.size : Int))) || (ltI t0.mLimit 0)) || (ltI 8 t0.mLimit)))]⟩ (v_pickB rfl trivial rfl (ble _ _ rfl) rfl (fun e32 => rfl) (fun e33 => (gv (nF e33))) (pO _ _)) ?_
  refine sq_cons ⟨_, [(.t 42, bV (((((((!t8) || (ltI t0.mKind 1)) || (ltI 6 t0.mKind)) || (ltI 16 (t0.mValue.size : Int))) || (ltI 16 (t0.mOld.size : Int))) || (ltI t0.mLimit 0)) || (ltI 8 t0.mLimit)))]⟩ (v_move (.inl rfl) trivial rfl (ble _ _ rfl) rfl) ?_
  refine sq_cons ⟨_, [(.t 43, mg (!(((((((!t8) || (ltI t0.mKind 1)) || (ltI 6 t0.mKind)) || (ltI 16 (t0.mValue.size : Int))) || (ltI 16 (t0.mOld.size : Int))) || (ltI t0.mLimit 0)) || (ltI 8 t0.mLimit))) (.d (.dp (List.drop 7 (eRequest t0)))))]⟩ (v_cF rfl rfl rfl (ble _ _ rfl) rfl fun e34 => (v_field_dp (a0 := 7) (cs := (eRequest t0)) rfl ⟨_, rfl, be e34⟩ rfl (ble _ _ rfl) fo27_7 rfl)) ?_
  refine sq_cons ⟨_, [(.t 44, mg (!(((((((!t8) || (ltI t0.mKind 1)) || (ltI 6 t0.mKind)) || (ltI 16 (t0.mValue.size : Int))) || (ltI 16 (t0.mOld.size : Int))) || (ltI t0.mLimit 0)) || (ltI 8 t0.mLimit))) (.d (.agg (eStamp t0.mAt))))]⟩ (v_cF rfl rfl rfl (ble _ _ rfl) rfl fun e35 => (w_ldp (List.drop 7 (eRequest t0)) (eStamp t0.mAt) rfl ⟨_, rfl, be e35⟩ rfl (ble _ _ rfl) ag25 (gv (nF e35)) (ble _ _ rfl) rfl)) ?_
  obtain ⟨t45, c37, h⟩ := bpos h
  refine sq_cons ⟨_, [(.t 45, mg (!(((((((!t8) || (ltI t0.mKind 1)) || (ltI 6 t0.mKind)) || (ltI 16 (t0.mValue.size : Int))) || (ltI 16 (t0.mOld.size : Int))) || (ltI t0.mLimit 0)) || (ltI 8 t0.mLimit))) (bV t45))]⟩ (v_cF rfl rfl rfl (ble _ _ rfl) rfl fun e36 => (w_call (ds := [(.agg (eStamp t0.mAt))]) (caps := []) (l := [(.s (.bool t45))]) (s29 k t0.mAt _ (cpos (nF e36) c37)) rfl rfl rfl en29 ⟨_, rfl, be e36⟩ rfl (ble _ _ rfl) (.inl ⟨rfl, rfl⟩) (cc (gv (nF e36)) rfl) rfl)) ?_
  refine sq_cons ⟨_, [(.t 46, mg (!(((((((!t8) || (ltI t0.mKind 1)) || (ltI 6 t0.mKind)) || (ltI 16 (t0.mValue.size : Int))) || (ltI 16 (t0.mOld.size : Int))) || (ltI t0.mLimit 0)) || (ltI 8 t0.mLimit))) (bV (!t45)))]⟩ (v_cF rfl rfl rfl (ble _ _ rfl) rfl fun e38 => (v_un rfl ⟨_, rfl, be e38⟩ rfl (ble _ _ rfl) (gv (nF e38)) (u_not rfl))) ?_
  refine sq_cons ⟨_, [(.t 47, bV ((((((((!t8) || (ltI t0.mKind 1)) || (ltI 6 t0.mKind)) || (ltI 16 (t0.mValue.size : Int))) || (ltI 16 (t0.mOld.size : Int))) || (ltI t0.mLimit 0)) || (ltI 8 t0.mLimit)) || (!t45)))]⟩ (v_pickB rfl trivial rfl (ble _ _ rfl) rfl (fun e39 => rfl) (fun e40 => (gv (nF e40))) (pO _ _)) ?_
  refine sq_cons ⟨_, [(.t 48, bV ((((((((!t8) || (ltI t0.mKind 1)) || (ltI 6 t0.mKind)) || (ltI 16 (t0.mValue.size : Int))) || (ltI 16 (t0.mOld.size : Int))) || (ltI t0.mLimit 0)) || (ltI 8 t0.mLimit)) || (!t45)))]⟩ (v_move (.inl rfl) trivial rfl (ble _ _ rfl) rfl) ?_
  refine sq_cons ⟨_, [(.t 49, mg (!((((((((!t8) || (ltI t0.mKind 1)) || (ltI 6 t0.mKind)) || (ltI 16 (t0.mValue.size : Int))) || (ltI 16 (t0.mOld.size : Int))) || (ltI t0.mLimit 0)) || (ltI 8 t0.mLimit)) || (!t45))) (.d (.dp (List.drop 10 (eRequest t0)))))]⟩ (v_cF rfl rfl rfl (ble _ _ rfl) rfl fun e41 => (v_field_dp (a0 := 10) (cs := (eRequest t0)) rfl ⟨_, rfl, be e41⟩ rfl (ble _ _ rfl) fo27_8 rfl)) ?_
  refine sq_cons ⟨_, [(.t 50, mg (!((((((((!t8) || (ltI t0.mKind 1)) || (ltI 6 t0.mKind)) || (ltI 16 (t0.mValue.size : Int))) || (ltI 16 (t0.mOld.size : Int))) || (ltI t0.mLimit 0)) || (ltI 8 t0.mLimit)) || (!t45))) (sV t0.mHi))]⟩ (v_cF rfl rfl rfl (ble _ _ rfl) rfl fun e42 => (v_load_dp1 rfl ⟨_, rfl, be e42⟩ rfl (ble _ _ rfl) onT9 (gv (nF e42)) rfl)) ?_
  refine sq_cons ⟨_, [(.t 51, mg (!((((((((!t8) || (ltI t0.mKind 1)) || (ltI 6 t0.mKind)) || (ltI 16 (t0.mValue.size : Int))) || (ltI 16 (t0.mOld.size : Int))) || (ltI t0.mLimit 0)) || (ltI 8 t0.mLimit)) || (!t45))) (bV (!strEq t0.mHi (⟨#[]⟩ : ByteArray))))]⟩ (v_cF rfl rfl rfl (ble _ _ rfl) rfl fun e43 => (v_bin rfl ⟨_, rfl, be e43⟩ rfl (ble _ _ rfl) (gv (nF e43)) rfl (b_neS rfl))) ?_
  refine sq_cons ⟨_, [(.t 52, mg (!((((((((!t8) || (ltI t0.mKind 1)) || (ltI 6 t0.mKind)) || (ltI 16 (t0.mValue.size : Int))) || (ltI 16 (t0.mOld.size : Int))) || (ltI t0.mLimit 0)) || (ltI 8 t0.mLimit)) || (!t45))) (bV (!strEq t0.mHi (⟨#[]⟩ : ByteArray))))]⟩ (v_cF rfl rfl rfl (ble _ _ rfl) rfl fun e44 => (v_move (.inl rfl) ⟨_, rfl, be e44⟩ rfl (ble _ _ rfl) (gv (nF e44)))) ?_
  refine sq_cons ⟨_, [(.t 53, mg ((!((((((((!t8) || (ltI t0.mKind 1)) || (ltI 6 t0.mKind)) || (ltI 16 (t0.mValue.size : Int))) || (ltI 16 (t0.mOld.size : Int))) || (ltI t0.mLimit 0)) || (ltI 8 t0.mLimit)) || (!t45))) && (!strEq t0.mHi (⟨#[]⟩ : ByteArray))) (.d (.dp (List.drop 10 (eRequest t0)))))]⟩ (v_mT rfl rfl rfl (ble _ _ rfl) rfl fun e45 e46 => (v_field_dp (a0 := 10) (cs := (eRequest t0)) rfl ⟨_, rfl, bm e45 e46⟩ rfl (ble _ _ rfl) fo27_8 rfl)) ?_
  refine sq_cons ⟨_, [(.t 54, mg ((!((((((((!t8) || (ltI t0.mKind 1)) || (ltI 6 t0.mKind)) || (ltI 16 (t0.mValue.size : Int))) || (ltI 16 (t0.mOld.size : Int))) || (ltI t0.mLimit 0)) || (ltI 8 t0.mLimit)) || (!t45))) && (!strEq t0.mHi (⟨#[]⟩ : ByteArray))) (sV t0.mHi))]⟩ (v_mT rfl rfl rfl (ble _ _ rfl) rfl fun e47 e48 => (v_load_dp1 rfl ⟨_, rfl, bm e47 e48⟩ rfl (ble _ _ rfl) onT9 (gv (aT e47 e48)) rfl)) ?_
  obtain ⟨t55, c51, h⟩ := bpos h
  refine sq_cons ⟨_, [(.t 55, mg ((!((((((((!t8) || (ltI t0.mKind 1)) || (ltI 6 t0.mKind)) || (ltI 16 (t0.mValue.size : Int))) || (ltI 16 (t0.mOld.size : Int))) || (ltI t0.mLimit 0)) || (ltI 8 t0.mLimit)) || (!t45))) && (!strEq t0.mHi (⟨#[]⟩ : ByteArray))) (bV t55))]⟩ (v_mT rfl rfl rfl (ble _ _ rfl) rfl fun e49 e50 => (w_call (ds := [(.s (.string t0.mHi))]) (caps := []) (l := [(.s (.bool t55))]) (s32 k t0.mHi _ (cpos (aT e49 e50) c51)) rfl rfl rfl en32 ⟨_, rfl, bm e49 e50⟩ rfl (ble _ _ rfl) (.inl ⟨rfl, rfl⟩) (cc (gv (aT e49 e50)) rfl) rfl)) ?_
  refine sq_cons ⟨_, [(.t 56, mg ((!((((((((!t8) || (ltI t0.mKind 1)) || (ltI 6 t0.mKind)) || (ltI 16 (t0.mValue.size : Int))) || (ltI 16 (t0.mOld.size : Int))) || (ltI t0.mLimit 0)) || (ltI 8 t0.mLimit)) || (!t45))) && (!strEq t0.mHi (⟨#[]⟩ : ByteArray))) (bV (!t55)))]⟩ (v_mT rfl rfl rfl (ble _ _ rfl) rfl fun e52 e53 => (v_un rfl ⟨_, rfl, bm e52 e53⟩ rfl (ble _ _ rfl) (gv (aT e52 e53)) (u_not rfl))) ?_
  refine sq_cons ⟨_, [(.t 57, mg (!((((((((!t8) || (ltI t0.mKind 1)) || (ltI 6 t0.mKind)) || (ltI 16 (t0.mValue.size : Int))) || (ltI 16 (t0.mOld.size : Int))) || (ltI t0.mLimit 0)) || (ltI 8 t0.mLimit)) || (!t45))) (bV ((!strEq t0.mHi (⟨#[]⟩ : ByteArray)) && (!t55))))]⟩ (v_cF rfl rfl rfl (ble _ _ rfl) rfl fun e54 => (v_pickB rfl ⟨_, rfl, be e54⟩ rfl (ble _ _ rfl) (gv (nF e54)) (fun e55 => (gv (aT (nF e54) e55))) (fun e56 => rfl) (pA _ _))) ?_
  refine sq_cons ⟨_, [(.t 58, bV (((((((((!t8) || (ltI t0.mKind 1)) || (ltI 6 t0.mKind)) || (ltI 16 (t0.mValue.size : Int))) || (ltI 16 (t0.mOld.size : Int))) || (ltI t0.mLimit 0)) || (ltI 8 t0.mLimit)) || (!t45)) || ((!strEq t0.mHi (⟨#[]⟩ : ByteArray)) && (!t55))))]⟩ (v_pickB rfl trivial rfl (ble _ _ rfl) rfl (fun e57 => rfl) (fun e58 => (gv (nF e58))) (pO _ _)) ?_
  refine sq_nil ?_
  refine ht_cond (b := (((((((((!t8) || (ltI t0.mKind 1)) || (ltI 6 t0.mKind)) || (ltI 16 (t0.mValue.size : Int))) || (ltI 16 (t0.mOld.size : Int))) || (ltI t0.mLimit 0)) || (ltI 8 t0.mLimit)) || (!t45)) || ((!strEq t0.mHi (⟨#[]⟩ : ByteArray)) && (!t55)))) rfl (fun e59 => ?_) (fun e59 => ?_)
  · replace h := cpos e59 h
    refine ht_seq ?_
    refine ht_region ?_
    refine sq_cons ⟨_, [(.t 2, bV false)]⟩ (v_move (.inr rfl) trivial rfl (ble _ _ rfl) rfl) ?_
    refine sq_nil ?_
    refine ht_ret ?_
    cases h
    exact ret1 rfl (.tmp rfl)
  · replace h := cneg e59 h
    refine ht_skip ?_
    refine ht_seq ?_
    refine ht_seq ?_
    refine ht_region ?_
    refine sq_cons ⟨_, [(.t 59, .d (.dp (List.drop 2 (eRequest t0))))]⟩ (v_field_dp (a0 := 2) (cs := (eRequest t0)) rfl trivial rfl (ble _ _ rfl) fo27_2 rfl) ?_
    refine sq_cons ⟨_, [(.t 60, iV t0.mKind)]⟩ (v_load_dp1 rfl trivial rfl (ble _ _ rfl) onT3 rfl rfl) ?_
    refine sq_cons ⟨_, [(.t 61, bV (eqI t0.mKind 6))]⟩ (v_bin rfl trivial rfl (ble _ _ rfl) rfl rfl (b_eql rfl)) ?_
    refine sq_nil ?_
    refine ht_cond (b := (eqI t0.mKind 6)) rfl (fun e60 => ?_) (fun e60 => ?_)
    · replace h := cpos e60 h
      refine ht_seq ?_
      refine ht_region ?_
      refine sq_cons ⟨_, [(.t 62, .d (.dp (List.drop 3 (eRequest t0))))]⟩ (v_field_dp (a0 := 3) (cs := (eRequest t0)) rfl trivial rfl (ble _ _ rfl) fo27_3 rfl) ?_
      refine sq_cons ⟨_, [(.t 63, sV t0.mKey)]⟩ (v_load_dp1 rfl trivial rfl (ble _ _ rfl) onT9 rfl rfl) ?_
      refine sq_cons ⟨_, [(.t 64, bV (strEq t0.mKey (⟨#[]⟩ : ByteArray)))]⟩ (v_bin rfl trivial rfl (ble _ _ rfl) rfl rfl (b_eqS rfl)) ?_
      refine sq_cons ⟨_, [(.t 65, bV (strEq t0.mKey (⟨#[]⟩ : ByteArray)))]⟩ (v_move (.inl rfl) trivial rfl (ble _ _ rfl) rfl) ?_
      refine sq_cons ⟨_, [(.t 66, mg (!(strEq t0.mKey (⟨#[]⟩ : ByteArray))) (.d (.dp (List.drop 3 (eRequest t0)))))]⟩ (v_cF rfl rfl rfl (ble _ _ rfl) rfl fun e61 => (v_field_dp (a0 := 3) (cs := (eRequest t0)) rfl ⟨_, rfl, be e61⟩ rfl (ble _ _ rfl) fo27_3 rfl)) ?_
      refine sq_cons ⟨_, [(.t 67, mg (!(strEq t0.mKey (⟨#[]⟩ : ByteArray))) (sV t0.mKey))]⟩ (v_cF rfl rfl rfl (ble _ _ rfl) rfl fun e62 => (v_load_dp1 rfl ⟨_, rfl, be e62⟩ rfl (ble _ _ rfl) onT9 (gv (nF e62)) rfl)) ?_
      obtain ⟨t68, c64, h⟩ := bpos h
      refine sq_cons ⟨_, [(.t 68, mg (!(strEq t0.mKey (⟨#[]⟩ : ByteArray))) (bV t68))]⟩ (v_cF rfl rfl rfl (ble _ _ rfl) rfl fun e63 => (w_call (ds := [(.s (.string t0.mKey))]) (caps := []) (l := [(.s (.bool t68))]) (s32 k t0.mKey _ (cpos (nF e63) c64)) rfl rfl rfl en32 ⟨_, rfl, be e63⟩ rfl (ble _ _ rfl) (.inl ⟨rfl, rfl⟩) (cc (gv (nF e63)) rfl) rfl)) ?_
      refine sq_cons ⟨_, [(.t 69, bV ((strEq t0.mKey (⟨#[]⟩ : ByteArray)) || t68))]⟩ (v_pickB rfl trivial rfl (ble _ _ rfl) rfl (fun e65 => rfl) (fun e66 => (gv (nF e66))) (pO _ _)) ?_
      refine sq_cons ⟨_, [(.t 70, bV ((strEq t0.mKey (⟨#[]⟩ : ByteArray)) || t68))]⟩ (v_move (.inl rfl) trivial rfl (ble _ _ rfl) rfl) ?_
      refine sq_cons ⟨_, [(.t 71, mg ((strEq t0.mKey (⟨#[]⟩ : ByteArray)) || t68) (.d (.dp (List.drop 11 (eRequest t0)))))]⟩ (v_cT rfl rfl rfl (ble _ _ rfl) rfl fun e67 => (v_field_dp (a0 := 11) (cs := (eRequest t0)) rfl ⟨_, rfl, be e67⟩ rfl (ble _ _ rfl) fo27_9 rfl)) ?_
      refine sq_cons ⟨_, [(.t 72, mg ((strEq t0.mKey (⟨#[]⟩ : ByteArray)) || t68) (iV t0.mLimit))]⟩ (v_cT rfl rfl rfl (ble _ _ rfl) rfl fun e68 => (v_load_dp1 rfl ⟨_, rfl, be e68⟩ rfl (ble _ _ rfl) onT3 (gv e68) rfl)) ?_
      refine sq_cons ⟨_, [(.t 73, mg ((strEq t0.mKey (⟨#[]⟩ : ByteArray)) || t68) (bV (leI 1 t0.mLimit)))]⟩ (v_cT rfl rfl rfl (ble _ _ rfl) rfl fun e69 => (v_bin rfl ⟨_, rfl, be e69⟩ rfl (ble _ _ rfl) (gv e69) rfl (b_geq rfl))) ?_
      refine sq_cons ⟨_, [(.t 74, bV (((strEq t0.mKey (⟨#[]⟩ : ByteArray)) || t68) && (leI 1 t0.mLimit)))]⟩ (v_pickB rfl trivial rfl (ble _ _ rfl) rfl (fun e70 => (gv e70)) (fun e71 => rfl) (pA _ _)) ?_
      refine sq_cons ⟨_, [(.t 2, bV (((strEq t0.mKey (⟨#[]⟩ : ByteArray)) || t68) && (leI 1 t0.mLimit)))]⟩ (v_move (.inr rfl) trivial rfl (ble _ _ rfl) rfl) ?_
      refine sq_nil ?_
      refine ht_ret ?_
      cases h
      exact ret1 rfl (.tmp rfl)
    · replace h := cneg e60 h
      refine ht_skip ?_
      refine ht_seq ?_
      refine ht_region ?_
      refine sq_cons ⟨_, [(.t 75, .d (.dp (List.drop 3 (eRequest t0))))]⟩ (v_field_dp (a0 := 3) (cs := (eRequest t0)) rfl trivial rfl (ble _ _ rfl) fo27_3 rfl) ?_
      refine sq_cons ⟨_, [(.t 76, sV t0.mKey)]⟩ (v_load_dp1 rfl trivial rfl (ble _ _ rfl) onT9 rfl rfl) ?_
      obtain ⟨t77, c72, h⟩ := bpos h
      refine sq_cons ⟨_, [(.t 77, bV t77)]⟩ (w_call (ds := [(.s (.string t0.mKey))]) (caps := []) (l := [(.s (.bool t77))]) (s32 k t0.mKey _ c72) rfl rfl rfl en32 trivial rfl (ble _ _ rfl) (.inl ⟨rfl, rfl⟩) rfl rfl) ?_
      refine sq_cons ⟨_, [(.t 2, bV t77)]⟩ (v_move (.inr rfl) trivial rfl (ble _ _ rfl) rfl) ?_
      refine sq_nil ?_
      refine ht_ret ?_
      cases h
      exact ret1 rfl (.tmp rfl)
set_option maxRecDepth 100000 in
set_option maxHeartbeats 4000000 in
theorem s13 (k : Nat) (t0 : Client) (r : Bool) (h : F13 k t0 = some r) : Awp.Spec Tryd.prog amb 13 [(.agg (eClient t0))] (.ds [(.s (.bool r))]) := by
  rw [F13] at h
  refine spec_of Tryd.func13 rfl (ble _ _ rfl) fun w0 ok0 lt0 hA => ?_
  refine ht_seq ?_
  refine ht_region ?_
  refine sq_cons ⟨_, [(.t 1, .d (.dp (eClient t0)))]⟩ (v_box_d (cs := (eClient t0)) rfl trivial rfl (ble _ _ rfl) rfl rfl (ones_of rfl)) ?_
  refine sq_cons ⟨_, [(.t 2, bV false)]⟩ (v_move (.inr rfl) trivial rfl (ble _ _ rfl) rfl) ?_
  refine sq_nil ?_
  refine ht_seq ?_
  refine ht_seq ?_
  refine ht_region ?_
  refine sq_cons ⟨_, [(.t 3, .d (.dp (eClient t0)))]⟩ (v_field_dp (a0 := 0) (cs := (eClient t0)) rfl trivial rfl (ble _ _ rfl) fo29_0 rfl) ?_
  refine sq_cons ⟨_, [(.t 4, iV t0.mID)]⟩ (v_load_dp1 rfl trivial rfl (ble _ _ rfl) onT3 rfl rfl) ?_
  refine sq_cons ⟨_, [(.t 5, bV (ltI t0.mID 1))]⟩ (v_bin rfl trivial rfl (ble _ _ rfl) rfl rfl (b_lss rfl)) ?_
  refine sq_cons ⟨_, [(.t 6, bV (ltI t0.mID 1))]⟩ (v_move (.inl rfl) trivial rfl (ble _ _ rfl) rfl) ?_
  refine sq_cons ⟨_, [(.t 7, mg (!(ltI t0.mID 1)) (.d (.dp (eClient t0))))]⟩ (v_cF rfl rfl rfl (ble _ _ rfl) rfl fun e1 => (v_field_dp (a0 := 0) (cs := (eClient t0)) rfl ⟨_, rfl, be e1⟩ rfl (ble _ _ rfl) fo29_0 rfl)) ?_
  refine sq_cons ⟨_, [(.t 8, mg (!(ltI t0.mID 1)) (iV t0.mID))]⟩ (v_cF rfl rfl rfl (ble _ _ rfl) rfl fun e2 => (v_load_dp1 rfl ⟨_, rfl, be e2⟩ rfl (ble _ _ rfl) onT3 (gv (nF e2)) rfl)) ?_
  refine sq_cons ⟨_, [(.t 9, mg (!(ltI t0.mID 1)) (bV (ltI 8 t0.mID)))]⟩ (v_cF rfl rfl rfl (ble _ _ rfl) rfl fun e3 => (v_bin rfl ⟨_, rfl, be e3⟩ rfl (ble _ _ rfl) (gv (nF e3)) rfl (b_gtr rfl))) ?_
  refine sq_cons ⟨_, [(.t 10, bV ((ltI t0.mID 1) || (ltI 8 t0.mID)))]⟩ (v_pickB rfl trivial rfl (ble _ _ rfl) rfl (fun e4 => rfl) (fun e5 => (gv (nF e5))) (pO _ _)) ?_
  refine sq_cons ⟨_, [(.t 11, bV ((ltI t0.mID 1) || (ltI 8 t0.mID)))]⟩ (v_move (.inl rfl) trivial rfl (ble _ _ rfl) rfl) ?_
  refine sq_cons ⟨_, [(.t 12, mg (!((ltI t0.mID 1) || (ltI 8 t0.mID))) (.d (.dp (List.drop 1 (eClient t0)))))]⟩ (v_cF rfl rfl rfl (ble _ _ rfl) rfl fun e6 => (v_field_dp (a0 := 1) (cs := (eClient t0)) rfl ⟨_, rfl, be e6⟩ rfl (ble _ _ rfl) fo29_1 rfl)) ?_
  refine sq_cons ⟨_, [(.t 13, mg (!((ltI t0.mID 1) || (ltI 8 t0.mID))) (iV t0.mNext))]⟩ (v_cF rfl rfl rfl (ble _ _ rfl) rfl fun e7 => (v_load_dp1 rfl ⟨_, rfl, be e7⟩ rfl (ble _ _ rfl) onT3 (gv (nF e7)) rfl)) ?_
  refine sq_cons ⟨_, [(.t 14, mg (!((ltI t0.mID 1) || (ltI 8 t0.mID))) (bV (ltI t0.mNext 1)))]⟩ (v_cF rfl rfl rfl (ble _ _ rfl) rfl fun e8 => (v_bin rfl ⟨_, rfl, be e8⟩ rfl (ble _ _ rfl) (gv (nF e8)) rfl (b_lss rfl))) ?_
  refine sq_cons ⟨_, [(.t 15, bV (((ltI t0.mID 1) || (ltI 8 t0.mID)) || (ltI t0.mNext 1)))]⟩ (v_pickB rfl trivial rfl (ble _ _ rfl) rfl (fun e9 => rfl) (fun e10 => (gv (nF e10))) (pO _ _)) ?_
  refine sq_cons ⟨_, [(.t 16, bV (((ltI t0.mID 1) || (ltI 8 t0.mID)) || (ltI t0.mNext 1)))]⟩ (v_move (.inl rfl) trivial rfl (ble _ _ rfl) rfl) ?_
  refine sq_cons ⟨_, [(.t 17, mg (!(((ltI t0.mID 1) || (ltI 8 t0.mID)) || (ltI t0.mNext 1))) (.d (.dp (List.drop 1 (eClient t0)))))]⟩ (v_cF rfl rfl rfl (ble _ _ rfl) rfl fun e11 => (v_field_dp (a0 := 1) (cs := (eClient t0)) rfl ⟨_, rfl, be e11⟩ rfl (ble _ _ rfl) fo29_1 rfl)) ?_
  refine sq_cons ⟨_, [(.t 18, mg (!(((ltI t0.mID 1) || (ltI 8 t0.mID)) || (ltI t0.mNext 1))) (iV t0.mNext))]⟩ (v_cF rfl rfl rfl (ble _ _ rfl) rfl fun e12 => (v_load_dp1 rfl ⟨_, rfl, be e12⟩ rfl (ble _ _ rfl) onT3 (gv (nF e12)) rfl)) ?_
  refine sq_cons ⟨_, [(.t 19, mg (!(((ltI t0.mID 1) || (ltI 8 t0.mID)) || (ltI t0.mNext 1))) (bV (ltI 1099511627776 t0.mNext)))]⟩ (v_cF rfl rfl rfl (ble _ _ rfl) rfl fun e13 => (v_bin rfl ⟨_, rfl, be e13⟩ rfl (ble _ _ rfl) (gv (nF e13)) rfl (b_gtr rfl))) ?_
  refine sq_cons ⟨_, [(.t 20, bV ((((ltI t0.mID 1) || (ltI 8 t0.mID)) || (ltI t0.mNext 1)) || (ltI 1099511627776 t0.mNext)))]⟩ (v_pickB rfl trivial rfl (ble _ _ rfl) rfl (fun e14 => rfl) (fun e15 => (gv (nF e15))) (pO _ _)) ?_
  refine sq_cons ⟨_, [(.t 21, bV ((((ltI t0.mID 1) || (ltI 8 t0.mID)) || (ltI t0.mNext 1)) || (ltI 1099511627776 t0.mNext)))]⟩ (v_move (.inl rfl) trivial rfl (ble _ _ rfl) rfl) ?_
  refine sq_cons ⟨_, [(.t 22, mg (!((((ltI t0.mID 1) || (ltI 8 t0.mID)) || (ltI t0.mNext 1)) || (ltI 1099511627776 t0.mNext))) (.d (.dp (List.drop 17 (eClient t0)))))]⟩ (v_cF rfl rfl rfl (ble _ _ rfl) rfl fun e16 => (v_field_dp (a0 := 17) (cs := (eClient t0)) rfl ⟨_, rfl, be e16⟩ rfl (ble _ _ rfl) fo29_6 rfl)) ?_
  refine sq_cons ⟨_, [(.t 23, mg (!((((ltI t0.mID 1) || (ltI 8 t0.mID)) || (ltI t0.mNext 1)) || (ltI 1099511627776 t0.mNext))) (iV t0.mTries))]⟩ (v_cF rfl rfl rfl (ble _ _ rfl) rfl fun e17 => (v_load_dp1 rfl ⟨_, rfl, be e17⟩ rfl (ble _ _ rfl) onT3 (gv (nF e17)) rfl)) ?_
  refine sq_cons ⟨_, [(.t 24, mg (!((((ltI t0.mID 1) || (ltI 8 t0.mID)) || (ltI t0.mNext 1)) || (ltI 1099511627776 t0.mNext))) (bV (ltI t0.mTries 0)))]⟩ (v_cF rfl rfl rfl (ble _ _ rfl) rfl fun e18 => (v_bin rfl ⟨_, rfl, be e18⟩ rfl (ble _ _ rfl) (gv (nF e18)) rfl (b_lss rfl))) ?_
  refine sq_cons ⟨_, [(.t 25, bV (((((ltI t0.mID 1) || (ltI 8 t0.mID)) || (ltI t0.mNext 1)) || (ltI 1099511627776 t0.mNext)) || (ltI t0.mTries 0)))]⟩ (v_pickB rfl trivial rfl (ble _ _ rfl) rfl (fun e19 => rfl) (fun e20 => (gv (nF e20))) (pO _ _)) ?_
  refine sq_cons ⟨_, [(.t 26, bV (((((ltI t0.mID 1) || (ltI 8 t0.mID)) || (ltI t0.mNext 1)) || (ltI 1099511627776 t0.mNext)) || (ltI t0.mTries 0)))]⟩ (v_move (.inl rfl) trivial rfl (ble _ _ rfl) rfl) ?_
  refine sq_cons ⟨_, [(.t 27, mg (!(((((ltI t0.mID 1) || (ltI 8 t0.mID)) || (ltI t0.mNext 1)) || (ltI 1099511627776 t0.mNext)) || (ltI t0.mTries 0))) (.d (.dp (List.drop 17 (eClient t0)))))]⟩ (v_cF rfl rfl rfl (ble _ _ rfl) rfl fun e21 => (v_field_dp (a0 := 17) (cs := (eClient t0)) rfl ⟨_, rfl, be e21⟩ rfl (ble _ _ rfl) fo29_6 rfl)) ?_
  refine sq_cons ⟨_, [(.t 28, mg (!(((((ltI t0.mID 1) || (ltI 8 t0.mID)) || (ltI t0.mNext 1)) || (ltI 1099511627776 t0.mNext)) || (ltI t0.mTries 0))) (iV t0.mTries))]⟩ (v_cF rfl rfl rfl (ble _ _ rfl) rfl fun e22 => (v_load_dp1 rfl ⟨_, rfl, be e22⟩ rfl (ble _ _ rfl) onT3 (gv (nF e22)) rfl)) ?_
  refine sq_cons ⟨_, [(.t 29, mg (!(((((ltI t0.mID 1) || (ltI 8 t0.mID)) || (ltI t0.mNext 1)) || (ltI 1099511627776 t0.mNext)) || (ltI t0.mTries 0))) (bV (ltI 12 t0.mTries)))]⟩ (v_cF rfl rfl rfl (ble _ _ rfl) rfl fun e23 => (v_bin rfl ⟨_, rfl, be e23⟩ rfl (ble _ _ rfl) (gv (nF e23)) rfl (b_gtr rfl))) ?_
  refine sq_cons ⟨_, [(.t 30, bV ((((((ltI t0.mID 1) || (ltI 8 t0.mID)) || (ltI t0.mNext 1)) || (ltI 1099511627776 t0.mNext)) || (ltI t0.mTries 0)) || (ltI 12 t0.mTries)))]⟩ (v_pickB rfl trivial rfl (ble _ _ rfl) rfl (fun e24 => rfl) (fun e25 => (gv (nF e25))) (pO _ _)) ?_
  refine sq_nil ?_
  refine ht_cond (b := ((((((ltI t0.mID 1) || (ltI 8 t0.mID)) || (ltI t0.mNext 1)) || (ltI 1099511627776 t0.mNext)) || (ltI t0.mTries 0)) || (ltI 12 t0.mTries))) rfl (fun e26 => ?_) (fun e26 => ?_)
  · replace h := cpos e26 h
    refine ht_seq ?_
    refine ht_region ?_
    refine sq_cons ⟨_, [(.t 2, bV false)]⟩ (v_move (.inr rfl) trivial rfl (ble _ _ rfl) rfl) ?_
    refine sq_nil ?_
    refine ht_ret ?_
    cases h
    exact ret1 rfl (.tmp rfl)
  · replace h := cneg e26 h
    refine ht_skip ?_
    refine ht_seq ?_
    refine ht_seq ?_
    refine ht_region ?_
    refine sq_cons ⟨_, [(.t 31, .d (.dp (List.drop 2 (eClient t0))))]⟩ (v_field_dp (a0 := 2) (cs := (eClient t0)) rfl trivial rfl (ble _ _ rfl) fo29_2 rfl) ?_
    refine sq_cons ⟨_, [(.t 32, .d (.sl 5 (t0.mPlaces.map ePlace)))]⟩ (v_load_dp1 rfl trivial rfl (ble _ _ rfl) onT22 rfl rfl) ?_
    refine sq_cons ⟨_, [(.t 33, iV (t0.mPlaces.length : Int))]⟩ (w_len t0.mPlaces ePlace rfl rfl trivial rfl (ble _ _ rfl) slT22 rfl) ?_
    refine sq_cons ⟨_, [(.t 34, .d (.dp (List.drop 3 (eClient t0))))]⟩ (v_field_dp (a0 := 3) (cs := (eClient t0)) rfl trivial rfl (ble _ _ rfl) fo29_3 rfl) ?_
    refine sq_cons ⟨_, [(.t 35, .d (.sl 1 (t0.mLeads.map (eI .i64))))]⟩ (v_load_dp1 rfl trivial rfl (ble _ _ rfl) onT23 rfl rfl) ?_
    refine sq_cons ⟨_, [(.t 36, iV (t0.mLeads.length : Int))]⟩ (w_len t0.mLeads (eI .i64) rfl rfl trivial rfl (ble _ _ rfl) slT23 rfl) ?_
    obtain ⟨t37, q27, h⟩ := bndp h
    refine sq_cons ⟨_, [(.t 37, iV t37)]⟩ (v_bin rfl trivial rfl (ble _ _ rfl) rfl rfl (b_add q27)) ?_
    refine sq_cons ⟨_, [(.t 38, bV (ltI 0 t37))]⟩ (v_bin rfl trivial rfl (ble _ _ rfl) rfl rfl (b_gtr rfl)) ?_
    refine sq_cons ⟨_, [(.t 39, bV (ltI 0 t37))]⟩ (v_move (.inl rfl) trivial rfl (ble _ _ rfl) rfl) ?_
    refine sq_cons ⟨_, [(.t 40, mg (ltI 0 t37) (.d (.dp (List.drop 2 (eClient t0)))))]⟩ (v_cT rfl rfl rfl (ble _ _ rfl) rfl fun e28 => (v_field_dp (a0 := 2) (cs := (eClient t0)) rfl ⟨_, rfl, be e28⟩ rfl (ble _ _ rfl) fo29_2 rfl)) ?_
    refine sq_cons ⟨_, [(.t 41, mg (ltI 0 t37) (.d (.sl 5 (t0.mPlaces.map ePlace))))]⟩ (v_cT rfl rfl rfl (ble _ _ rfl) rfl fun e29 => (v_load_dp1 rfl ⟨_, rfl, be e29⟩ rfl (ble _ _ rfl) onT22 (gv e29) rfl)) ?_
    refine sq_cons ⟨_, [(.t 42, mg (ltI 0 t37) (.d (.dp (List.drop 3 (eClient t0)))))]⟩ (v_cT rfl rfl rfl (ble _ _ rfl) rfl fun e30 => (v_field_dp (a0 := 3) (cs := (eClient t0)) rfl ⟨_, rfl, be e30⟩ rfl (ble _ _ rfl) fo29_3 rfl)) ?_
    refine sq_cons ⟨_, [(.t 43, mg (ltI 0 t37) (.d (.sl 1 (t0.mLeads.map (eI .i64)))))]⟩ (v_cT rfl rfl rfl (ble _ _ rfl) rfl fun e31 => (v_load_dp1 rfl ⟨_, rfl, be e31⟩ rfl (ble _ _ rfl) onT23 (gv e31) rfl)) ?_
    obtain ⟨t44, c33, h⟩ := bpos h
    refine sq_cons ⟨_, [(.t 44, mg (ltI 0 t37) (bV t44))]⟩ (v_cT rfl rfl rfl (ble _ _ rfl) rfl fun e32 => (w_call (ds := [(.sl 5 (t0.mPlaces.map ePlace)), (.sl 1 (t0.mLeads.map (eI .i64)))]) (caps := []) (l := [(.s (.bool t44))]) (s17 k t0.mPlaces t0.mLeads _ (cpos e32 c33)) rfl rfl rfl en17 ⟨_, rfl, be e32⟩ rfl (ble _ _ rfl) (.inl ⟨rfl, rfl⟩) (cc (gv e32) (cc (gv e32) rfl)) rfl)) ?_
    refine sq_cons ⟨_, [(.t 45, mg (ltI 0 t37) (bV (!t44)))]⟩ (v_cT rfl rfl rfl (ble _ _ rfl) rfl fun e34 => (v_un rfl ⟨_, rfl, be e34⟩ rfl (ble _ _ rfl) (gv e34) (u_not rfl))) ?_
    refine sq_cons ⟨_, [(.t 46, bV ((ltI 0 t37) && (!t44)))]⟩ (v_pickB rfl trivial rfl (ble _ _ rfl) rfl (fun e35 => (gv e35)) (fun e36 => rfl) (pA _ _)) ?_
    refine sq_nil ?_
    refine ht_cond (b := ((ltI 0 t37) && (!t44))) rfl (fun e37 => ?_) (fun e37 => ?_)
    · replace h := cpos e37 h
      refine ht_seq ?_
      refine ht_region ?_
      refine sq_cons ⟨_, [(.t 2, bV false)]⟩ (v_move (.inr rfl) trivial rfl (ble _ _ rfl) rfl) ?_
      refine sq_nil ?_
      refine ht_ret ?_
      cases h
      exact ret1 rfl (.tmp rfl)
    · replace h := cneg e37 h
      refine ht_skip ?_
      refine ht_seq ?_
      refine ht_block ?_
      refine ht_seq ?_
      refine ht_region ?_
      refine sq_cons ⟨_, [(.t 48, .d (.dp (List.drop 4 (eClient t0))))]⟩ (v_field_dp (a0 := 4) (cs := (eClient t0)) rfl trivial rfl (ble _ _ rfl) fo29_4 rfl) ?_
      refine sq_cons ⟨_, [(.t 49, .d (.dp (List.drop 5 (eClient t0))))]⟩ (v_field_dp (a0 := 1) (cs := (List.drop 4 (eClient t0))) rfl trivial rfl (ble _ _ rfl) fo27_1 rfl) ?_
      refine sq_cons ⟨_, [(.t 50, iV t0.mReq.mReq)]⟩ (v_load_dp1 rfl trivial rfl (ble _ _ rfl) onT3 rfl rfl) ?_
      refine sq_cons ⟨_, [(.t 51, bV (eqI t0.mReq.mReq 0))]⟩ (v_bin rfl trivial rfl (ble _ _ rfl) rfl rfl (b_eql rfl)) ?_
      refine sq_cons ⟨_, [(.t 47, bV (eqI t0.mReq.mReq 0))]⟩ (v_move (.inr rfl) trivial rfl (ble _ _ rfl) rfl) ?_
      refine sq_nil ?_
      refine ht_cond (b := (eqI t0.mReq.mReq 0)) rfl (fun e38 => ?_) (fun e38 => ?_)
      · replace h := cpos e38 h
        refine ht_seq ?_
        refine ht_region ?_
        refine sq_cons ⟨_, [(.t 2, bV true)]⟩ (v_move (.inr rfl) trivial rfl (ble _ _ rfl) rfl) ?_
        refine sq_nil ?_
        refine ht_ret ?_
        cases h
        exact ret1 rfl (.tmp rfl)
      · replace h := cneg e38 h
        refine ht_seq ?_
        refine ht_region ?_
        refine sq_cons ⟨_, [(.t 53, .d (.dp (List.drop 4 (eClient t0))))]⟩ (v_field_dp (a0 := 4) (cs := (eClient t0)) rfl trivial rfl (ble _ _ rfl) fo29_4 rfl) ?_
        refine sq_cons ⟨_, [(.t 54, .d (.dp (List.drop 4 (eClient t0))))]⟩ (v_field_dp (a0 := 0) (cs := (List.drop 4 (eClient t0))) rfl trivial rfl (ble _ _ rfl) fo27_0 rfl) ?_
        refine sq_cons ⟨_, [(.t 55, iV t0.mReq.mClient)]⟩ (v_load_dp1 rfl trivial rfl (ble _ _ rfl) onT3 rfl rfl) ?_
        refine sq_cons ⟨_, [(.t 56, .d (.dp (eClient t0)))]⟩ (v_field_dp (a0 := 0) (cs := (eClient t0)) rfl trivial rfl (ble _ _ rfl) fo29_0 rfl) ?_
        refine sq_cons ⟨_, [(.t 57, iV t0.mID)]⟩ (v_load_dp1 rfl trivial rfl (ble _ _ rfl) onT3 rfl rfl) ?_
        refine sq_cons ⟨_, [(.t 58, bV (!eqI t0.mReq.mClient t0.mID))]⟩ (v_bin rfl trivial rfl (ble _ _ rfl) rfl rfl (b_neq rfl)) ?_
        refine sq_cons ⟨_, [(.t 59, bV (!eqI t0.mReq.mClient t0.mID))]⟩ (v_move (.inl rfl) trivial rfl (ble _ _ rfl) rfl) ?_
        refine sq_cons ⟨_, [(.t 60, mg (!(!eqI t0.mReq.mClient t0.mID)) (.d (.dp (List.drop 4 (eClient t0)))))]⟩ (v_cF rfl rfl rfl (ble _ _ rfl) rfl fun e39 => (v_field_dp (a0 := 4) (cs := (eClient t0)) rfl ⟨_, rfl, be e39⟩ rfl (ble _ _ rfl) fo29_4 rfl)) ?_
        refine sq_cons ⟨_, [(.t 61, mg (!(!eqI t0.mReq.mClient t0.mID)) (.d (.dp (List.drop 5 (eClient t0)))))]⟩ (v_cF rfl rfl rfl (ble _ _ rfl) rfl fun e40 => (v_field_dp (a0 := 1) (cs := (List.drop 4 (eClient t0))) rfl ⟨_, rfl, be e40⟩ rfl (ble _ _ rfl) fo27_1 (gv (nF e40)))) ?_
        refine sq_cons ⟨_, [(.t 62, mg (!(!eqI t0.mReq.mClient t0.mID)) (iV t0.mReq.mReq))]⟩ (v_cF rfl rfl rfl (ble _ _ rfl) rfl fun e41 => (v_load_dp1 rfl ⟨_, rfl, be e41⟩ rfl (ble _ _ rfl) onT3 (gv (nF e41)) rfl)) ?_
        refine sq_cons ⟨_, [(.t 63, mg (!(!eqI t0.mReq.mClient t0.mID)) (bV (ltI t0.mReq.mReq 1)))]⟩ (v_cF rfl rfl rfl (ble _ _ rfl) rfl fun e42 => (v_bin rfl ⟨_, rfl, be e42⟩ rfl (ble _ _ rfl) (gv (nF e42)) rfl (b_lss rfl))) ?_
        refine sq_cons ⟨_, [(.t 64, bV ((!eqI t0.mReq.mClient t0.mID) || (ltI t0.mReq.mReq 1)))]⟩ (v_pickB rfl trivial rfl (ble _ _ rfl) rfl (fun e43 => rfl) (fun e44 => (gv (nF e44))) (pO _ _)) ?_
        refine sq_cons ⟨_, [(.t 65, bV ((!eqI t0.mReq.mClient t0.mID) || (ltI t0.mReq.mReq 1)))]⟩ (v_move (.inl rfl) trivial rfl (ble _ _ rfl) rfl) ?_
        refine sq_cons ⟨_, [(.t 66, mg (!((!eqI t0.mReq.mClient t0.mID) || (ltI t0.mReq.mReq 1))) (.d (.dp (List.drop 4 (eClient t0)))))]⟩ (v_cF rfl rfl rfl (ble _ _ rfl) rfl fun e45 => (v_field_dp (a0 := 4) (cs := (eClient t0)) rfl ⟨_, rfl, be e45⟩ rfl (ble _ _ rfl) fo29_4 rfl)) ?_
        refine sq_cons ⟨_, [(.t 67, mg (!((!eqI t0.mReq.mClient t0.mID) || (ltI t0.mReq.mReq 1))) (.d (.dp (List.drop 5 (eClient t0)))))]⟩ (v_cF rfl rfl rfl (ble _ _ rfl) rfl fun e46 => (v_field_dp (a0 := 1) (cs := (List.drop 4 (eClient t0))) rfl ⟨_, rfl, be e46⟩ rfl (ble _ _ rfl) fo27_1 (gv (nF e46)))) ?_
        refine sq_cons ⟨_, [(.t 68, mg (!((!eqI t0.mReq.mClient t0.mID) || (ltI t0.mReq.mReq 1))) (iV t0.mReq.mReq))]⟩ (v_cF rfl rfl rfl (ble _ _ rfl) rfl fun e47 => (v_load_dp1 rfl ⟨_, rfl, be e47⟩ rfl (ble _ _ rfl) onT3 (gv (nF e47)) rfl)) ?_
        refine sq_cons ⟨_, [(.t 69, mg (!((!eqI t0.mReq.mClient t0.mID) || (ltI t0.mReq.mReq 1))) (.d (.dp (List.drop 1 (eClient t0)))))]⟩ (v_cF rfl rfl rfl (ble _ _ rfl) rfl fun e48 => (v_field_dp (a0 := 1) (cs := (eClient t0)) rfl ⟨_, rfl, be e48⟩ rfl (ble _ _ rfl) fo29_1 rfl)) ?_
        refine sq_cons ⟨_, [(.t 70, mg (!((!eqI t0.mReq.mClient t0.mID) || (ltI t0.mReq.mReq 1))) (iV t0.mNext))]⟩ (v_cF rfl rfl rfl (ble _ _ rfl) rfl fun e49 => (v_load_dp1 rfl ⟨_, rfl, be e49⟩ rfl (ble _ _ rfl) onT3 (gv (nF e49)) rfl)) ?_
        refine sq_cons ⟨_, [(.t 71, mg (!((!eqI t0.mReq.mClient t0.mID) || (ltI t0.mReq.mReq 1))) (bV (leI t0.mNext t0.mReq.mReq)))]⟩ (v_cF rfl rfl rfl (ble _ _ rfl) rfl fun e50 => (v_bin rfl ⟨_, rfl, be e50⟩ rfl (ble _ _ rfl) (gv (nF e50)) (gv (nF e50)) (b_geq rfl))) ?_
        refine sq_cons ⟨_, [(.t 72, bV (((!eqI t0.mReq.mClient t0.mID) || (ltI t0.mReq.mReq 1)) || (leI t0.mNext t0.mReq.mReq)))]⟩ (v_pickB rfl trivial rfl (ble _ _ rfl) rfl (fun e51 => rfl) (fun e52 => (gv (nF e52))) (pO _ _)) ?_
        refine sq_cons ⟨_, [(.t 52, bV (((!eqI t0.mReq.mClient t0.mID) || (ltI t0.mReq.mReq 1)) || (leI t0.mNext t0.mReq.mReq)))]⟩ (v_move (.inr rfl) trivial rfl (ble _ _ rfl) rfl) ?_
        refine sq_nil ?_
        refine ht_cond (b := (((!eqI t0.mReq.mClient t0.mID) || (ltI t0.mReq.mReq 1)) || (leI t0.mNext t0.mReq.mReq))) rfl (fun e53 => ?_) (fun e53 => ?_)
        · replace h := cpos e53 h
          refine ht_seq ?_
          refine ht_region ?_
          refine sq_cons ⟨_, [(.t 2, bV false)]⟩ (v_move (.inr rfl) trivial rfl (ble _ _ rfl) rfl) ?_
          refine sq_nil ?_
          refine ht_ret ?_
          cases h
          exact ret1 rfl (.tmp rfl)
        · replace h := cneg e53 h
          refine ht_seq ?_
          refine ht_region ?_
          refine sq_cons ⟨_, [(.t 74, .d (.dp (List.drop 16 (eClient t0))))]⟩ (v_field_dp (a0 := 16) (cs := (eClient t0)) rfl trivial rfl (ble _ _ rfl) fo29_5 rfl) ?_
          refine sq_cons ⟨_, [(.t 75, bV t0.mOpens)]⟩ (v_load_dp1 rfl trivial rfl (ble _ _ rfl) onT4 rfl rfl) ?_
          refine sq_cons ⟨_, [(.t 73, bV t0.mOpens)]⟩ (v_move (.inr rfl) trivial rfl (ble _ _ rfl) rfl) ?_
          refine sq_nil ?_
          refine ht_cond (b := t0.mOpens) rfl (fun e54 => ?_) (fun e54 => ?_)
          · replace h := cpos e54 h
            refine ht_seq ?_
            refine ht_region ?_
            refine sq_cons ⟨_, [(.t 76, .d (.dp (List.drop 4 (eClient t0))))]⟩ (v_field_dp (a0 := 4) (cs := (eClient t0)) rfl trivial rfl (ble _ _ rfl) fo29_4 rfl) ?_
            refine sq_cons ⟨_, [(.t 77, .d (.dp (List.drop 6 (eClient t0))))]⟩ (v_field_dp (a0 := 2) (cs := (List.drop 4 (eClient t0))) rfl trivial rfl (ble _ _ rfl) fo27_2 rfl) ?_
            refine sq_cons ⟨_, [(.t 78, iV t0.mReq.mKind)]⟩ (v_load_dp1 rfl trivial rfl (ble _ _ rfl) onT3 rfl rfl) ?_
            refine sq_cons ⟨_, [(.t 79, bV (eqI t0.mReq.mKind 0))]⟩ (v_bin rfl trivial rfl (ble _ _ rfl) rfl rfl (b_eql rfl)) ?_
            refine sq_cons ⟨_, [(.t 80, bV (eqI t0.mReq.mKind 0))]⟩ (v_move (.inl rfl) trivial rfl (ble _ _ rfl) rfl) ?_
            refine sq_cons ⟨_, [(.t 81, mg (eqI t0.mReq.mKind 0) (.d (.dp (List.drop 4 (eClient t0)))))]⟩ (v_cT rfl rfl rfl (ble _ _ rfl) rfl fun e55 => (v_field_dp (a0 := 4) (cs := (eClient t0)) rfl ⟨_, rfl, be e55⟩ rfl (ble _ _ rfl) fo29_4 rfl)) ?_
            refine sq_cons ⟨_, [(.t 82, mg (eqI t0.mReq.mKind 0) (.d (.dp (List.drop 7 (eClient t0)))))]⟩ (v_cT rfl rfl rfl (ble _ _ rfl) rfl fun e56 => (v_field_dp (a0 := 3) (cs := (List.drop 4 (eClient t0))) rfl ⟨_, rfl, be e56⟩ rfl (ble _ _ rfl) fo27_3 (gv e56))) ?_
            refine sq_cons ⟨_, [(.t 83, mg (eqI t0.mReq.mKind 0) (sV t0.mReq.mKey))]⟩ (v_cT rfl rfl rfl (ble _ _ rfl) rfl fun e57 => (v_load_dp1 rfl ⟨_, rfl, be e57⟩ rfl (ble _ _ rfl) onT9 (gv e57) rfl)) ?_
            refine sq_cons ⟨_, [(.t 84, mg (eqI t0.mReq.mKind 0) (.d (.dp (List.drop 4 (eClient t0)))))]⟩ (v_cT rfl rfl rfl (ble _ _ rfl) rfl fun e58 => (v_field_dp (a0 := 4) (cs := (eClient t0)) rfl ⟨_, rfl, be e58⟩ rfl (ble _ _ rfl) fo29_4 rfl)) ?_
            refine sq_cons ⟨_, [(.t 85, mg (eqI t0.mReq.mKind 0) (.d (.dp (List.drop 14 (eClient t0)))))]⟩ (v_cT rfl rfl rfl (ble _ _ rfl) rfl fun e59 => (v_field_dp (a0 := 10) (cs := (List.drop 4 (eClient t0))) rfl ⟨_, rfl, be e59⟩ rfl (ble _ _ rfl) fo27_8 (gv e59))) ?_
            refine sq_cons ⟨_, [(.t 86, mg (eqI t0.mReq.mKind 0) (sV t0.mReq.mHi))]⟩ (v_cT rfl rfl rfl (ble _ _ rfl) rfl fun e60 => (v_load_dp1 rfl ⟨_, rfl, be e60⟩ rfl (ble _ _ rfl) onT9 (gv e60) rfl)) ?_
            refine sq_cons ⟨_, [(.t 87, mg (eqI t0.mReq.mKind 0) (.d (.agg (eSpan (⟨t0.mReq.mKey, t0.mReq.mHi⟩ : Span)))))]⟩ (v_cT rfl rfl rfl (ble _ _ rfl) rfl fun e61 => (w_bld zc57 ((eSpan (⟨t0.mReq.mKey, t0.mReq.mHi⟩ : Span)).map V.d) [(0, sV t0.mReq.mKey), (1, sV t0.mReq.mHi)] rfl ⟨_, rfl, be e61⟩ rfl (ble _ _ rfl) zw57 rfl ft57 (cc (pr (gv e61)) (cc (pr (gv e61)) rfl)) rfl rfl rfl)) ?_
            obtain ⟨t88, c63, h⟩ := bpos h
            refine sq_cons ⟨_, [(.t 88, mg (eqI t0.mReq.mKind 0) (bV t88))]⟩ (v_cT rfl rfl rfl (ble _ _ rfl) rfl fun e62 => (w_call (ds := [(.agg (eSpan (⟨t0.mReq.mKey, t0.mReq.mHi⟩ : Span)))]) (caps := []) (l := [(.s (.bool t88))]) (s23 k (⟨t0.mReq.mKey, t0.mReq.mHi⟩ : Span) _ (cpos e62 c63)) rfl rfl rfl en23 ⟨_, rfl, be e62⟩ rfl (ble _ _ rfl) (.inl ⟨rfl, rfl⟩) (cc (gv e62) rfl) rfl)) ?_
            refine sq_cons ⟨_, [(.t 89, bV ((eqI t0.mReq.mKind 0) && t88))]⟩ (v_pickB rfl trivial rfl (ble _ _ rfl) rfl (fun e64 => (gv e64)) (fun e65 => rfl) (pA _ _)) ?_
            refine sq_cons ⟨_, [(.t 2, bV ((eqI t0.mReq.mKind 0) && t88))]⟩ (v_move (.inr rfl) trivial rfl (ble _ _ rfl) rfl) ?_
            refine sq_nil ?_
            refine ht_ret ?_
            cases h
            exact ret1 rfl (.tmp rfl)
          · replace h := cneg e54 h
            refine ht_skip ?_
            refine ht_seq ?_
            refine ht_region ?_
            refine sq_cons ⟨_, [(.t 90, .d (.dp (List.drop 4 (eClient t0))))]⟩ (v_field_dp (a0 := 4) (cs := (eClient t0)) rfl trivial rfl (ble _ _ rfl) fo29_4 rfl) ?_
            refine sq_cons ⟨_, [(.t 91, .d (.agg (eRequest t0.mReq)))]⟩ (w_ldp (List.drop 4 (eClient t0)) (eRequest t0.mReq) rfl trivial rfl (ble _ _ rfl) ag27 rfl (ble _ _ rfl) rfl) ?_
            obtain ⟨t92, c66, h⟩ := bpos h
            refine sq_cons ⟨_, [(.t 92, bV t92)]⟩ (w_call (ds := [(.agg (eRequest t0.mReq))]) (caps := []) (l := [(.s (.bool t92))]) (s24 k t0.mReq _ c66) rfl rfl rfl en24 trivial rfl (ble _ _ rfl) (.inl ⟨rfl, rfl⟩) rfl rfl) ?_
            refine sq_cons ⟨_, [(.t 2, bV t92)]⟩ (v_move (.inr rfl) trivial rfl (ble _ _ rfl) rfl) ?_
            refine sq_nil ?_
            refine ht_ret ?_
            cases h
            exact ret1 rfl (.tmp rfl)
set_option maxRecDepth 100000 in
set_option maxHeartbeats 4000000 in
theorem s21 (k : Nat) (t0 : Client) (r : Int) (h : F21 k t0 = some r) : Awp.Spec Tryd.prog amb 21 [(.agg (eClient t0))] (.ds [(.s (.int .i64 r))]) := by
  rw [F21] at h
  refine spec_of Tryd.func21 rfl (ble _ _ rfl) fun w0 ok0 lt0 hA => ?_
  refine ht_seq ?_
  refine ht_region ?_
  refine sq_cons ⟨_, [(.t 1, .d (.dp (eClient t0)))]⟩ (v_box_d (cs := (eClient t0)) rfl trivial rfl (ble _ _ rfl) rfl rfl (ones_of rfl)) ?_
  refine sq_cons ⟨_, [(.t 2, iV 0)]⟩ (v_move (.inr rfl) trivial rfl (ble _ _ rfl) rfl) ?_
  refine sq_nil ?_
  refine ht_seq ?_
  refine ht_block ?_
  refine ht_seq ?_
  refine ht_region ?_
  refine sq_cons ⟨_, [(.t 4, .d (.agg (eClient t0)))]⟩ (w_ldp (eClient t0) (eClient t0) rfl trivial rfl (ble _ _ rfl) ag29 rfl (ble _ _ rfl) rfl) ?_
  obtain ⟨t5, c1, h⟩ := bpos h
  refine sq_cons ⟨_, [(.t 5, bV t5)]⟩ (w_call (ds := [(.agg (eClient t0))]) (caps := []) (l := [(.s (.bool t5))]) (s13 k t0 _ c1) rfl rfl rfl en13 trivial rfl (ble _ _ rfl) (.inl ⟨rfl, rfl⟩) rfl rfl) ?_
  refine sq_cons ⟨_, [(.t 6, bV (!t5))]⟩ (v_un rfl trivial rfl (ble _ _ rfl) rfl (u_not rfl)) ?_
  refine sq_cons ⟨_, [(.t 3, bV (!t5))]⟩ (v_move (.inr rfl) trivial rfl (ble _ _ rfl) rfl) ?_
  refine sq_nil ?_
  refine ht_cond (b := (!t5)) rfl (fun e2 => ?_) (fun e2 => ?_)
  · replace h := cpos e2 h
    refine ht_seq ?_
    refine ht_region ?_
    refine sq_cons ⟨_, [(.t 2, iV 1)]⟩ (v_move (.inr rfl) trivial rfl (ble _ _ rfl) rfl) ?_
    refine sq_nil ?_
    refine ht_ret ?_
    cases h
    exact ret1 rfl (.tmp rfl)
  · replace h := cneg e2 h
    refine ht_seq ?_
    refine ht_region ?_
    refine sq_cons ⟨_, [(.t 8, .d (.dp (List.drop 4 (eClient t0))))]⟩ (v_field_dp (a0 := 4) (cs := (eClient t0)) rfl trivial rfl (ble _ _ rfl) fo29_4 rfl) ?_
    refine sq_cons ⟨_, [(.t 9, .d (.dp (List.drop 5 (eClient t0))))]⟩ (v_field_dp (a0 := 1) (cs := (List.drop 4 (eClient t0))) rfl trivial rfl (ble _ _ rfl) fo27_1 rfl) ?_
    refine sq_cons ⟨_, [(.t 10, iV t0.mReq.mReq)]⟩ (v_load_dp1 rfl trivial rfl (ble _ _ rfl) onT3 rfl rfl) ?_
    refine sq_cons ⟨_, [(.t 11, bV (!eqI t0.mReq.mReq 0))]⟩ (v_bin rfl trivial rfl (ble _ _ rfl) rfl rfl (b_neq rfl)) ?_
    refine sq_cons ⟨_, [(.t 7, bV (!eqI t0.mReq.mReq 0))]⟩ (v_move (.inr rfl) trivial rfl (ble _ _ rfl) rfl) ?_
    refine sq_nil ?_
    refine ht_cond (b := (!eqI t0.mReq.mReq 0)) rfl (fun e3 => ?_) (fun e3 => ?_)
    · replace h := cpos e3 h
      refine ht_seq ?_
      refine ht_region ?_
      refine sq_cons ⟨_, [(.t 2, iV 11)]⟩ (v_move (.inr rfl) trivial rfl (ble _ _ rfl) rfl) ?_
      refine sq_nil ?_
      refine ht_ret ?_
      cases h
      exact ret1 rfl (.tmp rfl)
    · replace h := cneg e3 h
      refine ht_seq ?_
      refine ht_region ?_
      refine sq_cons ⟨_, [(.t 13, .d (.dp (List.drop 1 (eClient t0))))]⟩ (v_field_dp (a0 := 1) (cs := (eClient t0)) rfl trivial rfl (ble _ _ rfl) fo29_1 rfl) ?_
      refine sq_cons ⟨_, [(.t 14, iV t0.mNext)]⟩ (v_load_dp1 rfl trivial rfl (ble _ _ rfl) onT3 rfl rfl) ?_
      refine sq_cons ⟨_, [(.t 15, bV (eqI t0.mNext 1099511627776))]⟩ (v_bin rfl trivial rfl (ble _ _ rfl) rfl rfl (b_eql rfl)) ?_
      refine sq_cons ⟨_, [(.t 12, bV (eqI t0.mNext 1099511627776))]⟩ (v_move (.inr rfl) trivial rfl (ble _ _ rfl) rfl) ?_
      refine sq_nil ?_
      refine ht_cond (b := (eqI t0.mNext 1099511627776)) rfl (fun e4 => ?_) (fun e4 => ?_)
      · replace h := cpos e4 h
        refine ht_seq ?_
        refine ht_region ?_
        refine sq_cons ⟨_, [(.t 2, iV 6)]⟩ (v_move (.inr rfl) trivial rfl (ble _ _ rfl) rfl) ?_
        refine sq_nil ?_
        refine ht_ret ?_
        cases h
        exact ret1 rfl (.tmp rfl)
      · replace h := cneg e4 h
        refine ht_skip ?_
        refine ht_seq ?_
        refine ht_region ?_
        refine sq_cons ⟨_, [(.t 2, iV 0)]⟩ (v_move (.inr rfl) trivial rfl (ble _ _ rfl) rfl) ?_
        refine sq_nil ?_
        refine ht_ret ?_
        cases h
        exact ret1 rfl (.tmp rfl)
set_option maxRecDepth 100000 in
set_option maxHeartbeats 4000000 in
theorem s22 (k : Nat) (t0 : Client) (t1 : Request) (t2 : Bool) (r : Client × Int) (h : F22 k t0 t1 t2 = some r) : Awp.Spec Tryd.prog amb 22 [(.agg (eClient t0)), (.agg (eRequest t1)), (.s (.bool t2))] (.ds [(.agg (eClient r.1)), (.s (.int .i64 r.2))]) := by
  rw [F22] at h
  refine spec_of Tryd.func22 rfl (ble _ _ rfl) fun w0 ok0 lt0 hA => ?_
  refine ht_seq ?_
  refine ht_region ?_
  refine sq_cons ⟨_, [(.t 3, .d (.dp (eClient t0)))]⟩ (v_box_d (cs := (eClient t0)) rfl trivial rfl (ble _ _ rfl) rfl rfl (ones_of rfl)) ?_
  refine sq_cons _ (v_box (id := 4) (cs := (eRequest t1).map V.d) rfl trivial rfl (ble _ _ rfl) rfl rfl (ones_of rfl) rfl) ?_
  refine sq_cons _ (v_alloc (id := 6) (cs := zc29) rfl trivial rfl (ble _ _ rfl) zu29 rfl ft29 rfl) ?_
  refine sq_cons ⟨_, [(.t 7, iV 0)]⟩ (v_move (.inr rfl) trivial rfl (ble _ _ rfl) rfl) ?_
  refine sq_nil ?_
  refine ht_seq ?_
  refine ht_region ?_
  refine sq_cons ⟨_, [(.t 9, .d (.agg (eClient t0)))]⟩ (w_ldp (eClient t0) (eClient t0) rfl trivial rfl (ble _ _ rfl) ag29 rfl (ble _ _ rfl) rfl) ?_
  refine sq_cons _ (v_alloc (id := 8) (cs := zc29) rfl trivial rfl (ble _ _ rfl) zu29 rfl ft29 rfl) ?_
  refine sq_cons _ (v_store_box (id := 8) (off := 0) (cs := (eClient t0).map V.d) rfl trivial rfl sz29 rfl rfl rfl rfl (ones_of rfl) (ble _ _ rfl)) ?_
  refine sq_nil ?_
  refine ht_seq ?_
  refine ht_region_draw mixed ?_
  refine rg_cons ⟨_, [(.t 10, .d (.dp (eClient t0)))]⟩ (v_field_dp (a0 := 0) (cs := (eClient t0)) rfl trivial rfl (ble _ _ rfl) fo29_0 rfl) ?_
  refine rg_cons ⟨_, [(.t 11, iV t0.mID)]⟩ (v_load_dp1 rfl trivial rfl (ble _ _ rfl) onT3 rfl rfl) ?_
  refine rg_cons ⟨_, [(.t 12, .d (.dp (List.drop 1 (eClient t0))))]⟩ (v_field_dp (a0 := 1) (cs := (eClient t0)) rfl trivial rfl (ble _ _ rfl) fo29_1 rfl) ?_
  refine rg_cons ⟨_, [(.t 13, iV t0.mNext)]⟩ (v_load_dp1 rfl trivial rfl (ble _ _ rfl) onT3 rfl rfl) ?_
  refine rg_cons ⟨_, [(.t 14, .ptr 4 0)]⟩ (v_field_box (off := 0) (a0 := 0) rfl trivial rfl (ble _ _ rfl) fo27_0 rfl) ?_
  refine rg_cons _ (v_store_box (id := 4) (off := 0) (cs := [(.s (.int .i64 t0.mID))].map V.d) rfl trivial rfl sz3 rfl rfl rfl rfl (ones_of rfl) (ble _ _ rfl)) ?_
  refine rg_cons ⟨_, [(.t 15, .ptr 4 1)]⟩ (v_field_box (off := 0) (a0 := 1) rfl trivial rfl (ble _ _ rfl) fo27_1 rfl) ?_
  refine rg_cons _ (v_store_box (id := 4) (off := 1) (cs := [(.s (.int .i64 t0.mNext))].map V.d) rfl trivial rfl sz3 rfl rfl rfl rfl (ones_of rfl) (ble _ _ rfl)) ?_
  refine rg_nil ⟨by kernel_rfl, ?_⟩
  refine ht_seq ?_
  refine ht_region ?_
  refine sq_cons ⟨_, [(.t 16, .d (.agg (eRequest ({t1 with mClient := t0.mID, mReq := t0.mNext}))))]⟩ (w_ldb 4 0 rfl trivial rfl (ble _ _ rfl) ag27 rfl rfl (ble _ _ rfl) rfl) ?_
  refine sq_cons ⟨_, [(.t 17, bV t2)]⟩ (v_move (.inl rfl) trivial rfl (ble _ _ rfl) rfl) ?_
  refine sq_cons ⟨_, [(.t 18, .ptr 8 4)]⟩ (v_field_box (off := 0) (a0 := 4) rfl trivial rfl (ble _ _ rfl) fo29_4 rfl) ?_
  refine sq_cons _ (v_store_box (id := 8) (off := 4) (cs := (eRequest ({t1 with mClient := t0.mID, mReq := t0.mNext})).map V.d) rfl trivial rfl sz27 rfl rfl rfl rfl (ones_of rfl) (ble _ _ rfl)) ?_
  refine sq_cons ⟨_, [(.t 19, .ptr 8 16)]⟩ (v_field_box (off := 0) (a0 := 16) rfl trivial rfl (ble _ _ rfl) fo29_5 rfl) ?_
  refine sq_cons _ (v_store_box (id := 8) (off := 16) (cs := [(.s (.bool t2))].map V.d) rfl trivial rfl sz4 rfl rfl rfl rfl (ones_of rfl) (ble _ _ rfl)) ?_
  refine sq_cons ⟨_, [(.t 20, .ptr 8 17)]⟩ (v_field_box (off := 0) (a0 := 17) rfl trivial rfl (ble _ _ rfl) fo29_6 rfl) ?_
  refine sq_cons _ (v_store_box (id := 8) (off := 17) (cs := [(.s (.int .i64 12))].map V.d) rfl trivial rfl sz3 rfl rfl rfl rfl (ones_of rfl) (ble _ _ rfl)) ?_
  refine sq_nil ?_
  refine ht_seq ?_
  refine ht_region ?_
  refine sq_cons ⟨_, [(.t 21, .ptr 8 1)]⟩ (v_field_box (off := 0) (a0 := 1) rfl trivial rfl (ble _ _ rfl) fo29_1 rfl) ?_
  refine sq_cons ⟨_, [(.t 22, iV t0.mNext)]⟩ (v_load_box1 (id := 8) (off := 1) rfl trivial rfl (ble _ _ rfl) onT3 rfl rfl (ble _ _ rfl) rfl) ?_
  refine sq_cons ⟨_, [(.t 23, iV (IntKind.wrap .i64 (t0.mNext + 1)))]⟩ (v_bin rfl trivial rfl (ble _ _ rfl) rfl rfl (b_add rfl)) ?_
  refine sq_cons ⟨_, [(.t 24, .ptr 8 1)]⟩ (v_field_box (off := 0) (a0 := 1) rfl trivial rfl (ble _ _ rfl) fo29_1 rfl) ?_
  refine sq_cons _ (v_store_box (id := 8) (off := 1) (cs := [(.s (.int .i64 (IntKind.wrap .i64 (t0.mNext + 1))))].map V.d) rfl trivial rfl sz3 rfl rfl rfl rfl (ones_of rfl) (ble _ _ rfl)) ?_
  refine sq_nil ?_
  refine ht_seq ?_
  refine ht_seq ?_
  refine ht_region ?_
  refine sq_cons ⟨_, [(.t 25, .d (.agg (eClient (⟨t0.mID, (IntKind.wrap .i64 (t0.mNext + 1)), t0.mPlaces, t0.mLeads, {t1 with mClient := t0.mID, mReq := t0.mNext}, t2, 12⟩ : Client))))]⟩ (w_ldb 8 0 rfl trivial rfl (ble _ _ rfl) ag29 rfl rfl (ble _ _ rfl) rfl) ?_
  obtain ⟨t26, c1, h⟩ := bpos h
  refine sq_cons ⟨_, [(.t 26, bV t26)]⟩ (w_call (ds := [(.agg (eClient (⟨t0.mID, (IntKind.wrap .i64 (t0.mNext + 1)), t0.mPlaces, t0.mLeads, {t1 with mClient := t0.mID, mReq := t0.mNext}, t2, 12⟩ : Client)))]) (caps := []) (l := [(.s (.bool t26))]) (s13 k (⟨t0.mID, (IntKind.wrap .i64 (t0.mNext + 1)), t0.mPlaces, t0.mLeads, {t1 with mClient := t0.mID, mReq := t0.mNext}, t2, 12⟩ : Client) _ c1) rfl rfl rfl en13 trivial rfl (ble _ _ rfl) (.inl ⟨rfl, rfl⟩) rfl rfl) ?_
  refine sq_cons ⟨_, [(.t 27, bV (!t26))]⟩ (v_un rfl trivial rfl (ble _ _ rfl) rfl (u_not rfl)) ?_
  refine sq_nil ?_
  refine ht_cond (b := (!t26)) rfl (fun e2 => ?_) (fun e2 => ?_)
  · replace h := cpos e2 h
    refine ht_seq ?_
    refine ht_region ?_
    refine sq_cons ⟨_, [(.t 28, .d (.agg (eClient t0)))]⟩ (w_ldp (eClient t0) (eClient t0) rfl trivial rfl (ble _ _ rfl) ag29 rfl (ble _ _ rfl) rfl) ?_
    refine sq_cons _ (v_store_box (id := 6) (off := 0) (cs := (eClient t0).map V.d) rfl trivial rfl sz29 rfl rfl rfl rfl (ones_of rfl) (ble _ _ rfl)) ?_
    refine sq_cons ⟨_, [(.t 7, iV 1)]⟩ (v_move (.inr rfl) trivial rfl (ble _ _ rfl) rfl) ?_
    refine sq_nil ?_
    refine ht_ret ?_
    cases h
    exact ret2 rfl (.cell rfl rfl ag29 (ble _ _ rfl) rfl) (.tmp rfl)
  · replace h := cneg e2 h
    refine ht_skip ?_
    refine ht_seq ?_
    refine ht_region ?_
    refine sq_cons ⟨_, [(.t 29, .d (.agg (eClient (⟨t0.mID, (IntKind.wrap .i64 (t0.mNext + 1)), t0.mPlaces, t0.mLeads, {t1 with mClient := t0.mID, mReq := t0.mNext}, t2, 12⟩ : Client))))]⟩ (w_ldb 8 0 rfl trivial rfl (ble _ _ rfl) ag29 rfl rfl (ble _ _ rfl) rfl) ?_
    refine sq_cons _ (v_store_box (id := 6) (off := 0) (cs := (eClient (⟨t0.mID, (IntKind.wrap .i64 (t0.mNext + 1)), t0.mPlaces, t0.mLeads, {t1 with mClient := t0.mID, mReq := t0.mNext}, t2, 12⟩ : Client)).map V.d) rfl trivial rfl sz29 rfl rfl rfl rfl (ones_of rfl) (ble _ _ rfl)) ?_
    refine sq_cons ⟨_, [(.t 7, iV 0)]⟩ (v_move (.inr rfl) trivial rfl (ble _ _ rfl) rfl) ?_
    refine sq_nil ?_
    refine ht_ret ?_
    cases h
    exact ret2 rfl (.cell rfl rfl ag29 (ble _ _ rfl) rfl) (.tmp rfl)
set_option maxRecDepth 100000 in
set_option maxHeartbeats 4000000 in
theorem s12 (k : Nat) (t0 : Client) (t1 : Request) (r : Client × Int) (h : F12 k t0 t1 = some r) : Awp.Spec Tryd.prog amb 12 [(.agg (eClient t0)), (.agg (eRequest t1))] (.ds [(.agg (eClient r.1)), (.s (.int .i64 r.2))]) := by
  rw [F12] at h
  refine spec_of Tryd.func12 rfl (ble _ _ rfl) fun w0 ok0 lt0 hA => ?_
  refine ht_seq ?_
  refine ht_region ?_
  refine sq_cons ⟨_, [(.t 2, .d (.dp (eClient t0)))]⟩ (v_box_d (cs := (eClient t0)) rfl trivial rfl (ble _ _ rfl) rfl rfl (ones_of rfl)) ?_
  refine sq_cons ⟨_, [(.t 3, .d (.dp (eRequest t1)))]⟩ (v_box_d (cs := (eRequest t1)) rfl trivial rfl (ble _ _ rfl) rfl rfl (ones_of rfl)) ?_
  refine sq_cons _ (v_alloc (id := 4) (cs := zc29) rfl trivial rfl (ble _ _ rfl) zu29 rfl ft29 rfl) ?_
  refine sq_cons ⟨_, [(.t 5, iV 0)]⟩ (v_move (.inr rfl) trivial rfl (ble _ _ rfl) rfl) ?_
  refine sq_nil ?_
  refine ht_seq ?_
  refine ht_seq ?_
  refine ht_region ?_
  refine sq_cons ⟨_, [(.t 7, .d (.agg (eClient t0)))]⟩ (w_ldp (eClient t0) (eClient t0) rfl trivial rfl (ble _ _ rfl) ag29 rfl (ble _ _ rfl) rfl) ?_
  obtain ⟨t8, c1, h⟩ := bpos h
  refine sq_cons ⟨_, [(.t 8, iV t8)]⟩ (w_call (ds := [(.agg (eClient t0))]) (caps := []) (l := [(.s (.int .i64 t8))]) (s21 k t0 _ c1) rfl rfl rfl en21 trivial rfl (ble _ _ rfl) (.inl ⟨rfl, rfl⟩) rfl rfl) ?_
  refine sq_cons ⟨_, [(.t 6, iV t8)]⟩ (v_move (.inr rfl) trivial rfl (ble _ _ rfl) rfl) ?_
  refine sq_nil ?_
  refine ht_seq ?_
  refine ht_region ?_
  refine sq_cons ⟨_, [(.t 9, iV t8)]⟩ (v_move (.inl rfl) trivial rfl (ble _ _ rfl) rfl) ?_
  refine sq_cons ⟨_, [(.t 10, bV (!eqI t8 0))]⟩ (v_bin rfl trivial rfl (ble _ _ rfl) rfl rfl (b_neq rfl)) ?_
  refine sq_nil ?_
  refine ht_cond (b := (!eqI t8 0)) rfl (fun e2 => ?_) (fun e2 => ?_)
  · replace h := cpos e2 h
    refine ht_seq ?_
    refine ht_region ?_
    refine sq_cons ⟨_, [(.t 11, .d (.agg (eClient t0)))]⟩ (w_ldp (eClient t0) (eClient t0) rfl trivial rfl (ble _ _ rfl) ag29 rfl (ble _ _ rfl) rfl) ?_
    refine sq_cons ⟨_, [(.t 12, iV t8)]⟩ (v_move (.inl rfl) trivial rfl (ble _ _ rfl) rfl) ?_
    refine sq_cons _ (v_store_box (id := 4) (off := 0) (cs := (eClient t0).map V.d) rfl trivial rfl sz29 rfl rfl rfl rfl (ones_of rfl) (ble _ _ rfl)) ?_
    refine sq_cons ⟨_, [(.t 5, iV t8)]⟩ (v_move (.inr rfl) trivial rfl (ble _ _ rfl) rfl) ?_
    refine sq_nil ?_
    refine ht_ret ?_
    cases h
    exact ret2 rfl (.cell rfl rfl ag29 (ble _ _ rfl) rfl) (.tmp rfl)
  · replace h := cneg e2 h
    refine ht_skip ?_
    refine ht_seq ?_
    refine ht_region ?_
    refine sq_cons ⟨_, [(.t 13, .d (.agg (eClient t0)))]⟩ (w_ldp (eClient t0) (eClient t0) rfl trivial rfl (ble _ _ rfl) ag29 rfl (ble _ _ rfl) rfl) ?_
    refine sq_cons ⟨_, [(.t 14, .d (.agg (eRequest t1)))]⟩ (w_ldp (eRequest t1) (eRequest t1) rfl trivial rfl (ble _ _ rfl) ag27 rfl (ble _ _ rfl) rfl) ?_
    obtain ⟨⟨t15a, t15b⟩, c3, h⟩ := bpos h
    refine sq_cons ⟨_, [(.t 15, .tup [.d (.agg (eClient t15a)), iV t15b])]⟩ (w_call (ds := [(.agg (eClient t0)), (.agg (eRequest t1)), (.s (.bool false))]) (caps := []) (l := [(.agg (eClient t15a)), (.s (.int .i64 t15b))]) (s22 k t0 t1 false _ c3) rfl rfl rfl en22 trivial rfl (ble _ _ rfl) (.inl ⟨rfl, rfl⟩) rfl rfl) ?_
    refine sq_cons ⟨_, [(.t 16, .d (.agg (eClient t15a)))]⟩ (v_extract rfl trivial rfl (ble _ _ rfl) rfl rfl) ?_
    refine sq_cons ⟨_, [(.t 17, iV t15b)]⟩ (v_extract rfl trivial rfl (ble _ _ rfl) rfl rfl) ?_
    refine sq_cons _ (v_store_box (id := 4) (off := 0) (cs := (eClient t15a).map V.d) rfl trivial rfl sz29 rfl rfl rfl rfl (ones_of rfl) (ble _ _ rfl)) ?_
    refine sq_cons ⟨_, [(.t 5, iV t15b)]⟩ (v_move (.inr rfl) trivial rfl (ble _ _ rfl) rfl) ?_
    refine sq_nil ?_
    refine ht_ret ?_
    cases h
    exact ret2 rfl (.cell rfl rfl ag29 (ble _ _ rfl) rfl) (.tmp rfl)
set_option maxRecDepth 100000 in
set_option maxHeartbeats 4000000 in
theorem s14 (k : Nat) (t0 : Client) (t1 : Answer) (t2 : Int) (r : Client × (List Msg) × Told) (h : F14 k t0 t1 t2 = some r) : Awp.Spec Tryd.prog amb 14 [(.agg (eClient t0)), (.agg (eAnswer t1)), (.s (.int .i64 t2))] (.ds [(.agg (eClient r.1)), (.sl 36 (r.2.1.map eMsg)), (.agg (eTold r.2.2))]) := by
  rw [F14] at h
  refine spec_of Tryd.func14 rfl (ble _ _ rfl) fun w0 ok0 lt0 hA => ?_
  refine ht_seq ?_
  refine ht_region ?_
  refine sq_cons _ (v_box (id := 3) (cs := (eClient t0).map V.d) rfl trivial rfl (ble _ _ rfl) rfl rfl (ones_of rfl) rfl) ?_
  refine sq_cons ⟨_, [(.t 4, .d (.dp (eAnswer t1)))]⟩ (v_box_d (cs := (eAnswer t1)) rfl trivial rfl (ble _ _ rfl) rfl rfl (ones_of rfl)) ?_
  refine sq_cons _ (v_alloc (id := 6) (cs := zc29) rfl trivial rfl (ble _ _ rfl) zu29 rfl ft29 rfl) ?_
  refine sq_cons ⟨_, [(.t 7, .d (.s (.slice none 0 0)))]⟩ (v_move (.inr rfl) trivial rfl (ble _ _ rfl) rfl) ?_
  refine sq_cons _ (v_alloc (id := 8) (cs := zc41) rfl trivial rfl (ble _ _ rfl) zu41 rfl ft41 rfl) ?_
  refine sq_nil ?_
  refine ht_seq ?_
  refine ht_region ?_
  refine sq_cons ⟨_, [(.t 10, .ptr 3 4)]⟩ (v_field_box (off := 0) (a0 := 4) rfl trivial rfl (ble _ _ rfl) fo29_4 rfl) ?_
  refine sq_cons ⟨_, [(.t 11, .d (.agg (eRequest t0.mReq)))]⟩ (w_ldb 3 4 rfl trivial rfl (ble _ _ rfl) ag27 rfl rfl (ble _ _ rfl) rfl) ?_
  refine sq_cons ⟨_, [(.t 12, .ptr 3 16)]⟩ (v_field_box (off := 0) (a0 := 16) rfl trivial rfl (ble _ _ rfl) fo29_5 rfl) ?_
  refine sq_cons ⟨_, [(.t 13, bV t0.mOpens)]⟩ (v_load_box1 (id := 3) (off := 16) rfl trivial rfl (ble _ _ rfl) onT4 rfl rfl (ble _ _ rfl) rfl) ?_
  refine sq_cons ⟨_, [(.t 14, .d (.agg (eAnswer t1)))]⟩ (w_ldp (eAnswer t1) (eAnswer t1) rfl trivial rfl (ble _ _ rfl) ag33 rfl (ble _ _ rfl) rfl) ?_
  refine sq_cons ⟨_, [(.t 15, iV t2)]⟩ (v_move (.inl rfl) trivial rfl (ble _ _ rfl) rfl) ?_
  refine sq_cons ⟨_, [(.t 16, .d (.agg (eTold (⟨true, t0.mReq, t0.mOpens, t1, t2⟩ : Told))))]⟩ (w_bld zc41 ((eTold (⟨true, t0.mReq, t0.mOpens, t1, t2⟩ : Told)).map V.d) [(0, bV true), (1, .d (.agg (eRequest t0.mReq))), (2, bV t0.mOpens), (3, .d (.agg (eAnswer t1))), (4, iV t2)] rfl trivial rfl (ble _ _ rfl) zw41 rfl ft41 rfl rfl rfl rfl) ?_
  refine sq_cons _ (v_alloc (id := 9) (cs := zc41) rfl trivial rfl (ble _ _ rfl) zu41 rfl ft41 rfl) ?_
  refine sq_cons _ (v_store_box (id := 9) (off := 0) (cs := (eTold (⟨true, t0.mReq, t0.mOpens, t1, t2⟩ : Told)).map V.d) rfl trivial rfl sz41 rfl rfl rfl rfl (ones_of rfl) (ble _ _ rfl)) ?_
  refine sq_nil ?_
  refine ht_seq ?_
  refine ht_region ?_
  refine sq_cons ⟨_, [(.t 17, .d (.agg (eRequest (⟨0, 0, 0, ⟨#[]⟩, ⟨#[]⟩, false, ⟨#[]⟩, (⟨0, 0, 0⟩ : Stamp), ⟨#[]⟩, 0⟩ : Request))))]⟩ (w_bld zc27 ((eRequest (⟨0, 0, 0, ⟨#[]⟩, ⟨#[]⟩, false, ⟨#[]⟩, (⟨0, 0, 0⟩ : Stamp), ⟨#[]⟩, 0⟩ : Request)).map V.d) [] rfl trivial rfl (ble _ _ rfl) zw27 rfl ft27 rfl rfl rfl rfl) ?_
  refine sq_cons ⟨_, [(.t 18, .ptr 3 4)]⟩ (v_field_box (off := 0) (a0 := 4) rfl trivial rfl (ble _ _ rfl) fo29_4 rfl) ?_
  refine sq_cons _ (v_store_box (id := 3) (off := 4) (cs := (eRequest (⟨0, 0, 0, ⟨#[]⟩, ⟨#[]⟩, false, ⟨#[]⟩, (⟨0, 0, 0⟩ : Stamp), ⟨#[]⟩, 0⟩ : Request)).map V.d) rfl trivial rfl sz27 rfl rfl rfl rfl (ones_of rfl) (ble _ _ rfl)) ?_
  refine sq_cons ⟨_, [(.t 19, .ptr 3 16)]⟩ (v_field_box (off := 0) (a0 := 16) rfl trivial rfl (ble _ _ rfl) fo29_5 rfl) ?_
  refine sq_cons _ (v_store_box (id := 3) (off := 16) (cs := [(.s (.bool false))].map V.d) rfl trivial rfl sz4 rfl rfl rfl rfl (ones_of rfl) (ble _ _ rfl)) ?_
  refine sq_cons ⟨_, [(.t 20, .ptr 3 17)]⟩ (v_field_box (off := 0) (a0 := 17) rfl trivial rfl (ble _ _ rfl) fo29_6 rfl) ?_
  refine sq_cons _ (v_store_box (id := 3) (off := 17) (cs := [(.s (.int .i64 0))].map V.d) rfl trivial rfl sz3 rfl rfl rfl rfl (ones_of rfl) (ble _ _ rfl)) ?_
  refine sq_nil ?_
  refine ht_seq ?_
  refine ht_region_draw mixed ?_
  refine rg_cons ⟨_, [(.t 21, .d (.agg (eClient ({t0 with mReq := (⟨0, 0, 0, (⟨#[]⟩ : ByteArray), (⟨#[]⟩ : ByteArray), false, (⟨#[]⟩ : ByteArray), (⟨0, 0, 0⟩ : Stamp), (⟨#[]⟩ : ByteArray), 0⟩ : Request), mOpens := false, mTries := 0}))))]⟩ (w_ldb 3 0 rfl trivial rfl (ble _ _ rfl) ag29 rfl rfl (ble _ _ rfl) rfl) ?_
  refine rg_cons ⟨_, [(.t 22, .d (.agg (eTold (⟨true, t0.mReq, t0.mOpens, t1, t2⟩ : Told))))]⟩ (w_ldb 9 0 rfl trivial rfl (ble _ _ rfl) ag41 rfl rfl (ble _ _ rfl) rfl) ?_
  refine rg_cons _ (v_store_box (id := 6) (off := 0) (cs := (eClient ({t0 with mReq := (⟨0, 0, 0, (⟨#[]⟩ : ByteArray), (⟨#[]⟩ : ByteArray), false, (⟨#[]⟩ : ByteArray), (⟨0, 0, 0⟩ : Stamp), (⟨#[]⟩ : ByteArray), 0⟩ : Request), mOpens := false, mTries := 0})).map V.d) rfl trivial rfl sz29 rfl rfl rfl rfl (ones_of rfl) (ble _ _ rfl)) ?_
  refine rg_cons ⟨_, [(.t 7, .d (.s (.slice none 0 0)))]⟩ (v_move (.inr rfl) trivial rfl (ble _ _ rfl) rfl) ?_
  refine rg_cons _ (v_store_box (id := 8) (off := 0) (cs := (eTold (⟨true, t0.mReq, t0.mOpens, t1, t2⟩ : Told)).map V.d) rfl trivial rfl sz41 rfl rfl rfl rfl (ones_of rfl) (ble _ _ rfl)) ?_
  refine rg_nil ⟨by kernel_rfl, ?_⟩
  refine ht_ret ?_
  cases h
  exact retM_wk (wk_nil (.t 7) (nb 7) 36 rfl) (ret3 rfl (.cell rfl rfl ag29 (ble _ _ rfl) rfl) (.tmp rfl) (.cell rfl rfl ag41 (ble _ _ rfl) rfl))
end Go.Proofs.Cq
