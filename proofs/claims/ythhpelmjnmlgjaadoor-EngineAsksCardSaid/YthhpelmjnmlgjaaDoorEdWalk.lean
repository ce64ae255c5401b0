import Derived.Test.YthhpelmjnmlgjaaDoorProg
import Derived.Test.YthhpelmjnmlgjaaDoorEdUtf
import Derived.Test.YthhpelmjnmlgjaaDoorEdDefs
import Derived.KernelRfl
import Derived.Calls
import Derived.Shelf.Lay
set_option linter.unusedVariables false
namespace Go.Proofs.Ed
open Go Go.Awp Go.Proofs
theorem ag23 : AggT Tryd.prog 23 3 := .mk2 (by kernel_rfl) (by kernel_rfl)
theorem ag25 : AggT Tryd.prog 25 12 := .mk2 (by kernel_rfl) (by kernel_rfl)
theorem ag30 : AggT Tryd.prog 30 5 := .mk2 (by kernel_rfl) (by kernel_rfl)
theorem ag35 : AggT Tryd.prog 35 9 := .mk2 (by kernel_rfl) (by kernel_rfl)
theorem ag46 : AggT Tryd.prog 46 2 := .mk2 (by kernel_rfl) (by kernel_rfl)
theorem ag50 : AggT Tryd.prog 50 17 := .mk2 (by kernel_rfl) (by kernel_rfl)
theorem ag78 : AggT Tryd.prog 78 11 := .mk2 (by kernel_rfl) (by kernel_rfl)
theorem ag84 : AggT Tryd.prog 84 5 := .mk2 (by kernel_rfl) (by kernel_rfl)
theorem ag100 : AggT Tryd.prog 100 2 := .mk2 (by kernel_rfl) (by kernel_rfl)
theorem ag118 : AggT Tryd.prog 118 2 := .mk2 (by kernel_rfl) (by kernel_rfl)
def zc23 : List V := [.d (.s (.int .i64 0)), .d (.s (.int .i64 0)), .d (.s (.int .i64 0))]
def zc25 : List V := [.d (.s (.int .i64 0)), .d (.s (.int .i64 0)), .d (.s (.int .i64 0)), .d (.s (.string (⟨#[]⟩ : ByteArray))), .d (.s (.string (⟨#[]⟩ : ByteArray))), .d (.s (.bool false)), .d (.s (.string (⟨#[]⟩ : ByteArray))), .d (.s (.int .i64 0)), .d (.s (.int .i64 0)), .d (.s (.int .i64 0)), .d (.s (.string (⟨#[]⟩ : ByteArray))), .d (.s (.int .i64 0))]
def zc30 : List V := [.d (.sl 17 (([] : List Shard).map eShard)), .d (.s (.int .i64 0)), .d (.s (.int .i64 0)), .d (.s (.int .i64 0)), .d (.s (.int .i64 0))]
def zc35 : List V := [.d (.s (.int .i64 0)), .d (.s (.int .i64 0)), .d (.s (.int .i64 0)), .d (.s (.int .i64 0)), .d (.s (.bool false)), .d (.s (.string (⟨#[]⟩ : ByteArray))), .d (.sl 2 (([] : List Item).map eItem)), .d (.s (.string (⟨#[]⟩ : ByteArray))), .d (.s (.bool false))]
def zc50 : List V := [.d (.s (.int .i64 0)), .d (.s (.int .i64 0)), .d (.s (.string (⟨#[]⟩ : ByteArray))), .d (.s (.string (⟨#[]⟩ : ByteArray))), .d (.s (.int .i64 0)), .d (.sl 2 (([] : List Entry).map eEntry)), .d (.s (.int .i64 0)), .d (.s (.int .i64 0)), .d (.s (.int .i64 0)), .d (.s (.int .i64 0)), .d (.s (.int .i64 0)), .d (.s (.int .i64 0)), .d (.sl 11 (([] : List Done).map eDone)), .d (.s (.int .i64 0)), .d (.s (.int .i64 0)), .d (.s (.int .i64 0)), .d (.s (.int .i64 0))]
def zc78 : List V := [.d (.s (.int .i64 0)), .d (.s (.int .i64 0)), .d (.s (.int .i64 0)), .d (.s (.int .i64 0)), .d (.s (.int .i64 0)), .d (.s (.int .i64 0)), .d (.s (.bool false)), .d (.s (.string (⟨#[]⟩ : ByteArray))), .d (.sl 2 (([] : List Item).map eItem)), .d (.s (.string (⟨#[]⟩ : ByteArray))), .d (.s (.bool false))]
def zc84 : List V := [.d (.s (.int .i64 0)), .d (.s (.int .i64 0)), .d (.s (.int .i64 0)), .d (.s (.bool false)), .d (.s (.string (⟨#[]⟩ : ByteArray)))]
def zc100 : List V := [.d (.s (.string (⟨#[]⟩ : ByteArray))), .d (.sl 5 (([] : List Version).map eVersion))]
def zc118 : List V := [.d (.s (.string (⟨#[]⟩ : ByteArray))), .d (.s (.string (⟨#[]⟩ : ByteArray)))]
def zv23 : Value := (.agg #[.int .i64 0, .int .i64 0, .int .i64 0])
def zv25 : Value := (.agg #[.int .i64 0, .int .i64 0, .int .i64 0, .string ⟨#[]⟩, .string ⟨#[]⟩, .bool false, .string ⟨#[]⟩, .int .i64 0, .int .i64 0, .int .i64 0, .string ⟨#[]⟩, .int .i64 0])
def zv30 : Value := (.agg #[.slice none 0 0, .int .i64 0, .int .i64 0, .int .i64 0, .int .i64 0])
def zv35 : Value := (.agg #[.int .i64 0, .int .i64 0, .int .i64 0, .int .i64 0, .bool false, .string ⟨#[]⟩, .slice none 0 0, .string ⟨#[]⟩, .bool false])
def zv50 : Value := (.agg #[.int .i64 0, .int .i64 0, .string ⟨#[]⟩, .string ⟨#[]⟩, .int .i64 0, .slice none 0 0, .int .i64 0, .int .i64 0, .int .i64 0, .int .i64 0, .int .i64 0, .int .i64 0, .slice none 0 0, .int .i64 0, .int .i64 0, .int .i64 0, .int .i64 0])
def zv78 : Value := (.agg #[.int .i64 0, .int .i64 0, .int .i64 0, .int .i64 0, .int .i64 0, .int .i64 0, .bool false, .string ⟨#[]⟩, .slice none 0 0, .string ⟨#[]⟩, .bool false])
def zv84 : Value := (.agg #[.int .i64 0, .int .i64 0, .int .i64 0, .bool false, .string ⟨#[]⟩])
def zv100 : Value := (.agg #[.string ⟨#[]⟩, .slice none 0 0])
def zv118 : Value := (.agg #[.string ⟨#[]⟩, .string ⟨#[]⟩])
theorem eg23 : Tryd.prog.eqGuardType Tryd.prog.depth 23 = false := by kernel_rfl
theorem eg46 : Tryd.prog.eqGuardType Tryd.prog.depth 46 = false := by kernel_rfl
theorem eg84 : Tryd.prog.eqGuardType Tryd.prog.depth 84 = false := by kernel_rfl
theorem eg118 : Tryd.prog.eqGuardType Tryd.prog.depth 118 = false := by kernel_rfl
theorem elT50 : ElemT Tryd.prog 50 17 184 := .mk' (z := (.agg #[.int .i64 0, .int .i64 0, .string ⟨#[]⟩, .string ⟨#[]⟩, .int .i64 0, .slice none 0 0, .int .i64 0, .int .i64 0, .int .i64 0, .int .i64 0, .int .i64 0, .int .i64 0, .slice none 0 0, .int .i64 0, .int .i64 0, .int .i64 0, .int .i64 0])) (by kernel_rfl) rfl (ble _ _ rfl)
theorem elT78 : ElemT Tryd.prog 78 11 120 := .mk' (z := (.agg #[.int .i64 0, .int .i64 0, .int .i64 0, .int .i64 0, .int .i64 0, .int .i64 0, .bool false, .string ⟨#[]⟩, .slice none 0 0, .string ⟨#[]⟩, .bool false])) (by kernel_rfl) rfl (ble _ _ rfl)
theorem elT84 : ElemT Tryd.prog 84 5 48 := .mk' (z := (.agg #[.int .i64 0, .int .i64 0, .int .i64 0, .bool false, .string ⟨#[]⟩])) (by kernel_rfl) rfl (ble _ _ rfl)
theorem elT100 : ElemT Tryd.prog 100 2 40 := .mk' (z := (.agg #[.string ⟨#[]⟩, .slice none 0 0])) (by kernel_rfl) rfl (ble _ _ rfl)
theorem elT118 : ElemT Tryd.prog 118 2 32 := .mk' (z := (.agg #[.string ⟨#[]⟩, .string ⟨#[]⟩])) (by kernel_rfl) rfl (ble _ _ rfl)
theorem en5 : ∀ args w, (callFunc 5 args).run Tryd.prog w = .ok (.enter 5 args) w := enters_of Tryd.func5 (by kernel_rfl) rfl
theorem en6 : ∀ args w, (callFunc 6 args).run Tryd.prog w = .ok (.enter 6 args) w := enters_of Tryd.func6 (by kernel_rfl) rfl
theorem en7 : ∀ args w, (callFunc 7 args).run Tryd.prog w = .ok (.enter 7 args) w := enters_of Tryd.func7 (by kernel_rfl) rfl
theorem en8 : ∀ args w, (callFunc 8 args).run Tryd.prog w = .ok (.enter 8 args) w := enters_of Tryd.func8 (by kernel_rfl) rfl
theorem en9 : ∀ args w, (callFunc 9 args).run Tryd.prog w = .ok (.enter 9 args) w := enters_of Tryd.func9 (by kernel_rfl) rfl
theorem en10 : ∀ args w, (callFunc 10 args).run Tryd.prog w = .ok (.enter 10 args) w := enters_of Tryd.func10 (by kernel_rfl) rfl
theorem en11 : ∀ args w, (callFunc 11 args).run Tryd.prog w = .ok (.enter 11 args) w := enters_of Tryd.func11 (by kernel_rfl) rfl
theorem en12 : ∀ args w, (callFunc 12 args).run Tryd.prog w = .ok (.enter 12 args) w := enters_of Tryd.func12 (by kernel_rfl) rfl
theorem en13 : ∀ args w, (callFunc 13 args).run Tryd.prog w = .ok (.enter 13 args) w := enters_of Tryd.func13 (by kernel_rfl) rfl
theorem en14 : ∀ args w, (callFunc 14 args).run Tryd.prog w = .ok (.enter 14 args) w := enters_of Tryd.func14 (by kernel_rfl) rfl
theorem en15 : ∀ args w, (callFunc 15 args).run Tryd.prog w = .ok (.enter 15 args) w := enters_of Tryd.func15 (by kernel_rfl) rfl
theorem en16 : ∀ args w, (callFunc 16 args).run Tryd.prog w = .ok (.enter 16 args) w := enters_of Tryd.func16 (by kernel_rfl) rfl
theorem en17 : ∀ args w, (callFunc 17 args).run Tryd.prog w = .ok (.enter 17 args) w := enters_of Tryd.func17 (by kernel_rfl) rfl
theorem en18 : ∀ args w, (callFunc 18 args).run Tryd.prog w = .ok (.enter 18 args) w := enters_of Tryd.func18 (by kernel_rfl) rfl
theorem en19 : ∀ args w, (callFunc 19 args).run Tryd.prog w = .ok (.enter 19 args) w := enters_of Tryd.func19 (by kernel_rfl) rfl
theorem en20 : ∀ args w, (callFunc 20 args).run Tryd.prog w = .ok (.enter 20 args) w := enters_of Tryd.func20 (by kernel_rfl) rfl
theorem en21 : ∀ args w, (callFunc 21 args).run Tryd.prog w = .ok (.enter 21 args) w := enters_of Tryd.func21 (by kernel_rfl) rfl
theorem en22 : ∀ args w, (callFunc 22 args).run Tryd.prog w = .ok (.enter 22 args) w := enters_of Tryd.func22 (by kernel_rfl) rfl
theorem en23 : ∀ args w, (callFunc 23 args).run Tryd.prog w = .ok (.enter 23 args) w := enters_of Tryd.func23 (by kernel_rfl) rfl
theorem en24 : ∀ args w, (callFunc 24 args).run Tryd.prog w = .ok (.enter 24 args) w := enters_of Tryd.func24 (by kernel_rfl) rfl
theorem en25 : ∀ args w, (callFunc 25 args).run Tryd.prog w = .ok (.enter 25 args) w := enters_of Tryd.func25 (by kernel_rfl) rfl
theorem en26 : ∀ args w, (callFunc 26 args).run Tryd.prog w = .ok (.enter 26 args) w := enters_of Tryd.func26 (by kernel_rfl) rfl
theorem en27 : ∀ args w, (callFunc 27 args).run Tryd.prog w = .ok (.enter 27 args) w := enters_of Tryd.func27 (by kernel_rfl) rfl
theorem en28 : ∀ args w, (callFunc 28 args).run Tryd.prog w = .ok (.enter 28 args) w := enters_of Tryd.func28 (by kernel_rfl) rfl
theorem en29 : ∀ args w, (callFunc 29 args).run Tryd.prog w = .ok (.enter 29 args) w := enters_of Tryd.func29 (by kernel_rfl) rfl
theorem en30 : ∀ args w, (callFunc 30 args).run Tryd.prog w = .ok (.enter 30 args) w := enters_of Tryd.func30 (by kernel_rfl) rfl
theorem en31 : ∀ args w, (callFunc 31 args).run Tryd.prog w = .ok (.enter 31 args) w := enters_of Tryd.func31 (by kernel_rfl) rfl
theorem en32 : ∀ args w, (callFunc 32 args).run Tryd.prog w = .ok (.enter 32 args) w := enters_of Tryd.func32 (by kernel_rfl) rfl
theorem en33 : ∀ args w, (callFunc 33 args).run Tryd.prog w = .ok (.enter 33 args) w := enters_of Tryd.func33 (by kernel_rfl) rfl
theorem en34 : ∀ args w, (callFunc 34 args).run Tryd.prog w = .ok (.enter 34 args) w := enters_of Tryd.func34 (by kernel_rfl) rfl
theorem en35 : ∀ args w, (callFunc 35 args).run Tryd.prog w = .ok (.enter 35 args) w := enters_of Tryd.func35 (by kernel_rfl) rfl
theorem en36 : ∀ args w, (callFunc 36 args).run Tryd.prog w = .ok (.enter 36 args) w := enters_of Tryd.func36 (by kernel_rfl) rfl
theorem en37 : ∀ args w, (callFunc 37 args).run Tryd.prog w = .ok (.enter 37 args) w := enters_of Tryd.func37 (by kernel_rfl) rfl
theorem en38 : ∀ args w, (callFunc 38 args).run Tryd.prog w = .ok (.enter 38 args) w := enters_of Tryd.func38 (by kernel_rfl) rfl
theorem en39 : ∀ args w, (callFunc 39 args).run Tryd.prog w = .ok (.enter 39 args) w := enters_of Tryd.func39 (by kernel_rfl) rfl
theorem en40 : ∀ args w, (callFunc 40 args).run Tryd.prog w = .ok (.enter 40 args) w := enters_of Tryd.func40 (by kernel_rfl) rfl
theorem en41 : ∀ args w, (callFunc 41 args).run Tryd.prog w = .ok (.enter 41 args) w := enters_of Tryd.func41 (by kernel_rfl) rfl
theorem en42 : ∀ args w, (callFunc 42 args).run Tryd.prog w = .ok (.enter 42 args) w := enters_of Tryd.func42 (by kernel_rfl) rfl
theorem en43 : ∀ args w, (callFunc 43 args).run Tryd.prog w = .ok (.enter 43 args) w := enters_of Tryd.func43 (by kernel_rfl) rfl
theorem en44 : ∀ args w, (callFunc 44 args).run Tryd.prog w = .ok (.enter 44 args) w := enters_of Tryd.func44 (by kernel_rfl) rfl
theorem en45 : ∀ args w, (callFunc 45 args).run Tryd.prog w = .ok (.enter 45 args) w := enters_of Tryd.func45 (by kernel_rfl) rfl
theorem en46 : ∀ args w, (callFunc 46 args).run Tryd.prog w = .ok (.enter 46 args) w := enters_of Tryd.func46 (by kernel_rfl) rfl
theorem en47 : ∀ args w, (callFunc 47 args).run Tryd.prog w = .ok (.enter 47 args) w := enters_of Tryd.func47 (by kernel_rfl) rfl
theorem en48 : ∀ args w, (callFunc 48 args).run Tryd.prog w = .ok (.enter 48 args) w := enters_of Tryd.func48 (by kernel_rfl) rfl
theorem en49 : ∀ args w, (callFunc 49 args).run Tryd.prog w = .ok (.enter 49 args) w := enters_of Tryd.func49 (by kernel_rfl) rfl
theorem en50 : ∀ args w, (callFunc 50 args).run Tryd.prog w = .ok (.enter 50 args) w := enters_of Tryd.func50 (by kernel_rfl) rfl
theorem en51 : ∀ args w, (callFunc 51 args).run Tryd.prog w = .ok (.enter 51 args) w := enters_of Tryd.func51 (by kernel_rfl) rfl
theorem en52 : ∀ args w, (callFunc 52 args).run Tryd.prog w = .ok (.enter 52 args) w := enters_of Tryd.func52 (by kernel_rfl) rfl
theorem en53 : ∀ args w, (callFunc 53 args).run Tryd.prog w = .ok (.enter 53 args) w := enters_of Tryd.func53 (by kernel_rfl) rfl
theorem en54 : ∀ args w, (callFunc 54 args).run Tryd.prog w = .ok (.enter 54 args) w := enters_of Tryd.func54 (by kernel_rfl) rfl
theorem en55 : ∀ args w, (callFunc 55 args).run Tryd.prog w = .ok (.enter 55 args) w := enters_of Tryd.func55 (by kernel_rfl) rfl
theorem en56 : ∀ args w, (callFunc 56 args).run Tryd.prog w = .ok (.enter 56 args) w := enters_of Tryd.func56 (by kernel_rfl) rfl
theorem en57 : ∀ args w, (callFunc 57 args).run Tryd.prog w = .ok (.enter 57 args) w := enters_of Tryd.func57 (by kernel_rfl) rfl
theorem en58 : ∀ args w, (callFunc 58 args).run Tryd.prog w = .ok (.enter 58 args) w := enters_of Tryd.func58 (by kernel_rfl) rfl
theorem en59 : ∀ args w, (callFunc 59 args).run Tryd.prog w = .ok (.enter 59 args) w := enters_of Tryd.func59 (by kernel_rfl) rfl
theorem en60 : ∀ args w, (callFunc 60 args).run Tryd.prog w = .ok (.enter 60 args) w := enters_of Tryd.func60 (by kernel_rfl) rfl
theorem en61 : ∀ args w, (callFunc 61 args).run Tryd.prog w = .ok (.enter 61 args) w := enters_of Tryd.func61 (by kernel_rfl) rfl
theorem en62 : ∀ args w, (callFunc 62 args).run Tryd.prog w = .ok (.enter 62 args) w := enters_of Tryd.func62 (by kernel_rfl) rfl
theorem en63 : ∀ args w, (callFunc 63 args).run Tryd.prog w = .ok (.enter 63 args) w := enters_of Tryd.func63 (by kernel_rfl) rfl
theorem en64 : ∀ args w, (callFunc 64 args).run Tryd.prog w = .ok (.enter 64 args) w := enters_of Tryd.func64 (by kernel_rfl) rfl
theorem en65 : ∀ args w, (callFunc 65 args).run Tryd.prog w = .ok (.enter 65 args) w := enters_of Tryd.func65 (by kernel_rfl) rfl
theorem en66 : ∀ args w, (callFunc 66 args).run Tryd.prog w = .ok (.enter 66 args) w := enters_of Tryd.func66 (by kernel_rfl) rfl
theorem en67 : ∀ args w, (callFunc 67 args).run Tryd.prog w = .ok (.enter 67 args) w := enters_of Tryd.func67 (by kernel_rfl) rfl
theorem en68 : ∀ args w, (callFunc 68 args).run Tryd.prog w = .ok (.enter 68 args) w := enters_of Tryd.func68 (by kernel_rfl) rfl
theorem en69 : ∀ args w, (callFunc 69 args).run Tryd.prog w = .ok (.enter 69 args) w := enters_of Tryd.func69 (by kernel_rfl) rfl
theorem en70 : ∀ args w, (callFunc 70 args).run Tryd.prog w = .ok (.enter 70 args) w := enters_of Tryd.func70 (by kernel_rfl) rfl
theorem en71 : ∀ args w, (callFunc 71 args).run Tryd.prog w = .ok (.enter 71 args) w := enters_of Tryd.func71 (by kernel_rfl) rfl
theorem en72 : ∀ args w, (callFunc 72 args).run Tryd.prog w = .ok (.enter 72 args) w := enters_of Tryd.func72 (by kernel_rfl) rfl
theorem en73 : ∀ args w, (callFunc 73 args).run Tryd.prog w = .ok (.enter 73 args) w := enters_of Tryd.func73 (by kernel_rfl) rfl
theorem en74 : ∀ args w, (callFunc 74 args).run Tryd.prog w = .ok (.enter 74 args) w := enters_of Tryd.func74 (by kernel_rfl) rfl
theorem en75 : ∀ args w, (callFunc 75 args).run Tryd.prog w = .ok (.enter 75 args) w := enters_of Tryd.func75 (by kernel_rfl) rfl
theorem en76 : ∀ args w, (callFunc 76 args).run Tryd.prog w = .ok (.enter 76 args) w := enters_of Tryd.func76 (by kernel_rfl) rfl
theorem en77 : ∀ args w, (callFunc 77 args).run Tryd.prog w = .ok (.enter 77 args) w := enters_of Tryd.func77 (by kernel_rfl) rfl
theorem en78 : ∀ args w, (callFunc 78 args).run Tryd.prog w = .ok (.enter 78 args) w := enters_of Tryd.func78 (by kernel_rfl) rfl
theorem en79 : ∀ args w, (callFunc 79 args).run Tryd.prog w = .ok (.enter 79 args) w := enters_of Tryd.func79 (by kernel_rfl) rfl
theorem en80 : ∀ args w, (callFunc 80 args).run Tryd.prog w = .ok (.enter 80 args) w := enters_of Tryd.func80 (by kernel_rfl) rfl
theorem en81 : ∀ args w, (callFunc 81 args).run Tryd.prog w = .ok (.enter 81 args) w := enters_of Tryd.func81 (by kernel_rfl) rfl
theorem en82 : ∀ args w, (callFunc 82 args).run Tryd.prog w = .ok (.enter 82 args) w := enters_of Tryd.func82 (by kernel_rfl) rfl
theorem en83 : ∀ args w, (callFunc 83 args).run Tryd.prog w = .ok (.enter 83 args) w := enters_of Tryd.func83 (by kernel_rfl) rfl
theorem en84 : ∀ args w, (callFunc 84 args).run Tryd.prog w = .ok (.enter 84 args) w := enters_of Tryd.func84 (by kernel_rfl) rfl
theorem en85 : ∀ args w, (callFunc 85 args).run Tryd.prog w = .ok (.enter 85 args) w := enters_of Tryd.func85 (by kernel_rfl) rfl
theorem en86 : ∀ args w, (callFunc 86 args).run Tryd.prog w = .ok (.enter 86 args) w := enters_of Tryd.func86 (by kernel_rfl) rfl
theorem en87 : ∀ args w, (callFunc 87 args).run Tryd.prog w = .ok (.enter 87 args) w := enters_of Tryd.func87 (by kernel_rfl) rfl
theorem en88 : ∀ args w, (callFunc 88 args).run Tryd.prog w = .ok (.enter 88 args) w := enters_of Tryd.func88 (by kernel_rfl) rfl
theorem en95 : ∀ args w, (callFunc 95 args).run Tryd.prog w = .ok (.enter 95 args) w := enters_of Tryd.func95 (by kernel_rfl) rfl
theorem en99 : ∀ args w, (callFunc 99 args).run Tryd.prog w = .ok (.enter 99 args) w := enters_of Tryd.func99 (by kernel_rfl) rfl
theorem en100 : ∀ args w, (callFunc 100 args).run Tryd.prog w = .ok (.enter 100 args) w := enters_of Tryd.func100 (by kernel_rfl) rfl
theorem eq23 (a b : Stamp) : eqP Tryd.prog 9 23 (.agg (vStamp a).toArray) (.agg (vStamp b).toArray) = some (qStamp a b) := by kernel_rfl
theorem eq46 (a b : Span) : eqP Tryd.prog 9 46 (.agg (vSpan a).toArray) (.agg (vSpan b).toArray) = some (qSpan a b) := by kernel_rfl
theorem eq84 (a b : Version) : eqP Tryd.prog 9 84 (.agg (vVersion a).toArray) (.agg (vVersion b).toArray) = some (qVersion a b) := by kernel_rfl
theorem eq118 (a b : Item) : eqP Tryd.prog 9 118 (.agg (vItem a).toArray) (.agg (vItem b).toArray) = some (qItem a b) := by kernel_rfl
theorem fo23_0 : ∀ w a, (Instr.fieldAt 23 (.pointer (some a)) 0).run Tryd.prog w = .ok (.pointer (some (a.add 0))) w := field_of (by kernel_rfl)
theorem fo23_1 : ∀ w a, (Instr.fieldAt 23 (.pointer (some a)) 1).run Tryd.prog w = .ok (.pointer (some (a.add 1))) w := field_of (by kernel_rfl)
theorem fo23_2 : ∀ w a, (Instr.fieldAt 23 (.pointer (some a)) 2).run Tryd.prog w = .ok (.pointer (some (a.add 2))) w := field_of (by kernel_rfl)
theorem fo25_0 : ∀ w a, (Instr.fieldAt 25 (.pointer (some a)) 0).run Tryd.prog w = .ok (.pointer (some (a.add 0))) w := field_of (by kernel_rfl)
theorem fo25_1 : ∀ w a, (Instr.fieldAt 25 (.pointer (some a)) 1).run Tryd.prog w = .ok (.pointer (some (a.add 1))) w := field_of (by kernel_rfl)
theorem fo25_2 : ∀ w a, (Instr.fieldAt 25 (.pointer (some a)) 2).run Tryd.prog w = .ok (.pointer (some (a.add 2))) w := field_of (by kernel_rfl)
theorem fo25_3 : ∀ w a, (Instr.fieldAt 25 (.pointer (some a)) 3).run Tryd.prog w = .ok (.pointer (some (a.add 3))) w := field_of (by kernel_rfl)
theorem fo25_4 : ∀ w a, (Instr.fieldAt 25 (.pointer (some a)) 4).run Tryd.prog w = .ok (.pointer (some (a.add 4))) w := field_of (by kernel_rfl)
theorem fo25_5 : ∀ w a, (Instr.fieldAt 25 (.pointer (some a)) 5).run Tryd.prog w = .ok (.pointer (some (a.add 5))) w := field_of (by kernel_rfl)
theorem fo25_6 : ∀ w a, (Instr.fieldAt 25 (.pointer (some a)) 6).run Tryd.prog w = .ok (.pointer (some (a.add 6))) w := field_of (by kernel_rfl)
theorem fo25_7 : ∀ w a, (Instr.fieldAt 25 (.pointer (some a)) 7).run Tryd.prog w = .ok (.pointer (some (a.add 7))) w := field_of (by kernel_rfl)
theorem fo25_8 : ∀ w a, (Instr.fieldAt 25 (.pointer (some a)) 8).run Tryd.prog w = .ok (.pointer (some (a.add 10))) w := field_of (by kernel_rfl)
theorem fo25_9 : ∀ w a, (Instr.fieldAt 25 (.pointer (some a)) 9).run Tryd.prog w = .ok (.pointer (some (a.add 11))) w := field_of (by kernel_rfl)
theorem fo30_0 : ∀ w a, (Instr.fieldAt 30 (.pointer (some a)) 0).run Tryd.prog w = .ok (.pointer (some (a.add 0))) w := field_of (by kernel_rfl)
theorem fo30_1 : ∀ w a, (Instr.fieldAt 30 (.pointer (some a)) 1).run Tryd.prog w = .ok (.pointer (some (a.add 1))) w := field_of (by kernel_rfl)
theorem fo30_2 : ∀ w a, (Instr.fieldAt 30 (.pointer (some a)) 2).run Tryd.prog w = .ok (.pointer (some (a.add 4))) w := field_of (by kernel_rfl)
theorem fo35_0 : ∀ w a, (Instr.fieldAt 35 (.pointer (some a)) 0).run Tryd.prog w = .ok (.pointer (some (a.add 0))) w := field_of (by kernel_rfl)
theorem fo35_1 : ∀ w a, (Instr.fieldAt 35 (.pointer (some a)) 1).run Tryd.prog w = .ok (.pointer (some (a.add 1))) w := field_of (by kernel_rfl)
theorem fo35_2 : ∀ w a, (Instr.fieldAt 35 (.pointer (some a)) 2).run Tryd.prog w = .ok (.pointer (some (a.add 4))) w := field_of (by kernel_rfl)
theorem fo35_3 : ∀ w a, (Instr.fieldAt 35 (.pointer (some a)) 3).run Tryd.prog w = .ok (.pointer (some (a.add 5))) w := field_of (by kernel_rfl)
theorem fo35_4 : ∀ w a, (Instr.fieldAt 35 (.pointer (some a)) 4).run Tryd.prog w = .ok (.pointer (some (a.add 6))) w := field_of (by kernel_rfl)
theorem fo35_5 : ∀ w a, (Instr.fieldAt 35 (.pointer (some a)) 5).run Tryd.prog w = .ok (.pointer (some (a.add 7))) w := field_of (by kernel_rfl)
theorem fo35_6 : ∀ w a, (Instr.fieldAt 35 (.pointer (some a)) 6).run Tryd.prog w = .ok (.pointer (some (a.add 8))) w := field_of (by kernel_rfl)
theorem fo46_0 : ∀ w a, (Instr.fieldAt 46 (.pointer (some a)) 0).run Tryd.prog w = .ok (.pointer (some (a.add 0))) w := field_of (by kernel_rfl)
theorem fo46_1 : ∀ w a, (Instr.fieldAt 46 (.pointer (some a)) 1).run Tryd.prog w = .ok (.pointer (some (a.add 1))) w := field_of (by kernel_rfl)
theorem fo50_0 : ∀ w a, (Instr.fieldAt 50 (.pointer (some a)) 0).run Tryd.prog w = .ok (.pointer (some (a.add 0))) w := field_of (by kernel_rfl)
theorem fo50_1 : ∀ w a, (Instr.fieldAt 50 (.pointer (some a)) 1).run Tryd.prog w = .ok (.pointer (some (a.add 1))) w := field_of (by kernel_rfl)
theorem fo50_2 : ∀ w a, (Instr.fieldAt 50 (.pointer (some a)) 2).run Tryd.prog w = .ok (.pointer (some (a.add 2))) w := field_of (by kernel_rfl)
theorem fo50_3 : ∀ w a, (Instr.fieldAt 50 (.pointer (some a)) 3).run Tryd.prog w = .ok (.pointer (some (a.add 4))) w := field_of (by kernel_rfl)
theorem fo50_4 : ∀ w a, (Instr.fieldAt 50 (.pointer (some a)) 4).run Tryd.prog w = .ok (.pointer (some (a.add 5))) w := field_of (by kernel_rfl)
theorem fo50_5 : ∀ w a, (Instr.fieldAt 50 (.pointer (some a)) 5).run Tryd.prog w = .ok (.pointer (some (a.add 6))) w := field_of (by kernel_rfl)
theorem fo50_6 : ∀ w a, (Instr.fieldAt 50 (.pointer (some a)) 6).run Tryd.prog w = .ok (.pointer (some (a.add 9))) w := field_of (by kernel_rfl)
theorem fo50_7 : ∀ w a, (Instr.fieldAt 50 (.pointer (some a)) 7).run Tryd.prog w = .ok (.pointer (some (a.add 12))) w := field_of (by kernel_rfl)
theorem fo50_8 : ∀ w a, (Instr.fieldAt 50 (.pointer (some a)) 8).run Tryd.prog w = .ok (.pointer (some (a.add 13))) w := field_of (by kernel_rfl)
theorem fo50_9 : ∀ w a, (Instr.fieldAt 50 (.pointer (some a)) 9).run Tryd.prog w = .ok (.pointer (some (a.add 14))) w := field_of (by kernel_rfl)
theorem fo50_10 : ∀ w a, (Instr.fieldAt 50 (.pointer (some a)) 10).run Tryd.prog w = .ok (.pointer (some (a.add 15))) w := field_of (by kernel_rfl)
theorem fo50_11 : ∀ w a, (Instr.fieldAt 50 (.pointer (some a)) 11).run Tryd.prog w = .ok (.pointer (some (a.add 16))) w := field_of (by kernel_rfl)
theorem fo78_0 : ∀ w a, (Instr.fieldAt 78 (.pointer (some a)) 0).run Tryd.prog w = .ok (.pointer (some (a.add 0))) w := field_of (by kernel_rfl)
theorem fo78_1 : ∀ w a, (Instr.fieldAt 78 (.pointer (some a)) 1).run Tryd.prog w = .ok (.pointer (some (a.add 1))) w := field_of (by kernel_rfl)
theorem fo78_2 : ∀ w a, (Instr.fieldAt 78 (.pointer (some a)) 2).run Tryd.prog w = .ok (.pointer (some (a.add 2))) w := field_of (by kernel_rfl)
theorem fo84_0 : ∀ w a, (Instr.fieldAt 84 (.pointer (some a)) 0).run Tryd.prog w = .ok (.pointer (some (a.add 0))) w := field_of (by kernel_rfl)
theorem fo84_1 : ∀ w a, (Instr.fieldAt 84 (.pointer (some a)) 1).run Tryd.prog w = .ok (.pointer (some (a.add 3))) w := field_of (by kernel_rfl)
theorem fo84_2 : ∀ w a, (Instr.fieldAt 84 (.pointer (some a)) 2).run Tryd.prog w = .ok (.pointer (some (a.add 4))) w := field_of (by kernel_rfl)
theorem fo100_0 : ∀ w a, (Instr.fieldAt 100 (.pointer (some a)) 0).run Tryd.prog w = .ok (.pointer (some (a.add 0))) w := field_of (by kernel_rfl)
theorem fo100_1 : ∀ w a, (Instr.fieldAt 100 (.pointer (some a)) 1).run Tryd.prog w = .ok (.pointer (some (a.add 1))) w := field_of (by kernel_rfl)
theorem ft23 : ∀ (i : Nat) (v : Value) (c : V), zv23.cells[i]? = some v → zc23[i]? = some c → c = .d (.s v) ∨ zeroFits v c = true := fit_of rfl
theorem ft25 : ∀ (i : Nat) (v : Value) (c : V), zv25.cells[i]? = some v → zc25[i]? = some c → c = .d (.s v) ∨ zeroFits v c = true := fit_of rfl
theorem ft30 : ∀ (i : Nat) (v : Value) (c : V), zv30.cells[i]? = some v → zc30[i]? = some c → c = .d (.s v) ∨ zeroFits v c = true := fit_of rfl
theorem ft35 : ∀ (i : Nat) (v : Value) (c : V), zv35.cells[i]? = some v → zc35[i]? = some c → c = .d (.s v) ∨ zeroFits v c = true := fit_of rfl
theorem ft50 : ∀ (i : Nat) (v : Value) (c : V), zv50.cells[i]? = some v → zc50[i]? = some c → c = .d (.s v) ∨ zeroFits v c = true := fit_of rfl
theorem ft78 : ∀ (i : Nat) (v : Value) (c : V), zv78.cells[i]? = some v → zc78[i]? = some c → c = .d (.s v) ∨ zeroFits v c = true := fit_of rfl
theorem ft84 : ∀ (i : Nat) (v : Value) (c : V), zv84.cells[i]? = some v → zc84[i]? = some c → c = .d (.s v) ∨ zeroFits v c = true := fit_of rfl
theorem ft100 : ∀ (i : Nat) (v : Value) (c : V), zv100.cells[i]? = some v → zc100[i]? = some c → c = .d (.s v) ∨ zeroFits v c = true := fit_of rfl
theorem ft118 : ∀ (i : Nat) (v : Value) (c : V), zv118.cells[i]? = some v → zc118[i]? = some c → c = .d (.s v) ∨ zeroFits v c = true := fit_of rfl
theorem mixed : Tryd.prog.follows .mixedOrders = true := by kernel_rfl
theorem onT3 : OneT Tryd.prog 3 := .mk' (by kernel_rfl : Tryd.prog.underlying 3 = some (.int .i64)) rfl (by kernel_rfl)
theorem onT4 : OneT Tryd.prog 4 := .mk' (by kernel_rfl : Tryd.prog.underlying 4 = some (.bool)) rfl (by kernel_rfl)
theorem onT9 : OneT Tryd.prog 9 := .mk' (by kernel_rfl : Tryd.prog.underlying 9 = some (.string)) rfl (by kernel_rfl)
theorem onT28 : OneT Tryd.prog 28 := .mk' (by kernel_rfl : Tryd.prog.underlying 28 = some (.slice 50)) rfl (by kernel_rfl)
theorem onT32 : OneT Tryd.prog 32 := .mk' (by kernel_rfl : Tryd.prog.underlying 32 = some (.int .i64)) rfl (by kernel_rfl)
theorem onT33 : OneT Tryd.prog 33 := .mk' (by kernel_rfl : Tryd.prog.underlying 33 = some (.slice 118)) rfl (by kernel_rfl)
theorem onT47 : OneT Tryd.prog 47 := .mk' (by kernel_rfl : Tryd.prog.underlying 47 = some (.slice 100)) rfl (by kernel_rfl)
theorem onT48 : OneT Tryd.prog 48 := .mk' (by kernel_rfl : Tryd.prog.underlying 48 = some (.slice 78)) rfl (by kernel_rfl)
theorem onT98 : OneT Tryd.prog 98 := .mk' (by kernel_rfl : Tryd.prog.underlying 98 = some (.slice 84)) rfl (by kernel_rfl)
theorem slT28 : SliceT Tryd.prog 28 50 17 := .mk' (by kernel_rfl) (by kernel_rfl)
theorem slT33 : SliceT Tryd.prog 33 118 2 := .mk' (by kernel_rfl) (by kernel_rfl)
theorem slT47 : SliceT Tryd.prog 47 100 2 := .mk' (by kernel_rfl) (by kernel_rfl)
theorem slT48 : SliceT Tryd.prog 48 78 11 := .mk' (by kernel_rfl) (by kernel_rfl)
theorem slT61 : SliceT Tryd.prog 61 3 1 := .mk' (by kernel_rfl) (by kernel_rfl)
theorem slT98 : SliceT Tryd.prog 98 84 5 := .mk' (by kernel_rfl) (by kernel_rfl)
theorem sz4 : ∀ w, (sizeOf 4).run Tryd.prog w = .ok 1 w := run_size (by kernel_rfl)
theorem sz9 : ∀ w, (sizeOf 9).run Tryd.prog w = .ok 1 w := run_size (by kernel_rfl)
theorem sz23 : ∀ w, (sizeOf 23).run Tryd.prog w = .ok 3 w := run_size (by kernel_rfl)
theorem sz28 : ∀ w, (sizeOf 28).run Tryd.prog w = .ok 1 w := run_size (by kernel_rfl)
theorem sz30 : ∀ w, (sizeOf 30).run Tryd.prog w = .ok 5 w := run_size (by kernel_rfl)
theorem sz32 : ∀ w, (sizeOf 32).run Tryd.prog w = .ok 1 w := run_size (by kernel_rfl)
theorem sz33 : ∀ w, (sizeOf 33).run Tryd.prog w = .ok 1 w := run_size (by kernel_rfl)
theorem sz35 : ∀ w, (sizeOf 35).run Tryd.prog w = .ok 9 w := run_size (by kernel_rfl)
theorem sz47 : ∀ w, (sizeOf 47).run Tryd.prog w = .ok 1 w := run_size (by kernel_rfl)
theorem sz48 : ∀ w, (sizeOf 48).run Tryd.prog w = .ok 1 w := run_size (by kernel_rfl)
theorem sz50 : ∀ w, (sizeOf 50).run Tryd.prog w = .ok 17 w := run_size (by kernel_rfl)
theorem sz78 : ∀ w, (sizeOf 78).run Tryd.prog w = .ok 11 w := run_size (by kernel_rfl)
theorem sz84 : ∀ w, (sizeOf 84).run Tryd.prog w = .ok 5 w := run_size (by kernel_rfl)
theorem sz98 : ∀ w, (sizeOf 98).run Tryd.prog w = .ok 1 w := run_size (by kernel_rfl)
theorem sz100 : ∀ w, (sizeOf 100).run Tryd.prog w = .ok 2 w := run_size (by kernel_rfl)
theorem und3 : Tryd.prog.underlying 3 = some (.int .i64) := by kernel_rfl
theorem und4 : Tryd.prog.underlying 4 = some (.bool) := by kernel_rfl
theorem und5 : Tryd.prog.underlying 5 = some (.int .u8) := by kernel_rfl
theorem und9 : Tryd.prog.underlying 9 = some (.string) := by kernel_rfl
theorem und21 : Tryd.prog.underlying 21 = some (.int .i32) := by kernel_rfl
theorem und28 : Tryd.prog.underlying 28 = some (.slice 50) := by kernel_rfl
theorem und33 : Tryd.prog.underlying 33 = some (.slice 118) := by kernel_rfl
theorem und47 : Tryd.prog.underlying 47 = some (.slice 100) := by kernel_rfl
theorem und48 : Tryd.prog.underlying 48 = some (.slice 78) := by kernel_rfl
theorem und98 : Tryd.prog.underlying 98 = some (.slice 84) := by kernel_rfl
theorem und122 : Tryd.prog.underlying 122 = some (.int .u64) := by kernel_rfl
theorem zr3 : ∀ w, (zeroValue 3).run Tryd.prog w = .ok (.int .i64 0) w := zero_of (by kernel_rfl)
theorem zr50 : ∀ w, (zeroValue 50).run Tryd.prog w = .ok (.agg #[.int .i64 0, .int .i64 0, .string ⟨#[]⟩, .string ⟨#[]⟩, .int .i64 0, .slice none 0 0, .int .i64 0, .int .i64 0, .int .i64 0, .int .i64 0, .int .i64 0, .int .i64 0, .slice none 0 0, .int .i64 0, .int .i64 0, .int .i64 0, .int .i64 0]) w := zero_of (by kernel_rfl)
theorem zr78 : ∀ w, (zeroValue 78).run Tryd.prog w = .ok (.agg #[.int .i64 0, .int .i64 0, .int .i64 0, .int .i64 0, .int .i64 0, .int .i64 0, .bool false, .string ⟨#[]⟩, .slice none 0 0, .string ⟨#[]⟩, .bool false]) w := zero_of (by kernel_rfl)
theorem zr84 : ∀ w, (zeroValue 84).run Tryd.prog w = .ok (.agg #[.int .i64 0, .int .i64 0, .int .i64 0, .bool false, .string ⟨#[]⟩]) w := zero_of (by kernel_rfl)
theorem zr100 : ∀ w, (zeroValue 100).run Tryd.prog w = .ok (.agg #[.string ⟨#[]⟩, .slice none 0 0]) w := zero_of (by kernel_rfl)
theorem zr118 : ∀ w, (zeroValue 118).run Tryd.prog w = .ok (.agg #[.string ⟨#[]⟩, .string ⟨#[]⟩]) w := zero_of (by kernel_rfl)
theorem zu23 : ∀ w, (zeroValue 23).run Tryd.prog w = .ok zv23 w := zero_of (by kernel_rfl)
theorem zu25 : ∀ w, (zeroValue 25).run Tryd.prog w = .ok zv25 w := zero_of (by kernel_rfl)
theorem zu30 : ∀ w, (zeroValue 30).run Tryd.prog w = .ok zv30 w := zero_of (by kernel_rfl)
theorem zu35 : ∀ w, (zeroValue 35).run Tryd.prog w = .ok zv35 w := zero_of (by kernel_rfl)
theorem zu50 : ∀ w, (zeroValue 50).run Tryd.prog w = .ok zv50 w := zero_of (by kernel_rfl)
theorem zu78 : ∀ w, (zeroValue 78).run Tryd.prog w = .ok zv78 w := zero_of (by kernel_rfl)
theorem zu84 : ∀ w, (zeroValue 84).run Tryd.prog w = .ok zv84 w := zero_of (by kernel_rfl)
theorem zu100 : ∀ w, (zeroValue 100).run Tryd.prog w = .ok zv100 w := zero_of (by kernel_rfl)
theorem zu118 : ∀ w, (zeroValue 118).run Tryd.prog w = .ok zv118 w := zero_of (by kernel_rfl)
theorem zw23 : BuildT Tryd.prog 23 zv23 #[(0, 1), (1, 1), (2, 1)] := .mk2 (pl := [(0, 1), (1, 1), (2, 1)]) zu23 (by kernel_rfl)
theorem zw25 : BuildT Tryd.prog 25 zv25 #[(0, 1), (1, 1), (2, 1), (3, 1), (4, 1), (5, 1), (6, 1), (7, 3), (10, 1), (11, 1)] := .mk2 (pl := [(0, 1), (1, 1), (2, 1), (3, 1), (4, 1), (5, 1), (6, 1), (7, 3), (10, 1), (11, 1)]) zu25 (by kernel_rfl)
theorem zw30 : BuildT Tryd.prog 30 zv30 #[(0, 1), (1, 3), (4, 1)] := .mk2 (pl := [(0, 1), (1, 3), (4, 1)]) zu30 (by kernel_rfl)
theorem zw35 : BuildT Tryd.prog 35 zv35 #[(0, 1), (1, 3), (4, 1), (5, 1), (6, 1), (7, 1), (8, 1)] := .mk2 (pl := [(0, 1), (1, 3), (4, 1), (5, 1), (6, 1), (7, 1), (8, 1)]) zu35 (by kernel_rfl)
theorem zw50 : BuildT Tryd.prog 50 zv50 #[(0, 1), (1, 1), (2, 2), (4, 1), (5, 1), (6, 3), (9, 3), (12, 1), (13, 1), (14, 1), (15, 1), (16, 1)] := .mk2 (pl := [(0, 1), (1, 1), (2, 2), (4, 1), (5, 1), (6, 3), (9, 3), (12, 1), (13, 1), (14, 1), (15, 1), (16, 1)]) zu50 (by kernel_rfl)
theorem zw78 : BuildT Tryd.prog 78 zv78 #[(0, 1), (1, 1), (2, 9)] := .mk2 (pl := [(0, 1), (1, 1), (2, 9)]) zu78 (by kernel_rfl)
theorem zw84 : BuildT Tryd.prog 84 zv84 #[(0, 3), (3, 1), (4, 1)] := .mk2 (pl := [(0, 3), (3, 1), (4, 1)]) zu84 (by kernel_rfl)
theorem zw100 : BuildT Tryd.prog 100 zv100 #[(0, 1), (1, 1)] := .mk2 (pl := [(0, 1), (1, 1)]) zu100 (by kernel_rfl)
theorem zw118 : BuildT Tryd.prog 118 zv118 #[(0, 1), (1, 1)] := .mk2 (pl := [(0, 1), (1, 1)]) zu118 (by kernel_rfl)
set_option maxRecDepth 100000 in
set_option maxHeartbeats 4000000 in
theorem s31 (k : Nat) (t0 : Int) (t1 : Int) (r : Bool) (h : F31 k t0 t1 = some r) : Awp.Spec Tryd.prog amb 31 [(.s (.int .i64 t0)), (.dp [(.s (.int .i64 t1))])] (.ds [(.s (.bool r))]) := by
  rw [F31] at h
  refine spec_of Tryd.func31 rfl (ble _ _ rfl) fun w0 ok0 lt0 hA => ?_
  refine ht_seq ?_
  refine ht_region ?_
  refine sq_cons ⟨_, [(.t 3, bV false)]⟩ (v_move (.inr rfl) trivial rfl (ble _ _ rfl) rfl) ?_
  refine sq_nil ?_
  refine ht_seq ?_
  refine ht_region ?_
  refine sq_cons ⟨_, [(.t 4, iV t0)]⟩ (v_move (.inl rfl) trivial rfl (ble _ _ rfl) rfl) ?_
  refine sq_cons ⟨_, [(.t 5, iV t1)]⟩ (v_load_dp1 rfl trivial rfl (ble _ _ rfl) onT3 rfl rfl) ?_
  refine sq_cons ⟨_, [(.t 6, bV (ltI t0 t1))]⟩ (v_bin rfl trivial rfl (ble _ _ rfl) rfl rfl (b_lss rfl)) ?_
  refine sq_cons ⟨_, [(.t 7, bV (ltI t0 t1))]⟩ (v_move (.inl rfl) trivial rfl (ble _ _ rfl) rfl) ?_
  refine sq_cons ⟨_, [(.t 8, mg (!(ltI t0 t1)) (iV t0))]⟩ (v_cF rfl rfl rfl (ble _ _ rfl) rfl fun e1 => (v_move (.inl rfl) ⟨_, rfl, be e1⟩ rfl (ble _ _ rfl) rfl)) ?_
  refine sq_cons ⟨_, [(.t 9, mg (!(ltI t0 t1)) (bV (ltI 1099511627776 t0)))]⟩ (v_cF rfl rfl rfl (ble _ _ rfl) rfl fun e2 => (v_bin rfl ⟨_, rfl, be e2⟩ rfl (ble _ _ rfl) (gv (nF e2)) rfl (b_gtr rfl))) ?_
  refine sq_cons ⟨_, [(.t 10, bV ((ltI t0 t1) || (ltI 1099511627776 t0)))]⟩ (v_pickB rfl trivial rfl (ble _ _ rfl) rfl (fun e3 => rfl) (fun e4 => (gv (nF e4))) (pO _ _)) ?_
  refine sq_cons ⟨_, [(.t 3, bV ((ltI t0 t1) || (ltI 1099511627776 t0)))]⟩ (v_move (.inr rfl) trivial rfl (ble _ _ rfl) rfl) ?_
  refine sq_nil ?_
  refine ht_ret ?_
  cases h
  exact ret1 rfl (.tmp rfl)
set_option maxRecDepth 100000 in
set_option maxHeartbeats 4000000 in
theorem s55_31 (k : Nat) (t0 : List Int) (t1u0 : Int) (r : Int) (h : F55_31 k t0 t1u0 = some r) : Awp.Spec Tryd.prog amb 55 [(.sl 1 (t0.map (eI .i64))), (.fn 31 [(.dp [(.s (.int .i64 t1u0))])])] (.ds [(.s (.int .i64 r))]) := by
  rw [F55_31] at h
  refine spec_of Tryd.func55 rfl (ble _ _ rfl) fun w0 ok0 lt0 hA => ?_
  refine ht_seq ?_
  refine ht_region ?_
  refine sq_cons ⟨_, [(.t 4, iV 0)]⟩ (v_move (.inr rfl) trivial rfl (ble _ _ rfl) rfl) ?_
  refine sq_nil ?_
  refine ht_gj (go_id' h) (fun _ => tell []) (fun _ h => ?_) (fun v1 K2 h j4 r5 => ?_)
  · refine ht_seq ?_
    refine ht_region ?_
    refine sq_cons ⟨_, [(.t 4, iV (-1))]⟩ (v_move (.inr rfl) trivial rfl (ble _ _ rfl) rfl) ?_
    refine sq_nil ?_
    refine ht_ret ?_
    cases h
    exact ret1 rfl (.tmp rfl)
  · refine ht_seq ?_
    refine ht_region ?_
    refine sq_cons ⟨_, [(.t 6, .d (.sl 1 (t0.map (eI .i64))))]⟩ (v_move (.inl rfl) trivial rfl (ble _ _ rfl) rfl) ?_
    refine sq_cons ⟨_, [(.t 7, iV (t0.length : Int))]⟩ (w_len t0 (eI .i64) rfl rfl trivial rfl (ble _ _ rfl) slT61 rfl) ?_
    refine sq_cons ⟨_, [(.t 8, iV 0)]⟩ (v_move (.inl rfl) trivial rfl (ble _ _ rfl) rfl) ?_
    refine sq_nil ?_
    refine ht_block ?_
    refine ht_rd h (fun _ => rfl) (fun t8 => tell [(.t 0, .d (.sl 1 (t0.map (eI .i64)))), (.t 1, .d (.fn 31 [(.dp [(.s (.int .i64 t1u0))])])), (.t 7, iV (t0.length : Int)), (.t 8, iV t8)]) (wk_ren _ (fun i => i) rfl ⟨rfl, rfl, rfl, rfl, trivial⟩) fun k t8 h K13 j7 => ?_
    rw [F55_31_l1] at h
    refine ht_seq ?_
    refine ht_region ?_
    refine sq_cons ⟨_, [(.t 9, bV (ltI t8 (t0.length : Int)))]⟩ (v_bin rfl trivial rfl (ble _ _ rfl) rfl rfl (b_lss rfl)) ?_
    refine sq_nil ?_
    refine ht_seq ?_
    refine ht_cond (b := (ltI t8 (t0.length : Int))) rfl (fun e9 => ?_) (fun e9 => ?_)
    · replace h := cpos e9 h
      refine ht_skip ?_
      refine ht_seq ?_
      refine ht_block ?_
      refine ht_seq ?_
      refine ht_region ?_
      refine sq_cons ⟨_, [(.t 10, iV t8)]⟩ (v_move (.inl rfl) trivial rfl (ble _ _ rfl) rfl) ?_
      refine sq_cons ⟨_, [(.t 5, iV t8)]⟩ (v_move (.inr rfl) trivial rfl (ble _ _ rfl) rfl) ?_
      refine sq_nil ?_
      refine ht_seq ?_
      refine ht_region ?_
      refine sq_cons ⟨_, [(.t 11, .d (.fn 31 [(.dp [(.s (.int .i64 t1u0))])]))]⟩ (v_move (.inl rfl) trivial rfl (ble _ _ rfl) rfl) ?_
      refine sq_cons ⟨_, [(.t 12, .d (.sl 1 (t0.map (eI .i64))))]⟩ (v_move (.inl rfl) trivial rfl (ble _ _ rfl) rfl) ?_
      refine sq_cons ⟨_, [(.t 13, iV t8)]⟩ (v_move (.inl rfl) trivial rfl (ble _ _ rfl) rfl) ?_
      obtain ⟨e10, h⟩ := gpos h
      refine sq_cons ⟨_, [(.t 14, .d (.dp [(.s (.int .i64 (rd t0 t8)))]))]⟩ (w_idx t0 (eI .i64) rfl trivial rfl (ble _ _ rfl) slT61 rfl rfl e10) ?_
      refine sq_cons ⟨_, [(.t 15, iV (rd t0 t8))]⟩ (v_load_dp1 rfl trivial rfl (ble _ _ rfl) onT3 rfl rfl) ?_
      obtain ⟨t16, c11, h⟩ := bpos h
      refine sq_cons ⟨_, [(.t 16, bV t16)]⟩ (w_call (ds := [(.s (.int .i64 (rd t0 t8)))]) (caps := [(.dp [(.s (.int .i64 t1u0))])]) (l := [(.s (.bool t16))]) (s31 k (rd t0 t8) t1u0 _ c11) rfl rfl rfl en31 trivial rfl (ble _ _ rfl) (.inr rfl) rfl rfl) ?_
      refine sq_nil ?_
      refine ht_cond (b := t16) rfl (fun e12 => ?_) (fun e12 => ?_)
      · replace h := cpos e12 h
        refine ht_seq ?_
        refine ht_region ?_
        refine sq_cons ⟨_, [(.t 17, iV t8)]⟩ (v_move (.inl rfl) trivial rfl (ble _ _ rfl) rfl) ?_
        refine sq_cons ⟨_, [(.t 4, iV t8)]⟩ (v_move (.inr rfl) trivial rfl (ble _ _ rfl) rfl) ?_
        refine sq_nil ?_
        refine ht_ret ?_
        cases h
        cases r5 _ rfl
        exact ret1 rfl (.tmp rfl)
      · replace h := cneg e12 h
        refine ht_skip ?_
        refine ht_region ?_
        refine sq_cons ⟨_, [(.t 18, iV (IntKind.wrap .i64 (t8 + 1)))]⟩ (v_bin rfl trivial rfl (ble _ _ rfl) rfl rfl (b_add rfl)) ?_
        refine sq_cons ⟨_, [(.t 8, iV (IntKind.wrap .i64 (t8 + 1)))]⟩ (v_move (.inl rfl) trivial rfl (ble _ _ rfl) rfl) ?_
        refine sq_nil ?_
        exact j7 _ _ h (wk_ren _ (fun i => i) rfl ⟨rfl, rfl, rfl, rfl, trivial⟩)
    · replace h := cneg e9 h
      refine ht_exit ?_
      refine tq ?_
      refine tq ?_
      refine bq_hit ?_
      cases h
      exact j4 _ _ rfl (wk_ren _ (fun i => i) rfl trivial)
set_option maxRecDepth 100000 in
set_option maxHeartbeats 4000000 in
theorem s30_31 (k : Nat) (t0 : List Int) (t1u0 : Int) (r : Bool) (h : F30_31 k t0 t1u0 = some r) : Awp.Spec Tryd.prog amb 30 [(.sl 1 (t0.map (eI .i64))), (.fn 31 [(.dp [(.s (.int .i64 t1u0))])])] (.ds [(.s (.bool r))]) := by
  rw [F30_31] at h
  refine spec_of Tryd.func30 rfl (ble _ _ rfl) fun w0 ok0 lt0 hA => ?_
  refine ht_seq ?_
  refine ht_region ?_
  refine sq_cons ⟨_, [(.t 4, bV false)]⟩ (v_move (.inr rfl) trivial rfl (ble _ _ rfl) rfl) ?_
  refine sq_nil ?_
  refine ht_seq ?_
  refine ht_region ?_
  refine sq_cons ⟨_, [(.t 5, .d (.sl 1 (t0.map (eI .i64))))]⟩ (v_move (.inl rfl) trivial rfl (ble _ _ rfl) rfl) ?_
  refine sq_cons ⟨_, [(.t 6, .d (.fn 31 [(.dp [(.s (.int .i64 t1u0))])]))]⟩ (v_move (.inl rfl) trivial rfl (ble _ _ rfl) rfl) ?_
  obtain ⟨t7, c1, h⟩ := bpos h
  refine sq_cons ⟨_, [(.t 7, iV t7)]⟩ (w_call (ds := [(.sl 1 (t0.map (eI .i64))), (.fn 31 [(.dp [(.s (.int .i64 t1u0))])])]) (caps := []) (l := [(.s (.int .i64 t7))]) (s55_31 k t0 t1u0 _ c1) rfl rfl rfl en55 trivial rfl (ble _ _ rfl) (.inl ⟨rfl, rfl⟩) rfl rfl) ?_
  refine sq_cons ⟨_, [(.t 8, bV (leI 0 t7))]⟩ (v_bin rfl trivial rfl (ble _ _ rfl) rfl rfl (b_geq rfl)) ?_
  refine sq_cons ⟨_, [(.t 4, bV (leI 0 t7))]⟩ (v_move (.inr rfl) trivial rfl (ble _ _ rfl) rfl) ?_
  refine sq_nil ?_
  refine ht_ret ?_
  cases h
  exact ret1 rfl (.tmp rfl)
set_option maxRecDepth 100000 in
set_option maxHeartbeats 4000000 in
theorem s12 (k : Nat) (t0 : Int) (t1 : List Int) (r : Bool) (h : F12 k t0 t1 = some r) : Awp.Spec Tryd.prog amb 12 [(.s (.int .i64 t0)), (.sl 1 (t1.map (eI .i64)))] (.ds [(.s (.bool r))]) := by
  rw [F12] at h
  refine spec_of Tryd.func12 rfl (ble _ _ rfl) fun w0 ok0 lt0 hA => ?_
  refine ht_seq ?_
  refine ht_region ?_
  refine sq_cons ⟨_, [(.t 2, .d (.dp [(.s (.int .i64 t0))]))]⟩ (v_box_d (cs := [(.s (.int .i64 t0))]) rfl trivial rfl (ble _ _ rfl) rfl rfl (ones_of rfl)) ?_
  refine sq_cons ⟨_, [(.t 4, bV false)]⟩ (v_move (.inr rfl) trivial rfl (ble _ _ rfl) rfl) ?_
  refine sq_nil ?_
  refine ht_seq ?_
  refine ht_region ?_
  refine sq_cons ⟨_, [(.t 5, .d (.sl 1 (t1.map (eI .i64))))]⟩ (v_move (.inl rfl) trivial rfl (ble _ _ rfl) rfl) ?_
  refine sq_cons ⟨_, [(.t 6, .d (.fn 31 [(.dp [(.s (.int .i64 t0))])]))]⟩ (v_func_d (ds := [(.dp [(.s (.int .i64 t0))])]) rfl trivial rfl (ble _ _ rfl) rfl) ?_
  obtain ⟨t7, c1, h⟩ := bpos h
  refine sq_cons ⟨_, [(.t 7, bV t7)]⟩ (w_call (ds := [(.sl 1 (t1.map (eI .i64))), (.fn 31 [(.dp [(.s (.int .i64 t0))])])]) (caps := []) (l := [(.s (.bool t7))]) (s30_31 k t1 t0 _ c1) rfl rfl rfl en30 trivial rfl (ble _ _ rfl) (.inl ⟨rfl, rfl⟩) rfl rfl) ?_
  refine sq_cons ⟨_, [(.t 8, bV (!t7))]⟩ (v_un rfl trivial rfl (ble _ _ rfl) rfl (u_not rfl)) ?_
  refine sq_cons ⟨_, [(.t 4, bV (!t7))]⟩ (v_move (.inr rfl) trivial rfl (ble _ _ rfl) rfl) ?_
  refine sq_nil ?_
  refine ht_ret ?_
  cases h
  exact ret1 rfl (.tmp rfl)
set_option maxRecDepth 100000 in
set_option maxHeartbeats 4000000 in
theorem s32 (k : Nat) (t0 : Int) (t1 : Int) (r : Bool) (h : F32 k t0 t1 = some r) : Awp.Spec Tryd.prog amb 32 [(.s (.int .i64 t0)), (.s (.int .i64 t1))] (.ds [(.s (.bool r))]) := by
  rw [F32] at h
  refine spec_of Tryd.func32 rfl (ble _ _ rfl) fun w0 ok0 lt0 hA => ?_
  refine ht_seq ?_
  refine ht_region ?_
  refine sq_cons ⟨_, [(.t 4, bV false)]⟩ (v_move (.inr rfl) trivial rfl (ble _ _ rfl) rfl) ?_
  refine sq_nil ?_
  refine ht_seq ?_
  refine ht_region ?_
  refine sq_cons ⟨_, [(.t 5, iV t0)]⟩ (v_move (.inl rfl) trivial rfl (ble _ _ rfl) rfl) ?_
  refine sq_cons ⟨_, [(.t 6, bV (leI 0 t0))]⟩ (v_bin rfl trivial rfl (ble _ _ rfl) rfl rfl (b_geq rfl)) ?_
  refine sq_cons ⟨_, [(.t 7, bV (leI 0 t0))]⟩ (v_move (.inl rfl) trivial rfl (ble _ _ rfl) rfl) ?_
  refine sq_cons ⟨_, [(.t 8, mg (leI 0 t0) (iV t0))]⟩ (v_cT rfl rfl rfl (ble _ _ rfl) rfl fun e1 => (v_move (.inl rfl) ⟨_, rfl, be e1⟩ rfl (ble _ _ rfl) rfl)) ?_
  refine sq_cons ⟨_, [(.t 9, mg (leI 0 t0) (iV t1))]⟩ (v_cT rfl rfl rfl (ble _ _ rfl) rfl fun e2 => (v_move (.inl rfl) ⟨_, rfl, be e2⟩ rfl (ble _ _ rfl) rfl)) ?_
  refine sq_cons ⟨_, [(.t 10, mg (leI 0 t0) (bV (leI t0 t1)))]⟩ (v_cT rfl rfl rfl (ble _ _ rfl) rfl fun e3 => (v_bin rfl ⟨_, rfl, be e3⟩ rfl (ble _ _ rfl) (gv e3) (gv e3) (b_leq rfl))) ?_
  refine sq_cons ⟨_, [(.t 11, bV ((leI 0 t0) && (leI t0 t1)))]⟩ (v_pickB rfl trivial rfl (ble _ _ rfl) rfl (fun e4 => (gv e4)) (fun e5 => rfl) (pA _ _)) ?_
  refine sq_cons ⟨_, [(.t 4, bV ((leI 0 t0) && (leI t0 t1)))]⟩ (v_move (.inr rfl) trivial rfl (ble _ _ rfl) rfl) ?_
  refine sq_nil ?_
  refine ht_ret ?_
  cases h
  exact ret1 rfl (.tmp rfl)
set_option maxRecDepth 100000 in
set_option maxHeartbeats 4000000 in
theorem s13 (k : Nat) (t0 : Stamp) (r : Bool) (h : F13 k t0 = some r) : Awp.Spec Tryd.prog amb 13 [(.agg (eStamp t0))] (.ds [(.s (.bool r))]) := by
  rw [F13] at h
  refine spec_of Tryd.func13 rfl (ble _ _ rfl) fun w0 ok0 lt0 hA => ?_
  refine ht_seq ?_
  refine ht_region ?_
  refine sq_cons ⟨_, [(.t 1, .d (.dp (eStamp t0)))]⟩ (v_box_d (cs := (eStamp t0)) rfl trivial rfl (ble _ _ rfl) rfl rfl (ones_of rfl)) ?_
  refine sq_cons ⟨_, [(.t 2, bV false)]⟩ (v_move (.inr rfl) trivial rfl (ble _ _ rfl) rfl) ?_
  refine sq_nil ?_
  refine ht_seq ?_
  refine ht_region ?_
  refine sq_cons ⟨_, [(.t 3, .d (.dp (eStamp t0)))]⟩ (v_field_dp (a0 := 0) (cs := (eStamp t0)) rfl trivial rfl (ble _ _ rfl) fo23_0 rfl) ?_
  refine sq_cons ⟨_, [(.t 4, iV t0.mWall)]⟩ (v_load_dp1 rfl trivial rfl (ble _ _ rfl) onT3 rfl rfl) ?_
  obtain ⟨t5, c1, h⟩ := bpos h
  refine sq_cons ⟨_, [(.t 5, bV t5)]⟩ (w_call (ds := [(.s (.int .i64 t0.mWall)), (.s (.int .i64 1099511627776))]) (caps := []) (l := [(.s (.bool t5))]) (s32 k t0.mWall 1099511627776 _ c1) rfl rfl rfl en32 trivial rfl (ble _ _ rfl) (.inl ⟨rfl, rfl⟩) rfl rfl) ?_
  refine sq_cons ⟨_, [(.t 6, bV t5)]⟩ (v_move (.inl rfl) trivial rfl (ble _ _ rfl) rfl) ?_
  refine sq_cons ⟨_, [(.t 7, mg t5 (.d (.dp (List.drop 1 (eStamp t0)))))]⟩ (v_cT rfl rfl rfl (ble _ _ rfl) rfl fun e2 => (v_field_dp (a0 := 1) (cs := (eStamp t0)) rfl ⟨_, rfl, be e2⟩ rfl (ble _ _ rfl) fo23_1 rfl)) ?_
  refine sq_cons ⟨_, [(.t 8, mg t5 (iV t0.mTick))]⟩ (v_cT rfl rfl rfl (ble _ _ rfl) rfl fun e3 => (v_load_dp1 rfl ⟨_, rfl, be e3⟩ rfl (ble _ _ rfl) onT3 (gv e3) rfl)) ?_
  obtain ⟨t9, c5, h⟩ := bpos h
  refine sq_cons ⟨_, [(.t 9, mg t5 (bV t9))]⟩ (v_cT rfl rfl rfl (ble _ _ rfl) rfl fun e4 => (w_call (ds := [(.s (.int .i64 t0.mTick)), (.s (.int .i64 1048576))]) (caps := []) (l := [(.s (.bool t9))]) (s32 k t0.mTick 1048576 _ (cpos e4 c5)) rfl rfl rfl en32 ⟨_, rfl, be e4⟩ rfl (ble _ _ rfl) (.inl ⟨rfl, rfl⟩) (cc (gv e4) (cc rfl rfl)) rfl)) ?_
  refine sq_cons ⟨_, [(.t 10, bV (t5 && t9))]⟩ (v_pickB rfl trivial rfl (ble _ _ rfl) rfl (fun e6 => (gv e6)) (fun e7 => rfl) (pA _ _)) ?_
  refine sq_cons ⟨_, [(.t 11, bV (t5 && t9))]⟩ (v_move (.inl rfl) trivial rfl (ble _ _ rfl) rfl) ?_
  refine sq_cons ⟨_, [(.t 12, mg (t5 && t9) (.d (.dp (List.drop 2 (eStamp t0)))))]⟩ (v_cT rfl rfl rfl (ble _ _ rfl) rfl fun e8 => (v_field_dp (a0 := 2) (cs := (eStamp t0)) rfl ⟨_, rfl, be e8⟩ rfl (ble _ _ rfl) fo23_2 rfl)) ?_
  refine sq_cons ⟨_, [(.t 13, mg (t5 && t9) (iV t0.mNode))]⟩ (v_cT rfl rfl rfl (ble _ _ rfl) rfl fun e9 => (v_load_dp1 rfl ⟨_, rfl, be e9⟩ rfl (ble _ _ rfl) onT3 (gv e9) rfl)) ?_
  obtain ⟨t14, c11, h⟩ := bpos h
  refine sq_cons ⟨_, [(.t 14, mg (t5 && t9) (bV t14))]⟩ (v_cT rfl rfl rfl (ble _ _ rfl) rfl fun e10 => (w_call (ds := [(.s (.int .i64 t0.mNode)), (.s (.int .i64 255))]) (caps := []) (l := [(.s (.bool t14))]) (s32 k t0.mNode 255 _ (cpos e10 c11)) rfl rfl rfl en32 ⟨_, rfl, be e10⟩ rfl (ble _ _ rfl) (.inl ⟨rfl, rfl⟩) (cc (gv e10) (cc rfl rfl)) rfl)) ?_
  refine sq_cons ⟨_, [(.t 15, bV ((t5 && t9) && t14))]⟩ (v_pickB rfl trivial rfl (ble _ _ rfl) rfl (fun e12 => (gv e12)) (fun e13 => rfl) (pA _ _)) ?_
  refine sq_cons ⟨_, [(.t 2, bV ((t5 && t9) && t14))]⟩ (v_move (.inr rfl) trivial rfl (ble _ _ rfl) rfl) ?_
  refine sq_nil ?_
  refine ht_ret ?_
  cases h
  exact ret1 rfl (.tmp rfl)
set_option maxRecDepth 100000 in
set_option maxHeartbeats 4000000 in
theorem s33 (k : Nat) (t0 : ByteArray) (r : Int × Int) (h : F33 k t0 = some r) : Awp.Spec Tryd.prog amb 33 [(.s (.string t0))] (.ds [(.s (.int .i32 r.1)), (.s (.int .i64 r.2))]) := by
  rw [F33] at h
  refine spec_of Tryd.func33 rfl (ble _ _ rfl) fun w0 ok0 lt0 hA => ?_
  refine ht_seq ?_
  refine ht_region ?_
  refine sq_cons ⟨_, [(.t 2, nV .i32 0)]⟩ (v_move (.inr rfl) trivial rfl (ble _ _ rfl) rfl) ?_
  refine sq_cons ⟨_, [(.t 3, iV 0)]⟩ (v_move (.inr rfl) trivial rfl (ble _ _ rfl) rfl) ?_
  refine sq_nil ?_
  refine ht_seq ?_
  refine ht_seq ?_
  refine ht_region ?_
  refine sq_cons ⟨_, [(.t 4, sV t0)]⟩ (v_move (.inl rfl) trivial rfl (ble _ _ rfl) rfl) ?_
  refine sq_cons ⟨_, [(.t 5, bV (!strEq t0 (⟨#[]⟩ : ByteArray)))]⟩ (v_bin rfl trivial rfl (ble _ _ rfl) rfl rfl (b_neS rfl)) ?_
  refine sq_cons ⟨_, [(.t 6, bV (!strEq t0 (⟨#[]⟩ : ByteArray)))]⟩ (v_move (.inl rfl) trivial rfl (ble _ _ rfl) rfl) ?_
  refine sq_cons ⟨_, [(.t 7, mg (!strEq t0 (⟨#[]⟩ : ByteArray)) (sV t0))]⟩ (v_cT rfl rfl rfl (ble _ _ rfl) rfl fun e1 => (v_move (.inl rfl) ⟨_, rfl, be e1⟩ rfl (ble _ _ rfl) rfl)) ?_
  obtain ⟨e3, h⟩ := gpos h
  refine sq_cons ⟨_, [(.t 8, mg (!strEq t0 (⟨#[]⟩ : ByteArray)) (nV .u8 (bt t0 0)))]⟩ (v_cT rfl rfl rfl (ble _ _ rfl) rfl fun e2 => (v_index rfl ⟨_, rfl, be e2⟩ rfl (ble _ _ rfl) (gv e2) rfl (i_str und9 (orT e3 e2) rfl))) ?_
  refine sq_cons ⟨_, [(.t 9, mg (!strEq t0 (⟨#[]⟩ : ByteArray)) (bV (ltI (bt t0 0) 128)))]⟩ (v_cT rfl rfl rfl (ble _ _ rfl) rfl fun e4 => (v_bin rfl ⟨_, rfl, be e4⟩ rfl (ble _ _ rfl) (gv e4) rfl (b_lss rfl))) ?_
  refine sq_cons ⟨_, [(.t 10, bV ((!strEq t0 (⟨#[]⟩ : ByteArray)) && (ltI (bt t0 0) 128)))]⟩ (v_pickB rfl trivial rfl (ble _ _ rfl) rfl (fun e5 => (gv e5)) (fun e6 => rfl) (pA _ _)) ?_
  refine sq_nil ?_
  refine ht_cond (b := ((!strEq t0 (⟨#[]⟩ : ByteArray)) && (ltI (bt t0 0) 128))) rfl (fun e7 => ?_) (fun e7 => ?_)
  · replace h := cpos e7 h
    refine ht_seq ?_
    refine ht_region ?_
    refine sq_cons ⟨_, [(.t 11, sV t0)]⟩ (v_move (.inl rfl) trivial rfl (ble _ _ rfl) rfl) ?_
    obtain ⟨e8, h⟩ := gpos h
    refine sq_cons ⟨_, [(.t 12, nV .u8 (bt t0 0))]⟩ (v_index rfl trivial rfl (ble _ _ rfl) rfl rfl (i_str und9 e8 rfl)) ?_
    refine sq_cons ⟨_, [(.t 13, nV .i32 (IntKind.wrap .i32 (bt t0 0)))]⟩ (v_conv rfl trivial rfl (ble _ _ rfl) rfl (c_int und5 und21 rfl)) ?_
    refine sq_cons ⟨_, [(.t 2, nV .i32 (IntKind.wrap .i32 (bt t0 0)))]⟩ (v_move (.inr rfl) trivial rfl (ble _ _ rfl) rfl) ?_
    refine sq_cons ⟨_, [(.t 3, iV 1)]⟩ (v_move (.inr rfl) trivial rfl (ble _ _ rfl) rfl) ?_
    refine sq_nil ?_
    refine ht_ret ?_
    cases h
    exact ret2 rfl (.tmp rfl) (.tmp rfl)
  · replace h := cneg e7 h
    refine ht_region ?_
    refine sq_cons ⟨_, [(.t 15, sV t0)]⟩ (v_move (.inl rfl) trivial rfl (ble _ _ rfl) rfl) ?_
    obtain ⟨⟨t16a, t16b⟩, c9, h⟩ := bpos h
    refine sq_cons ⟨_, [(.t 16, .tup [nV .i32 t16a, iV t16b])]⟩ (w_call (ds := [(.s (.string t0))]) (caps := []) (l := [(.s (.int .i32 t16a)), (.s (.int .i64 t16b))]) (s56 k t0 _ c9) rfl rfl rfl en56 trivial rfl (ble _ _ rfl) (.inl ⟨rfl, rfl⟩) rfl rfl) ?_
    refine sq_cons ⟨_, [(.t 14, .tup [nV .i32 t16a, iV t16b])]⟩ (v_move (.inl rfl) trivial rfl (ble _ _ rfl) rfl) ?_
    refine sq_cons ⟨_, [(.t 17, nV .i32 t16a)]⟩ (v_extract rfl trivial rfl (ble _ _ rfl) rfl rfl) ?_
    refine sq_cons ⟨_, [(.t 18, iV t16b)]⟩ (v_extract rfl trivial rfl (ble _ _ rfl) rfl rfl) ?_
    refine sq_cons ⟨_, [(.t 2, nV .i32 t16a)]⟩ (v_move (.inr rfl) trivial rfl (ble _ _ rfl) rfl) ?_
    refine sq_cons ⟨_, [(.t 3, iV t16b)]⟩ (v_move (.inr rfl) trivial rfl (ble _ _ rfl) rfl) ?_
    refine sq_nil ?_
    refine ht_ret ?_
    cases h
    exact ret2 rfl (.tmp rfl) (.tmp rfl)
set_option maxRecDepth 100000 in
set_option maxHeartbeats 4000000 in
theorem s34 (k : Nat) (t0 : Int) (t1 : Int) (r : Bool) (h : F34 k t0 t1 = some r) : Awp.Spec Tryd.prog amb 34 [(.s (.int .i32 t0)), (.s (.int .i64 t1))] (.ds [(.s (.bool r))]) := by
  rw [F34] at h
  refine spec_of Tryd.func34 rfl (ble _ _ rfl) fun w0 ok0 lt0 hA => ?_
  refine ht_seq ?_
  refine ht_region ?_
  refine sq_cons ⟨_, [(.t 4, bV false)]⟩ (v_move (.inr rfl) trivial rfl (ble _ _ rfl) rfl) ?_
  refine sq_nil ?_
  refine ht_seq ?_
  refine ht_region ?_
  refine sq_cons ⟨_, [(.t 5, nV .i32 t0)]⟩ (v_move (.inl rfl) trivial rfl (ble _ _ rfl) rfl) ?_
  refine sq_cons ⟨_, [(.t 6, bV (leI 33 t0))]⟩ (v_bin rfl trivial rfl (ble _ _ rfl) rfl rfl (b_geq rfl)) ?_
  refine sq_cons ⟨_, [(.t 7, bV (leI 33 t0))]⟩ (v_move (.inl rfl) trivial rfl (ble _ _ rfl) rfl) ?_
  refine sq_cons ⟨_, [(.t 8, mg (leI 33 t0) (nV .i32 t0))]⟩ (v_cT rfl rfl rfl (ble _ _ rfl) rfl fun e1 => (v_move (.inl rfl) ⟨_, rfl, be e1⟩ rfl (ble _ _ rfl) rfl)) ?_
  refine sq_cons ⟨_, [(.t 9, mg (leI 33 t0) (bV (ltI t0 127)))]⟩ (v_cT rfl rfl rfl (ble _ _ rfl) rfl fun e2 => (v_bin rfl ⟨_, rfl, be e2⟩ rfl (ble _ _ rfl) (gv e2) rfl (b_lss rfl))) ?_
  refine sq_cons ⟨_, [(.t 10, mg (leI 33 t0) (bV (ltI t0 127)))]⟩ (v_cT rfl rfl rfl (ble _ _ rfl) rfl fun e3 => (v_move (.inl rfl) ⟨_, rfl, be e3⟩ rfl (ble _ _ rfl) (gv e3))) ?_
  refine sq_cons ⟨_, [(.t 11, mg ((leI 33 t0) && (!(ltI t0 127))) (nV .i32 t0))]⟩ (v_mF rfl rfl rfl (ble _ _ rfl) rfl fun e4 e5 => (v_move (.inl rfl) ⟨_, rfl, bm e4 e5⟩ rfl (ble _ _ rfl) rfl)) ?_
  refine sq_cons ⟨_, [(.t 12, mg ((leI 33 t0) && (!(ltI t0 127))) (bV (ltI 159 t0)))]⟩ (v_mF rfl rfl rfl (ble _ _ rfl) rfl fun e6 e7 => (v_bin rfl ⟨_, rfl, bm e6 e7⟩ rfl (ble _ _ rfl) (gv (aT e6 (nF e7))) rfl (b_gtr rfl))) ?_
  refine sq_cons ⟨_, [(.t 13, mg (leI 33 t0) (bV ((ltI t0 127) || (ltI 159 t0))))]⟩ (v_cT rfl rfl rfl (ble _ _ rfl) rfl fun e8 => (v_pickB rfl ⟨_, rfl, be e8⟩ rfl (ble _ _ rfl) (gv e8) (fun e9 => rfl) (fun e10 => (gv (aT e8 (nF e10)))) (pO _ _))) ?_
  refine sq_cons ⟨_, [(.t 14, bV ((leI 33 t0) && ((ltI t0 127) || (ltI 159 t0))))]⟩ (v_pickB rfl trivial rfl (ble _ _ rfl) rfl (fun e11 => (gv e11)) (fun e12 => rfl) (pA _ _)) ?_
  refine sq_cons ⟨_, [(.t 15, bV ((leI 33 t0) && ((ltI t0 127) || (ltI 159 t0))))]⟩ (v_move (.inl rfl) trivial rfl (ble _ _ rfl) rfl) ?_
  refine sq_cons ⟨_, [(.t 16, mg ((leI 33 t0) && ((ltI t0 127) || (ltI 159 t0))) (nV .i32 t0))]⟩ (v_cT rfl rfl rfl (ble _ _ rfl) rfl fun e13 => (v_move (.inl rfl) ⟨_, rfl, be e13⟩ rfl (ble _ _ rfl) rfl)) ?_
  refine sq_cons ⟨_, [(.t 17, mg ((leI 33 t0) && ((ltI t0 127) || (ltI 159 t0))) (bV (!eqI t0 65533)))]⟩ (v_cT rfl rfl rfl (ble _ _ rfl) rfl fun e14 => (v_bin rfl ⟨_, rfl, be e14⟩ rfl (ble _ _ rfl) (gv e14) rfl (b_neq rfl))) ?_
  refine sq_cons ⟨_, [(.t 18, mg ((leI 33 t0) && ((ltI t0 127) || (ltI 159 t0))) (bV (!eqI t0 65533)))]⟩ (v_cT rfl rfl rfl (ble _ _ rfl) rfl fun e15 => (v_move (.inl rfl) ⟨_, rfl, be e15⟩ rfl (ble _ _ rfl) (gv e15))) ?_
  refine sq_cons ⟨_, [(.t 19, mg (((leI 33 t0) && ((ltI t0 127) || (ltI 159 t0))) && (!(!eqI t0 65533))) (iV t1))]⟩ (v_mF rfl rfl rfl (ble _ _ rfl) rfl fun e16 e17 => (v_move (.inl rfl) ⟨_, rfl, bm e16 e17⟩ rfl (ble _ _ rfl) rfl)) ?_
  refine sq_cons ⟨_, [(.t 20, mg (((leI 33 t0) && ((ltI t0 127) || (ltI 159 t0))) && (!(!eqI t0 65533))) (bV (eqI t1 3)))]⟩ (v_mF rfl rfl rfl (ble _ _ rfl) rfl fun e18 e19 => (v_bin rfl ⟨_, rfl, bm e18 e19⟩ rfl (ble _ _ rfl) (gv (aT e18 (nF e19))) rfl (b_eql rfl))) ?_
  refine sq_cons ⟨_, [(.t 21, mg ((leI 33 t0) && ((ltI t0 127) || (ltI 159 t0))) (bV ((!eqI t0 65533) || (eqI t1 3))))]⟩ (v_cT rfl rfl rfl (ble _ _ rfl) rfl fun e20 => (v_pickB rfl ⟨_, rfl, be e20⟩ rfl (ble _ _ rfl) (gv e20) (fun e21 => rfl) (fun e22 => (gv (aT e20 (nF e22)))) (pO _ _))) ?_
  refine sq_cons ⟨_, [(.t 22, bV (((leI 33 t0) && ((ltI t0 127) || (ltI 159 t0))) && ((!eqI t0 65533) || (eqI t1 3))))]⟩ (v_pickB rfl trivial rfl (ble _ _ rfl) rfl (fun e23 => (gv e23)) (fun e24 => rfl) (pA _ _)) ?_
  refine sq_cons ⟨_, [(.t 4, bV (((leI 33 t0) && ((ltI t0 127) || (ltI 159 t0))) && ((!eqI t0 65533) || (eqI t1 3))))]⟩ (v_move (.inr rfl) trivial rfl (ble _ _ rfl) rfl) ?_
  refine sq_nil ?_
  refine ht_ret ?_
  cases h
  exact ret1 rfl (.tmp rfl)
set_option maxRecDepth 100000 in
set_option maxHeartbeats 4000000 in
theorem s14 (k : Nat) (t0 : ByteArray) (r : Bool) (h : F14 k t0 = some r) : Awp.Spec Tryd.prog amb 14 [(.s (.string t0))] (.ds [(.s (.bool r))]) := by
  rw [F14] at h
  refine spec_of Tryd.func14 rfl (ble _ _ rfl) fun w0 ok0 lt0 hA => ?_
  refine ht_seq ?_
  refine ht_region ?_
  refine sq_cons ⟨_, [(.t 2, bV false)]⟩ (v_move (.inr rfl) trivial rfl (ble _ _ rfl) rfl) ?_
  refine sq_nil ?_
  refine ht_gj (go_id' h) (fun _ => tell [(.t 0, sV t0)]) (fun _ h => ?_) (fun v1 K2 h j4 r5 => ?_)
  · refine ht_seq ?_
    refine ht_region ?_
    refine sq_cons ⟨_, [(.t 24, sV t0)]⟩ (v_move (.inl rfl) trivial rfl (ble _ _ rfl) rfl) ?_
    refine sq_cons ⟨_, [(.t 25, iV (t0.size : Int))]⟩ (v_len_str rfl rfl trivial rfl (ble _ _ rfl) und9 rfl) ?_
    refine sq_cons ⟨_, [(.t 26, bV (leI 1 (t0.size : Int)))]⟩ (v_bin rfl trivial rfl (ble _ _ rfl) rfl rfl (b_geq rfl)) ?_
    refine sq_cons ⟨_, [(.t 27, bV (leI 1 (t0.size : Int)))]⟩ (v_move (.inl rfl) trivial rfl (ble _ _ rfl) rfl) ?_
    refine sq_cons ⟨_, [(.t 28, mg (leI 1 (t0.size : Int)) (sV t0))]⟩ (v_cT rfl rfl rfl (ble _ _ rfl) rfl fun e15 => (v_move (.inl rfl) ⟨_, rfl, be e15⟩ rfl (ble _ _ rfl) rfl)) ?_
    refine sq_cons ⟨_, [(.t 29, mg (leI 1 (t0.size : Int)) (iV (t0.size : Int)))]⟩ (v_cT rfl rfl rfl (ble _ _ rfl) rfl fun e16 => (v_len_str rfl rfl ⟨_, rfl, be e16⟩ rfl (ble _ _ rfl) und9 (gv e16))) ?_
    refine sq_cons ⟨_, [(.t 30, mg (leI 1 (t0.size : Int)) (bV (leI (t0.size : Int) 16)))]⟩ (v_cT rfl rfl rfl (ble _ _ rfl) rfl fun e17 => (v_bin rfl ⟨_, rfl, be e17⟩ rfl (ble _ _ rfl) (gv e17) rfl (b_leq rfl))) ?_
    refine sq_cons ⟨_, [(.t 31, bV ((leI 1 (t0.size : Int)) && (leI (t0.size : Int) 16)))]⟩ (v_pickB rfl trivial rfl (ble _ _ rfl) rfl (fun e18 => (gv e18)) (fun e19 => rfl) (pA _ _)) ?_
    refine sq_cons ⟨_, [(.t 2, bV ((leI 1 (t0.size : Int)) && (leI (t0.size : Int) 16)))]⟩ (v_move (.inr rfl) trivial rfl (ble _ _ rfl) rfl) ?_
    refine sq_nil ?_
    refine ht_ret ?_
    cases h
    exact ret1 rfl (.tmp rfl)
  · refine ht_seq ?_
    refine ht_region ?_
    refine sq_cons ⟨_, [(.t 7, sV t0)]⟩ (v_move (.inl rfl) trivial rfl (ble _ _ rfl) rfl) ?_
    refine sq_cons ⟨_, [(.b 8, .iter t0 0), (.t 8, .ptr 8 0)]⟩ (v_range (id := 8) rfl trivial rfl (ble _ _ rfl) und9 rfl rfl) ?_
    refine sq_nil ?_
    refine ht_block ?_
    refine ht_rd h (fun _ => rfl) (fun t8p => tell [(.b 8, .iter t0 t8p), (.t 0, sV t0), (.t 8, .ptr 8 0)]) (wk_ren _ (fun i => i) rfl ⟨rfl, rfl, rfl, trivial⟩) fun k t8p h K14 j7 => ?_
    rw [F14_l1] at h
    refine ht_seq ?_
    refine ht_region ?_
    refine sq_cons ⟨_, [(.b 8, .iter t0 (nxp t0 t8p)), (.t 9, nxV t0 t8p)]⟩ (v_next rfl trivial rfl (ble _ _ rfl) rfl rfl) ?_
    refine sq_cons ⟨_, [(.t 10, bV (nxc t0 t8p))]⟩ (v_nx0 rfl trivial rfl (ble _ _ rfl) rfl) ?_
    refine sq_nil ?_
    refine ht_seq ?_
    refine ht_cond (b := (nxc t0 t8p)) rfl (fun e9 => ?_) (fun e9 => ?_)
    · replace h := cpos e9 h
      refine ht_weak (wk_eq (.t 9) (.tup [bV true, iV ((t8p : Nat) : Int), nV .i32 (nxr t0 t8p)]) (nxV_t e9)) ?_
      refine ht_weak (wk_eq (.b 8) (.iter t0 (nxw t0 t8p)) (nxp_t e9)) ?_
      refine ht_skip ?_
      refine ht_block ?_
      refine ht_seq ?_
      refine ht_region ?_
      refine sq_cons ⟨_, [(.t 11, iV ((t8p : Nat) : Int))]⟩ (v_extract rfl trivial rfl (ble _ _ rfl) rfl rfl) ?_
      refine sq_cons ⟨_, [(.t 12, nV .i32 (nxr t0 t8p))]⟩ (v_extract rfl trivial rfl (ble _ _ rfl) rfl rfl) ?_
      refine sq_cons ⟨_, [(.t 3, iV ((t8p : Nat) : Int))]⟩ (v_move (.inr rfl) trivial rfl (ble _ _ rfl) rfl) ?_
      refine sq_cons ⟨_, [(.t 4, nV .i32 (nxr t0 t8p))]⟩ (v_move (.inr rfl) trivial rfl (ble _ _ rfl) rfl) ?_
      refine sq_nil ?_
      refine ht_seq ?_
      refine ht_region ?_
      refine sq_cons ⟨_, [(.t 14, sV t0)]⟩ (v_move (.inl rfl) trivial rfl (ble _ _ rfl) rfl) ?_
      refine sq_cons ⟨_, [(.t 15, iV ((t8p : Nat) : Int))]⟩ (v_move (.inl rfl) trivial rfl (ble _ _ rfl) rfl) ?_
      obtain ⟨e10, h⟩ := gpos h
      refine sq_cons ⟨_, [(.t 16, sV (t0.extract ((t8p : Nat) : Int).toNat (t0.size : Int).toNat))]⟩ (w_cut_str t0 ((t8p : Nat) : Int) (t0.size : Int) rfl trivial rfl (ble _ _ rfl) und9 rfl (.inr ⟨_, _, rfl, rfl⟩) (.inl ⟨rfl, rfl⟩) e10) ?_
      obtain ⟨⟨t17a, t17b⟩, c11, h⟩ := bpos h
      refine sq_cons ⟨_, [(.t 17, .tup [nV .i32 t17a, iV t17b])]⟩ (w_call (ds := [(.s (.string (t0.extract ((t8p : Nat) : Int).toNat (t0.size : Int).toNat)))]) (caps := []) (l := [(.s (.int .i32 t17a)), (.s (.int .i64 t17b))]) (s33 k (t0.extract ((t8p : Nat) : Int).toNat (t0.size : Int).toNat) _ c11) rfl rfl rfl en33 trivial rfl (ble _ _ rfl) (.inl ⟨rfl, rfl⟩) rfl rfl) ?_
      refine sq_cons ⟨_, [(.t 13, .tup [nV .i32 t17a, iV t17b])]⟩ (v_move (.inl rfl) trivial rfl (ble _ _ rfl) rfl) ?_
      refine sq_cons ⟨_, [(.t 18, nV .i32 t17a)]⟩ (v_extract rfl trivial rfl (ble _ _ rfl) rfl rfl) ?_
      refine sq_cons ⟨_, [(.t 19, iV t17b)]⟩ (v_extract rfl trivial rfl (ble _ _ rfl) rfl rfl) ?_
      refine sq_cons ⟨_, [(.t 5, nV .i32 t17a)]⟩ (v_move (.inr rfl) trivial rfl (ble _ _ rfl) rfl) ?_
      refine sq_cons ⟨_, [(.t 6, iV t17b)]⟩ (v_move (.inr rfl) trivial rfl (ble _ _ rfl) rfl) ?_
      refine sq_nil ?_
      refine ht_seq ?_
      refine ht_region ?_
      refine sq_cons ⟨_, [(.t 20, nV .i32 (nxr t0 t8p))]⟩ (v_move (.inl rfl) trivial rfl (ble _ _ rfl) rfl) ?_
      refine sq_cons ⟨_, [(.t 21, iV t17b)]⟩ (v_move (.inl rfl) trivial rfl (ble _ _ rfl) rfl) ?_
      obtain ⟨t22, c12, h⟩ := bpos h
      refine sq_cons ⟨_, [(.t 22, bV t22)]⟩ (w_call (ds := [(.s (.int .i32 (nxr t0 t8p))), (.s (.int .i64 t17b))]) (caps := []) (l := [(.s (.bool t22))]) (s34 k (nxr t0 t8p) t17b _ c12) rfl rfl rfl en34 trivial rfl (ble _ _ rfl) (.inl ⟨rfl, rfl⟩) rfl rfl) ?_
      refine sq_cons ⟨_, [(.t 23, bV (!t22))]⟩ (v_un rfl trivial rfl (ble _ _ rfl) rfl (u_not rfl)) ?_
      refine sq_nil ?_
      refine ht_cond (b := (!t22)) rfl (fun e13 => ?_) (fun e13 => ?_)
      · replace h := cpos e13 h
        refine ht_seq ?_
        refine ht_region ?_
        refine sq_cons ⟨_, [(.t 2, bV false)]⟩ (v_move (.inr rfl) trivial rfl (ble _ _ rfl) rfl) ?_
        refine sq_nil ?_
        refine ht_ret ?_
        cases h
        cases r5 _ rfl
        exact ret1 rfl (.tmp rfl)
      · replace h := cneg e13 h
        refine ht_skip ?_
        exact j7 _ _ h (wk_ren _ (fun i => i) rfl ⟨rfl, rfl, rfl, trivial⟩)
    · replace h := cneg e9 h
      refine ht_exit ?_
      refine tq ?_
      refine tq ?_
      refine bq_hit ?_
      cases h
      exact j4 _ _ rfl (wk_ren _ (fun i => i) rfl ⟨rfl, trivial⟩)
set_option maxRecDepth 100000 in
set_option maxHeartbeats 4000000 in
theorem s5 (k : Nat) (t0 : Request) (r : Bool) (h : F5 k t0 = some r) : Awp.Spec Tryd.prog amb 5 [(.agg (eRequest t0))] (.ds [(.s (.bool r))]) := by
  rw [F5] at h
  refine spec_of Tryd.func5 rfl (ble _ _ rfl) fun w0 ok0 lt0 hA => ?_
  refine ht_seq ?_
  refine ht_region ?_
  refine sq_cons ⟨_, [(.t 1, .d (.dp (eRequest t0)))]⟩ (v_box_d (cs := (eRequest t0)) rfl trivial rfl (ble _ _ rfl) rfl rfl (ones_of rfl)) ?_
  refine sq_cons ⟨_, [(.t 2, bV false)]⟩ (v_move (.inr rfl) trivial rfl (ble _ _ rfl) rfl) ?_
  refine sq_nil ?_
  refine ht_seq ?_
  refine ht_seq ?_
  refine ht_region ?_
  refine sq_cons ⟨_, [(.t 3, .d (.dp (eRequest t0)))]⟩ (v_field_dp (a0 := 0) (cs := (eRequest t0)) rfl trivial rfl (ble _ _ rfl) fo25_0 rfl) ?_
  refine sq_cons ⟨_, [(.t 4, iV t0.mClient)]⟩ (v_load_dp1 rfl trivial rfl (ble _ _ rfl) onT3 rfl rfl) ?_
  refine sq_cons ⟨_, [(.t 5, .d (.dp (List.drop 1 (eRequest t0))))]⟩ (v_field_dp (a0 := 1) (cs := (eRequest t0)) rfl trivial rfl (ble _ _ rfl) fo25_1 rfl) ?_
  refine sq_cons ⟨_, [(.t 6, iV t0.mReq)]⟩ (v_load_dp1 rfl trivial rfl (ble _ _ rfl) onT3 rfl rfl) ?_
  refine sq_cons ⟨_, [(.t 7, .d (.sl 1 (([t0.mClient, t0.mReq]).map (eI .i64))))]⟩ (w_bsl_d [(0, iV t0.mClient), (1, iV t0.mReq)] [t0.mClient, t0.mReq] (eI .i64) rfl trivial rfl (ble _ _ rfl) slT61 zr3 (encI .i64) (ble _ _ rfl) rfl (by kernel_rfl) rfl rfl (by kernel_rfl)) ?_
  obtain ⟨t8, c1, h⟩ := bpos h
  refine sq_cons ⟨_, [(.t 8, bV t8)]⟩ (w_call (ds := [(.s (.int .i64 1)), (.sl 1 (([t0.mClient, t0.mReq]).map (eI .i64)))]) (caps := []) (l := [(.s (.bool t8))]) (s12 k 1 ([t0.mClient, t0.mReq]) _ c1) rfl rfl rfl en12 trivial rfl (ble _ _ rfl) (.inl ⟨rfl, rfl⟩) rfl rfl) ?_
  refine sq_cons ⟨_, [(.t 9, bV (!t8))]⟩ (v_un rfl trivial rfl (ble _ _ rfl) rfl (u_not rfl)) ?_
  refine sq_cons ⟨_, [(.t 10, bV (!t8))]⟩ (v_move (.inl rfl) trivial rfl (ble _ _ rfl) rfl) ?_
  refine sq_cons ⟨_, [(.t 11, mg (!(!t8)) (.d (.dp (List.drop 2 (eRequest t0)))))]⟩ (v_cF rfl rfl rfl (ble _ _ rfl) rfl fun e2 => (v_field_dp (a0 := 2) (cs := (eRequest t0)) rfl ⟨_, rfl, be e2⟩ rfl (ble _ _ rfl) fo25_2 rfl)) ?_
  refine sq_cons ⟨_, [(.t 12, mg (!(!t8)) (iV t0.mKind))]⟩ (v_cF rfl rfl rfl (ble _ _ rfl) rfl fun e3 => (v_load_dp1 rfl ⟨_, rfl, be e3⟩ rfl (ble _ _ rfl) onT3 (gv (nF e3)) rfl)) ?_
  refine sq_cons ⟨_, [(.t 13, mg (!(!t8)) (bV (ltI t0.mKind 1)))]⟩ (v_cF rfl rfl rfl (ble _ _ rfl) rfl fun e4 => (v_bin rfl ⟨_, rfl, be e4⟩ rfl (ble _ _ rfl) (gv (nF e4)) rfl (b_lss rfl))) ?_
  refine sq_cons ⟨_, [(.t 14, bV ((!t8) || (ltI t0.mKind 1)))]⟩ (v_pickB rfl trivial rfl (ble _ _ rfl) rfl (fun e5 => rfl) (fun e6 => (gv (nF e6))) (pO _ _)) ?_
  refine sq_cons ⟨_, [(.t 15, bV ((!t8) || (ltI t0.mKind 1)))]⟩ (v_move (.inl rfl) trivial rfl (ble _ _ rfl) rfl) ?_
  refine sq_cons ⟨_, [(.t 16, mg (!((!t8) || (ltI t0.mKind 1))) (.d (.dp (List.drop 2 (eRequest t0)))))]⟩ (v_cF rfl rfl rfl (ble _ _ rfl) rfl fun e7 => (v_field_dp (a0 := 2) (cs := (eRequest t0)) rfl ⟨_, rfl, be e7⟩ rfl (ble _ _ rfl) fo25_2 rfl)) ?_
  refine sq_cons ⟨_, [(.t 17, mg (!((!t8) || (ltI t0.mKind 1))) (iV t0.mKind))]⟩ (v_cF rfl rfl rfl (ble _ _ rfl) rfl fun e8 => (v_load_dp1 rfl ⟨_, rfl, be e8⟩ rfl (ble _ _ rfl) onT3 (gv (nF e8)) rfl)) ?_
  refine sq_cons ⟨_, [(.t 18, mg (!((!t8) || (ltI t0.mKind 1))) (bV (ltI 6 t0.mKind)))]⟩ (v_cF rfl rfl rfl (ble _ _ rfl) rfl fun e9 => (v_bin rfl ⟨_, rfl, be e9⟩ rfl (ble _ _ rfl) (gv (nF e9)) rfl (b_gtr rfl))) ?_
  refine sq_cons ⟨_, [(.t 19, bV (((!t8) || (ltI t0.mKind 1)) || (ltI 6 t0.mKind)))]⟩ (v_pickB rfl trivial rfl (ble _ _ rfl) rfl (fun e10 => rfl) (fun e11 => (gv (nF e11))) (pO _ _)) ?_
  refine sq_cons ⟨_, [(.t 20, bV (((!t8) || (ltI t0.mKind 1)) || (ltI 6 t0.mKind)))]⟩ (v_move (.inl rfl) trivial rfl (ble _ _ rfl) rfl) ?_
  refine sq_cons ⟨_, [(.t 21, mg (!(((!t8) || (ltI t0.mKind 1)) || (ltI 6 t0.mKind))) (.d (.dp (List.drop 4 (eRequest t0)))))]⟩ (v_cF rfl rfl rfl (ble _ _ rfl) rfl fun e12 => (v_field_dp (a0 := 4) (cs := (eRequest t0)) rfl ⟨_, rfl, be e12⟩ rfl (ble _ _ rfl) fo25_4 rfl)) ?_
  refine sq_cons ⟨_, [(.t 22, mg (!(((!t8) || (ltI t0.mKind 1)) || (ltI 6 t0.mKind))) (sV t0.mValue))]⟩ (v_cF rfl rfl rfl (ble _ _ rfl) rfl fun e13 => (v_load_dp1 rfl ⟨_, rfl, be e13⟩ rfl (ble _ _ rfl) onT9 (gv (nF e13)) rfl)) ?_
  refine sq_cons ⟨_, [(.t 23, mg (!(((!t8) || (ltI t0.mKind 1)) || (ltI 6 t0.mKind))) (iV (t0.mValue.size : Int)))]⟩ (v_cF rfl rfl rfl (ble _ _ rfl) rfl fun e14 => (v_len_str rfl rfl ⟨_, rfl, be e14⟩ rfl (ble _ _ rfl) und9 (gv (nF e14)))) ?_
  refine sq_cons ⟨_, [(.t 24, mg (!(((!t8) || (ltI t0.mKind 1)) || (ltI 6 t0.mKind))) (bV (ltI 16 (t0.mValue.size : Int))))]⟩ (v_cF rfl rfl rfl (ble _ _ rfl) rfl fun e15 => (v_bin rfl ⟨_, rfl, be e15⟩ rfl (ble _ _ rfl) (gv (nF e15)) rfl (b_gtr rfl))) ?_
  refine sq_cons ⟨_, [(.t 25, bV ((((!t8) || (ltI t0.mKind 1)) || (ltI 6 t0.mKind)) || (ltI 16 (t0.mValue.size : Int))))]⟩ (v_pickB rfl trivial rfl (ble _ _ rfl) rfl (fun e16 => rfl) (fun e17 => (gv (nF e17))) (pO _ _)) ?_
  refine sq_cons ⟨_, [(.t 26, bV ((((!t8) || (ltI t0.mKind 1)) || (ltI 6 t0.mKind)) || (ltI 16 (t0.mValue.size : Int))))]⟩ (v_move (.inl rfl) trivial rfl (ble _ _ rfl) rfl) ?_
  refine sq_cons ⟨_, [(.t 27, mg (!((((!t8) || (ltI t0.mKind 1)) || (ltI 6 t0.mKind)) || (ltI 16 (t0.mValue.size : Int)))) (.d (.dp (List.drop 6 (eRequest t0)))))]⟩ (v_cF rfl rfl rfl (ble _ _ rfl) rfl fun e18 => (v_field_dp (a0 := 6) (cs := (eRequest t0)) rfl ⟨_, rfl, be e18⟩ rfl (ble _ _ rfl) fo25_6 rfl)) ?_
  refine sq_cons ⟨_, [(.t 28, mg (!((((!t8) || (ltI t0.mKind 1)) || (ltI 6 t0.mKind)) || (ltI 16 (t0.mValue.size : Int)))) (sV t0.mOld))]⟩ (v_cF rfl rfl rfl (ble _ _ rfl) rfl fun e19 => (v_load_dp1 rfl ⟨_, rfl, be e19⟩ rfl (ble _ _ rfl) onT9 (gv (nF e19)) rfl)) ?_
  refine sq_cons ⟨_, [(.t 29, mg (!((((!t8) || (ltI t0.mKind 1)) || (ltI 6 t0.mKind)) || (ltI 16 (t0.mValue.size : Int)))) (iV (t0.mOld.size : Int)))]⟩ (v_cF rfl rfl rfl (ble _ _ rfl) rfl fun e20 => (v_len_str rfl rfl ⟨_, rfl, be e20⟩ rfl (ble _ _ rfl) und9 (gv (nF e20)))) ?_
  refine sq_cons ⟨_, [(.t 30, mg (!((((!t8) || (ltI t0.mKind 1)) || (ltI 6 t0.mKind)) || (ltI 16 (t0.mValue.size : Int)))) (bV (ltI 16 (t0.mOld.size : Int))))]⟩ (v_cF rfl rfl rfl (ble _ _ rfl) rfl fun e21 => (v_bin rfl ⟨_, rfl, be e21⟩ rfl (ble _ _ rfl) (gv (nF e21)) rfl (b_gtr rfl))) ?_
  refine sq_cons ⟨_, [(.t 31, bV (((((!t8) || (ltI t0.mKind 1)) || (ltI 6 t0.mKind)) || (ltI 16 (t0.mValue.size : Int))) || (ltI 16 (t0.mOld.size : Int))))]⟩ (v_pickB rfl trivial rfl (ble _ _ rfl) rfl (fun e22 => rfl) (fun e23 => (gv (nF e23))) (pO _ _)) ?_
  refine sq_cons ⟨_, [(.t 32, bV (((((!t8) || (ltI t0.mKind 1)) || (ltI 6 t0.mKind)) || (ltI 16 (t0.mValue.size : Int))) || (ltI 16 (t0.mOld.size : Int))))]⟩ (v_move (.inl rfl) trivial rfl (ble _ _ rfl) rfl) ?_
  refine sq_cons ⟨_, [(.t 33, mg (!(((((!t8) || (ltI t0.mKind 1)) || (ltI 6 t0.mKind)) || (ltI 16 (t0.mValue.size : Int))) || (ltI 16 (t0.mOld.size : Int)))) (.d (.dp (List.drop 11 (eRequest t0)))))]⟩ (v_cF rfl rfl rfl (ble _ _ rfl) rfl fun e24 => (v_field_dp (a0 := 11) (cs := (eRequest t0)) rfl ⟨_, rfl, be e24⟩ rfl (ble _ _ rfl) fo25_9 rfl)) ?_
  refine sq_cons ⟨_, [(.t 34, mg (!(((((!t8) || (ltI t0.mKind 1)) || (ltI 6 t0.mKind)) || (ltI 16 (t0.mValue.size : Int))) || (ltI 16 (t0.mOld.size : Int)))) (iV t0.mLimit))]⟩ (v_cF rfl rfl rfl (ble _ _ rfl) rfl fun e25 => (v_load_dp1 rfl ⟨_, rfl, be e25⟩ rfl (ble _ _ rfl) onT3 (gv (nF e25)) rfl)) ?_
  refine sq_cons ⟨_, [(.t 35, mg (!(((((!t8) || (ltI t0.mKind 1)) || (ltI 6 t0.mKind)) || (ltI 16 (t0.mValue.size : Int))) || (ltI 16 (t0.mOld.size : Int)))) (bV (ltI t0.mLimit 0)))]⟩ (v_cF rfl rfl rfl (ble _ _ rfl) rfl fun e26 => (v_bin rfl ⟨_, rfl, be e26⟩ rfl (ble _ _ rfl) (gv (nF e26)) rfl (b_lss rfl))) ?_
  refine sq_cons ⟨_, [(.t 36, bV ((((((!t8) || (ltI t0.mKind 1)) || (ltI 6 t0.mKind)) || (ltI 16 (t0.mValue.size : Int))) || (ltI 16 (t0.mOld.size : Int))) || (ltI t0.mLimit 0)))]⟩ (v_pickB rfl trivial rfl (ble _ _ rfl) rfl (fun e27 => rfl) (fun e28 => (gv (nF e28))) (pO _ _)) ?_
  refine sq_cons ⟨_, [(.t 37, bV ((((((!t8) || (ltI t0.mKind 1)) || (ltI 6 t0.mKind)) || (ltI 16 (t0.mValue.size : Int))) || (ltI 16 (t0.mOld.size : Int))) || (ltI t0.mLimit 0)))]⟩ (v_move (.inl rfl) trivial rfl (ble _ _ rfl) rfl) ?_
  refine sq_cons ⟨_, [(.t 38, mg (!((((((!t8) || (ltI t0.mKind 1)) || (ltI 6 t0.mKind)) || (ltI 16 (t0.mValue.size : Int))) || (ltI 16 (t0.mOld.size : Int))) || (ltI t0.mLimit 0))) (.d (.dp (List.drop 11 (eRequest t0)))))]⟩ (v_cF rfl rfl rfl (ble _ _ rfl) rfl fun e29 => (v_field_dp (a0 := 11) (cs := (eRequest t0)) rfl ⟨_, rfl, be e29⟩ rfl (ble _ _ rfl) fo25_9 rfl)) ?_
  refine sq_cons ⟨_, [(.t 39, mg (!((((((!t8) || (ltI t0.mKind 1)) || (ltI 6 t0.mKind)) || (ltI 16 (t0.mValue.size : Int))) || (ltI 16 (t0.mOld.size : Int))) || (ltI t0.mLimit 0))) (iV t0.mLimit))]⟩ (v_cF rfl rfl rfl (ble _ _ rfl) rfl fun e30 => (v_load_dp1 rfl ⟨_, rfl, be e30⟩ rfl (ble _ _ rfl) onT3 (gv (nF e30)) rfl)) ?_
  refine sq_cons ⟨_, [(.t 40, mg (!((((((!t8) || (ltI t0.mKind 1)) || (ltI 6 t0.mKind)) || (ltI 16 (t0.mValue.size : Int))) || (ltI 16 (t0.mOld.size : Int))) || (ltI t0.mLimit 0))) (bV (ltI 8 t0.mLimit)))]⟩ (v_cF rfl rfl rfl (ble _ _ rfl) rfl fun e31 => (v_bin rfl ⟨_, rfl, be e31⟩ rfl (ble _ _ rfl) (gv (nF e31)) rfl (b_gtr rfl))) ?_
  refine sq_cons ⟨_, [(.t 41, bV (((((((!t8) || (ltI t0.mKind 1)) || (ltI 6 t0.mKind)) || (ltI 16 (t0.mValue.size : Int))) || (ltI 16 (t0.mOld.size : Int))) || (ltI t0.mLimit 0)) || (ltI 8 t0.mLimit)))]⟩ (v_pickB rfl trivial rfl (ble _ _ rfl) rfl (fun e32 => rfl) (fun e33 => (gv (nF e33))) (pO _ _)) ?_
  refine sq_cons ⟨_, [(.t 42, bV (((((((!t8) || (ltI t0.mKind 1)) || (ltI 6 t0.mKind)) || (ltI 16 (t0.mValue.size : Int))) || (ltI 16 (t0.mOld.size : Int))) || (ltI t0.mLimit 0)) || (ltI 8 t0.mLimit)))]⟩ (v_move (.inl rfl) trivial rfl (ble _ _ rfl) rfl) ?_
  refine sq_cons ⟨_, [(.t 43, mg (!(((((((!t8) || (ltI t0.mKind 1)) || (ltI 6 t0.mKind)) || (ltI 16 (t0.mValue.size : Int))) || (ltI 16 (t0.mOld.size : Int))) || (ltI t0.mLimit 0)) || (ltI 8 t0.mLimit))) (.d (.dp (List.drop 7 (eRequest t0)))))]⟩ (v_cF rfl rfl rfl (ble _ _ rfl) rfl fun e34 => (v_field_dp (a0 := 7) (cs := (eRequest t0)) rfl ⟨_, rfl, be e34⟩ rfl (ble _ _ rfl) fo25_7 rfl)) ?_
  refine sq_cons ⟨_, [(.t 44, mg (!(((((((!t8) || (ltI t0.mKind 1)) || (ltI 6 t0.mKind)) || (ltI 16 (t0.mValue.size : Int))) || (ltI 16 (t0.mOld.size : Int))) || (ltI t0.mLimit 0)) || (ltI 8 t0.mLimit))) (.d (.agg (eStamp t0.mAt))))]⟩ (v_cF rfl rfl rfl (ble _ _ rfl) rfl fun e35 => (w_ldp (List.drop 7 (eRequest t0)) (eStamp t0.mAt) rfl ⟨_, rfl, be e35⟩ rfl (ble _ _ rfl) ag23 (gv (nF e35)) (ble _ _ rfl) rfl)) ?_
  obtain ⟨t45, c37, h⟩ := bpos h
  refine sq_cons ⟨_, [(.t 45, mg (!(((((((!t8) || (ltI t0.mKind 1)) || (ltI 6 t0.mKind)) || (ltI 16 (t0.mValue.size : Int))) || (ltI 16 (t0.mOld.size : Int))) || (ltI t0.mLimit 0)) || (ltI 8 t0.mLimit))) (bV t45))]⟩ (v_cF rfl rfl rfl (ble _ _ rfl) rfl fun e36 => (w_call (ds := [(.agg (eStamp t0.mAt))]) (caps := []) (l := [(.s (.bool t45))]) (s13 k t0.mAt _ (cpos (nF e36) c37)) rfl rfl rfl en13 ⟨_, rfl, be e36⟩ rfl (ble _ _ rfl) (.inl ⟨rfl, rfl⟩) (cc (gv (nF e36)) rfl) rfl)) ?_
  refine sq_cons ⟨_, [(.t 46, mg (!(((((((!t8) || (ltI t0.mKind 1)) || (ltI 6 t0.mKind)) || (ltI 16 (t0.mValue.size : Int))) || (ltI 16 (t0.mOld.size : Int))) || (ltI t0.mLimit 0)) || (ltI 8 t0.mLimit))) (bV (!t45)))]⟩ (v_cF rfl rfl rfl (ble _ _ rfl) rfl fun e38 => (v_un rfl ⟨_, rfl, be e38⟩ rfl (ble _ _ rfl) (gv (nF e38)) (u_not rfl))) ?_
  refine sq_cons ⟨_, [(.t 47, bV ((((((((!t8) || (ltI t0.mKind 1)) || (ltI 6 t0.mKind)) || (ltI 16 (t0.mValue.size : Int))) || (ltI 16 (t0.mOld.size : Int))) || (ltI t0.mLimit 0)) || (ltI 8 t0.mLimit)) || (!t45)))]⟩ (v_pickB rfl trivial rfl (ble _ _ rfl) rfl (fun e39 => rfl) (fun e40 => (gv (nF e40))) (pO _ _)) ?_
  refine sq_cons ⟨_, [(.t 48, bV ((((((((!t8) || (ltI t0.mKind 1)) || (ltI 6 t0.mKind)) || (ltI 16 (t0.mValue.size : Int))) || (ltI 16 (t0.mOld.size : Int))) || (ltI t0.mLimit 0)) || (ltI 8 t0.mLimit)) || (!t45)))]⟩ (v_move (.inl rfl) trivial rfl (ble _ _ rfl) rfl) ?_
  refine sq_cons ⟨_, [(.t 49, mg (!((((((((!t8) || (ltI t0.mKind 1)) || (ltI 6 t0.mKind)) || (ltI 16 (t0.mValue.size : Int))) || (ltI 16 (t0.mOld.size : Int))) || (ltI t0.mLimit 0)) || (ltI 8 t0.mLimit)) || (!t45))) (.d (.dp (List.drop 10 (eRequest t0)))))]⟩ (v_cF rfl rfl rfl (ble _ _ rfl) rfl fun e41 => (v_field_dp (a0 := 10) (cs := (eRequest t0)) rfl ⟨_, rfl, be e41⟩ rfl (ble _ _ rfl) fo25_8 rfl)) ?_
  refine sq_cons ⟨_, [(.t 50, mg (!((((((((!t8) || (ltI t0.mKind 1)) || (ltI 6 t0.mKind)) || (ltI 16 (t0.mValue.size : Int))) || (ltI 16 (t0.mOld.size : Int))) || (ltI t0.mLimit 0)) || (ltI 8 t0.mLimit)) || (!t45))) (sV t0.mHi))]⟩ (v_cF rfl rfl rfl (ble _ _ rfl) rfl fun e42 => (v_load_dp1 rfl ⟨_, rfl, be e42⟩ rfl (ble _ _ rfl) onT9 (gv (nF e42)) rfl)) ?_
  refine sq_cons ⟨_, [(.t 51, mg (!((((((((!t8) || (ltI t0.mKind 1)) || (ltI 6 t0.mKind)) || (ltI 16 (t0.mValue.size : Int))) || (ltI 16 (t0.mOld.size : Int))) || (ltI t0.mLimit 0)) || (ltI 8 t0.mLimit)) || (!t45))) (bV (!strEq t0.mHi (⟨#[]⟩ : ByteArray))))]⟩ (v_cF rfl rfl rfl (ble _ _ rfl) rfl fun e43 => (v_bin rfl ⟨_, rfl, be e43⟩ rfl (ble _ _ rfl) (gv (nF e43)) rfl (b_neS rfl))) ?_
  refine sq_cons ⟨_, [(.t 52, mg (!((((((((!t8) || (ltI t0.mKind 1)) || (ltI 6 t0.mKind)) || (ltI 16 (t0.mValue.size : Int))) || (ltI 16 (t0.mOld.size : Int))) || (ltI t0.mLimit 0)) || (ltI 8 t0.mLimit)) || (!t45))) (bV (!strEq t0.mHi (⟨#[]⟩ : ByteArray))))]⟩ (v_cF rfl rfl rfl (ble _ _ rfl) rfl fun e44 => (v_move (.inl rfl) ⟨_, rfl, be e44⟩ rfl (ble _ _ rfl) (gv (nF e44)))) ?_
  refine sq_cons ⟨_, [(.t 53, mg ((!((((((((!t8) || (ltI t0.mKind 1)) || (ltI 6 t0.mKind)) || (ltI 16 (t0.mValue.size : Int))) || (ltI 16 (t0.mOld.size : Int))) || (ltI t0.mLimit 0)) || (ltI 8 t0.mLimit)) || (!t45))) && (!strEq t0.mHi (⟨#[]⟩ : ByteArray))) (.d (.dp (List.drop 10 (eRequest t0)))))]⟩ (v_mT rfl rfl rfl (ble _ _ rfl) rfl fun e45 e46 => (v_field_dp (a0 := 10) (cs := (eRequest t0)) rfl ⟨_, rfl, bm e45 e46⟩ rfl (ble _ _ rfl) fo25_8 rfl)) ?_
  refine sq_cons ⟨_, [(.t 54, mg ((!((((((((!t8) || (ltI t0.mKind 1)) || (ltI 6 t0.mKind)) || (ltI 16 (t0.mValue.size : Int))) || (ltI 16 (t0.mOld.size : Int))) || (ltI t0.mLimit 0)) || (ltI 8 t0.mLimit)) || (!t45))) && (!strEq t0.mHi (⟨#[]⟩ : ByteArray))) (sV t0.mHi))]⟩ (v_mT rfl rfl rfl (ble _ _ rfl) rfl fun e47 e48 => (v_load_dp1 rfl ⟨_, rfl, bm e47 e48⟩ rfl (ble _ _ rfl) onT9 (gv (aT e47 e48)) rfl)) ?_
  obtain ⟨t55, c51, h⟩ := bpos h
  refine sq_cons ⟨_, [(.t 55, mg ((!((((((((!t8) || (ltI t0.mKind 1)) || (ltI 6 t0.mKind)) || (ltI 16 (t0.mValue.size : Int))) || (ltI 16 (t0.mOld.size : Int))) || (ltI t0.mLimit 0)) || (ltI 8 t0.mLimit)) || (!t45))) && (!strEq t0.mHi (⟨#[]⟩ : ByteArray))) (bV t55))]⟩ (v_mT rfl rfl rfl (ble _ _ rfl) rfl fun e49 e50 => (w_call (ds := [(.s (.string t0.mHi))]) (caps := []) (l := [(.s (.bool t55))]) (s14 k t0.mHi _ (cpos (aT e49 e50) c51)) rfl rfl rfl en14 ⟨_, rfl, bm e49 e50⟩ rfl (ble _ _ rfl) (.inl ⟨rfl, rfl⟩) (cc (gv (aT e49 e50)) rfl) rfl)) ?_
  refine sq_cons ⟨_, [(.t 56, mg ((!((((((((!t8) || (ltI t0.mKind 1)) || (ltI 6 t0.mKind)) || (ltI 16 (t0.mValue.size : Int))) || (ltI 16 (t0.mOld.size : Int))) || (ltI t0.mLimit 0)) || (ltI 8 t0.mLimit)) || (!t45))) && (!strEq t0.mHi (⟨#[]⟩ : ByteArray))) (bV (!t55)))]⟩ (v_mT rfl rfl rfl (ble _ _ rfl) rfl fun e52 e53 => (v_un rfl ⟨_, rfl, bm e52 e53⟩ rfl (ble _ _ rfl) (gv (aT e52 e53)) (u_not rfl))) ?_
  refine sq_cons ⟨_, [(.t 57, mg (!((((((((!t8) || (ltI t0.mKind 1)) || (ltI 6 t0.mKind)) || (ltI 16 (t0.mValue.size : Int))) || (ltI 16 (t0.mOld.size : Int))) || (ltI t0.mLimit 0)) || (ltI 8 t0.mLimit)) || (!t45))) (bV ((!strEq t0.mHi (⟨#[]⟩ : ByteArray)) && (!t55))))]⟩ (v_cF rfl rfl rfl (ble _ _ rfl) rfl fun e54 => (v_pickB rfl ⟨_, rfl, be e54⟩ rfl (ble _ _ rfl) (gv (nF e54)) (fun e55 => (gv (aT (nF e54) e55))) (fun e56 => rfl) (pA _ _))) ?_
  refine sq_cons ⟨_, [(.t 58, bV (((((((((!t8) || (ltI t0.mKind 1)) || (ltI 6 t0.mKind)) || (ltI 16 (t0.mValue.size : Int))) || (ltI 16 (t0.mOld.size : Int))) || (ltI t0.mLimit 0)) || (ltI 8 t0.mLimit)) || (!t45)) || ((!strEq t0.mHi (⟨#[]⟩ : ByteArray)) && (!t55))))]⟩ (v_pickB rfl trivial rfl (ble _ _ rfl) rfl (fun e57 => rfl) (fun e58 => (gv (nF e58))) (pO _ _)) ?_
  refine sq_nil ?_
  refine ht_cond (b := (((((((((!t8) || (ltI t0.mKind 1)) || (ltI 6 t0.mKind)) || (ltI 16 (t0.mValue.size : Int))) || (ltI 16 (t0.mOld.size : Int))) || (ltI t0.mLimit 0)) || (ltI 8 t0.mLimit)) || (!t45)) || ((!strEq t0.mHi (⟨#[]⟩ : ByteArray)) && (!t55)))) rfl (fun e59 => ?_) (fun e59 => ?_)
  · replace h := cpos e59 h
    refine ht_seq ?_
    refine ht_region ?_
    refine sq_cons ⟨_, [(.t 2, bV false)]⟩ (v_move (.inr rfl) trivial rfl (ble _ _ rfl) rfl) ?_
    refine sq_nil ?_
    refine ht_ret ?_
    cases h
    exact ret1 rfl (.tmp rfl)
  · replace h := cneg e59 h
    refine ht_skip ?_
    refine ht_seq ?_
    refine ht_seq ?_
    refine ht_region ?_
    refine sq_cons ⟨_, [(.t 59, .d (.dp (List.drop 2 (eRequest t0))))]⟩ (v_field_dp (a0 := 2) (cs := (eRequest t0)) rfl trivial rfl (ble _ _ rfl) fo25_2 rfl) ?_
    refine sq_cons ⟨_, [(.t 60, iV t0.mKind)]⟩ (v_load_dp1 rfl trivial rfl (ble _ _ rfl) onT3 rfl rfl) ?_
    refine sq_cons ⟨_, [(.t 61, bV (eqI t0.mKind 6))]⟩ (v_bin rfl trivial rfl (ble _ _ rfl) rfl rfl (b_eql rfl)) ?_
    refine sq_nil ?_
    refine ht_cond (b := (eqI t0.mKind 6)) rfl (fun e60 => ?_) (fun e60 => ?_)
    · replace h := cpos e60 h
      refine ht_seq ?_
      refine ht_region ?_
      refine sq_cons ⟨_, [(.t 62, .d (.dp (List.drop 3 (eRequest t0))))]⟩ (v_field_dp (a0 := 3) (cs := (eRequest t0)) rfl trivial rfl (ble _ _ rfl) fo25_3 rfl) ?_
      refine sq_cons ⟨_, [(.t 63, sV t0.mKey)]⟩ (v_load_dp1 rfl trivial rfl (ble _ _ rfl) onT9 rfl rfl) ?_
      refine sq_cons ⟨_, [(.t 64, bV (strEq t0.mKey (⟨#[]⟩ : ByteArray)))]⟩ (v_bin rfl trivial rfl (ble _ _ rfl) rfl rfl (b_eqS rfl)) ?_
      refine sq_cons ⟨_, [(.t 65, bV (strEq t0.mKey (⟨#[]⟩ : ByteArray)))]⟩ (v_move (.inl rfl) trivial rfl (ble _ _ rfl) rfl) ?_
      refine sq_cons ⟨_, [(.t 66, mg (!(strEq t0.mKey (⟨#[]⟩ : ByteArray))) (.d (.dp (List.drop 3 (eRequest t0)))))]⟩ (v_cF rfl rfl rfl (ble _ _ rfl) rfl fun e61 => (v_field_dp (a0 := 3) (cs := (eRequest t0)) rfl ⟨_, rfl, be e61⟩ rfl (ble _ _ rfl) fo25_3 rfl)) ?_
      refine sq_cons ⟨_, [(.t 67, mg (!(strEq t0.mKey (⟨#[]⟩ : ByteArray))) (sV t0.mKey))]⟩ (v_cF rfl rfl rfl (ble _ _ rfl) rfl fun e62 => (v_load_dp1 rfl ⟨_, rfl, be e62⟩ rfl (ble _ _ rfl) onT9 (gv (nF e62)) rfl)) ?_
      obtain ⟨t68, c64, h⟩ := bpos h
      refine sq_cons ⟨_, [(.t 68, mg (!(strEq t0.mKey (⟨#[]⟩ : ByteArray))) (bV t68))]⟩ (v_cF rfl rfl rfl (ble _ _ rfl) rfl fun e63 => (w_call (ds := [(.s (.string t0.mKey))]) (caps := []) (l := [(.s (.bool t68))]) (s14 k t0.mKey _ (cpos (nF e63) c64)) rfl rfl rfl en14 ⟨_, rfl, be e63⟩ rfl (ble _ _ rfl) (.inl ⟨rfl, rfl⟩) (cc (gv (nF e63)) rfl) rfl)) ?_
      refine sq_cons ⟨_, [(.t 69, bV ((strEq t0.mKey (⟨#[]⟩ : ByteArray)) || t68))]⟩ (v_pickB rfl trivial rfl (ble _ _ rfl) rfl (fun e65 => rfl) (fun e66 => (gv (nF e66))) (pO _ _)) ?_
      refine sq_cons ⟨_, [(.t 70, bV ((strEq t0.mKey (⟨#[]⟩ : ByteArray)) || t68))]⟩ (v_move (.inl rfl) trivial rfl (ble _ _ rfl) rfl) ?_
      refine sq_cons ⟨_, [(.t 71, mg ((strEq t0.mKey (⟨#[]⟩ : ByteArray)) || t68) (.d (.dp (List.drop 11 (eRequest t0)))))]⟩ (v_cT rfl rfl rfl (ble _ _ rfl) rfl fun e67 => (v_field_dp (a0 := 11) (cs := (eRequest t0)) rfl ⟨_, rfl, be e67⟩ rfl (ble _ _ rfl) fo25_9 rfl)) ?_
      refine sq_cons ⟨_, [(.t 72, mg ((strEq t0.mKey (⟨#[]⟩ : ByteArray)) || t68) (iV t0.mLimit))]⟩ (v_cT rfl rfl rfl (ble _ _ rfl) rfl fun e68 => (v_load_dp1 rfl ⟨_, rfl, be e68⟩ rfl (ble _ _ rfl) onT3 (gv e68) rfl)) ?_
      refine sq_cons ⟨_, [(.t 73, mg ((strEq t0.mKey (⟨#[]⟩ : ByteArray)) || t68) (bV (leI 1 t0.mLimit)))]⟩ (v_cT rfl rfl rfl (ble _ _ rfl) rfl fun e69 => (v_bin rfl ⟨_, rfl, be e69⟩ rfl (ble _ _ rfl) (gv e69) rfl (b_geq rfl))) ?_
      refine sq_cons ⟨_, [(.t 74, bV (((strEq t0.mKey (⟨#[]⟩ : ByteArray)) || t68) && (leI 1 t0.mLimit)))]⟩ (v_pickB rfl trivial rfl (ble _ _ rfl) rfl (fun e70 => (gv e70)) (fun e71 => rfl) (pA _ _)) ?_
      refine sq_cons ⟨_, [(.t 2, bV (((strEq t0.mKey (⟨#[]⟩ : ByteArray)) || t68) && (leI 1 t0.mLimit)))]⟩ (v_move (.inr rfl) trivial rfl (ble _ _ rfl) rfl) ?_
      refine sq_nil ?_
      refine ht_ret ?_
      cases h
      exact ret1 rfl (.tmp rfl)
    · replace h := cneg e60 h
      refine ht_skip ?_
      refine ht_seq ?_
      refine ht_region ?_
      refine sq_cons ⟨_, [(.t 75, .d (.dp (List.drop 3 (eRequest t0))))]⟩ (v_field_dp (a0 := 3) (cs := (eRequest t0)) rfl trivial rfl (ble _ _ rfl) fo25_3 rfl) ?_
      refine sq_cons ⟨_, [(.t 76, sV t0.mKey)]⟩ (v_load_dp1 rfl trivial rfl (ble _ _ rfl) onT9 rfl rfl) ?_
      obtain ⟨t77, c72, h⟩ := bpos h
      refine sq_cons ⟨_, [(.t 77, bV t77)]⟩ (w_call (ds := [(.s (.string t0.mKey))]) (caps := []) (l := [(.s (.bool t77))]) (s14 k t0.mKey _ c72) rfl rfl rfl en14 trivial rfl (ble _ _ rfl) (.inl ⟨rfl, rfl⟩) rfl rfl) ?_
      refine sq_cons ⟨_, [(.t 2, bV t77)]⟩ (v_move (.inr rfl) trivial rfl (ble _ _ rfl) rfl) ?_
      refine sq_nil ?_
      refine ht_ret ?_
      cases h
      exact ret1 rfl (.tmp rfl)
set_option maxRecDepth 100000 in
set_option maxHeartbeats 4000000 in
theorem s15 (k : Nat) (t0 : Int) (r : Bool) (h : F15 k t0 = some r) : Awp.Spec Tryd.prog amb 15 [(.s (.int .i64 t0))] (.ds [(.s (.bool r))]) := by
  rw [F15] at h
  refine spec_of Tryd.func15 rfl (ble _ _ rfl) fun w0 ok0 lt0 hA => ?_
  refine ht_seq ?_
  refine ht_region ?_
  refine sq_cons ⟨_, [(.t 2, bV false)]⟩ (v_move (.inr rfl) trivial rfl (ble _ _ rfl) rfl) ?_
  refine sq_nil ?_
  refine ht_seq ?_
  refine ht_region ?_
  refine sq_cons ⟨_, [(.t 3, iV t0)]⟩ (v_move (.inl rfl) trivial rfl (ble _ _ rfl) rfl) ?_
  refine sq_cons ⟨_, [(.t 4, bV (ltI 0 t0))]⟩ (v_bin rfl trivial rfl (ble _ _ rfl) rfl rfl (b_gtr rfl)) ?_
  refine sq_cons ⟨_, [(.t 5, bV (ltI 0 t0))]⟩ (v_move (.inl rfl) trivial rfl (ble _ _ rfl) rfl) ?_
  refine sq_cons ⟨_, [(.t 6, mg (ltI 0 t0) (iV t0))]⟩ (v_cT rfl rfl rfl (ble _ _ rfl) rfl fun e1 => (v_move (.inl rfl) ⟨_, rfl, be e1⟩ rfl (ble _ _ rfl) rfl)) ?_
  refine sq_cons ⟨_, [(.t 7, mg (ltI 0 t0) (bV (leI t0 1099511627776)))]⟩ (v_cT rfl rfl rfl (ble _ _ rfl) rfl fun e2 => (v_bin rfl ⟨_, rfl, be e2⟩ rfl (ble _ _ rfl) (gv e2) rfl (b_leq rfl))) ?_
  refine sq_cons ⟨_, [(.t 8, bV ((ltI 0 t0) && (leI t0 1099511627776)))]⟩ (v_pickB rfl trivial rfl (ble _ _ rfl) rfl (fun e3 => (gv e3)) (fun e4 => rfl) (pA _ _)) ?_
  refine sq_cons ⟨_, [(.t 2, bV ((ltI 0 t0) && (leI t0 1099511627776)))]⟩ (v_move (.inr rfl) trivial rfl (ble _ _ rfl) rfl) ?_
  refine sq_nil ?_
  refine ht_ret ?_
  cases h
  exact ret1 rfl (.tmp rfl)
set_option maxRecDepth 100000 in
set_option maxHeartbeats 4000000 in
theorem s16 (k : Nat) (t0 : Stamp) (r : Bool) (h : F16 k t0 = some r) : Awp.Spec Tryd.prog amb 16 [(.agg (eStamp t0))] (.ds [(.s (.bool r))]) := by
  rw [F16] at h
  refine spec_of Tryd.func16 rfl (ble _ _ rfl) fun w0 ok0 lt0 hA => ?_
  refine ht_seq ?_
  refine ht_region ?_
  refine sq_cons ⟨_, [(.t 1, .d (.dp (eStamp t0)))]⟩ (v_box_d (cs := (eStamp t0)) rfl trivial rfl (ble _ _ rfl) rfl rfl (ones_of rfl)) ?_
  refine sq_cons ⟨_, [(.t 2, bV false)]⟩ (v_move (.inr rfl) trivial rfl (ble _ _ rfl) rfl) ?_
  refine sq_nil ?_
  refine ht_seq ?_
  refine ht_region ?_
  refine sq_cons ⟨_, [(.t 3, .d (.dp (eStamp t0)))]⟩ (v_field_dp (a0 := 0) (cs := (eStamp t0)) rfl trivial rfl (ble _ _ rfl) fo23_0 rfl) ?_
  refine sq_cons ⟨_, [(.t 4, iV t0.mWall)]⟩ (v_load_dp1 rfl trivial rfl (ble _ _ rfl) onT3 rfl rfl) ?_
  refine sq_cons ⟨_, [(.t 5, bV (leI 0 t0.mWall))]⟩ (v_bin rfl trivial rfl (ble _ _ rfl) rfl rfl (b_geq rfl)) ?_
  refine sq_cons ⟨_, [(.t 6, bV (leI 0 t0.mWall))]⟩ (v_move (.inl rfl) trivial rfl (ble _ _ rfl) rfl) ?_
  refine sq_cons ⟨_, [(.t 7, mg (leI 0 t0.mWall) (.d (.dp (eStamp t0))))]⟩ (v_cT rfl rfl rfl (ble _ _ rfl) rfl fun e1 => (v_field_dp (a0 := 0) (cs := (eStamp t0)) rfl ⟨_, rfl, be e1⟩ rfl (ble _ _ rfl) fo23_0 rfl)) ?_
  refine sq_cons ⟨_, [(.t 8, mg (leI 0 t0.mWall) (iV t0.mWall))]⟩ (v_cT rfl rfl rfl (ble _ _ rfl) rfl fun e2 => (v_load_dp1 rfl ⟨_, rfl, be e2⟩ rfl (ble _ _ rfl) onT3 (gv e2) rfl)) ?_
  refine sq_cons ⟨_, [(.t 9, mg (leI 0 t0.mWall) (bV (leI t0.mWall 1099511627776)))]⟩ (v_cT rfl rfl rfl (ble _ _ rfl) rfl fun e3 => (v_bin rfl ⟨_, rfl, be e3⟩ rfl (ble _ _ rfl) (gv e3) rfl (b_leq rfl))) ?_
  refine sq_cons ⟨_, [(.t 10, bV ((leI 0 t0.mWall) && (leI t0.mWall 1099511627776)))]⟩ (v_pickB rfl trivial rfl (ble _ _ rfl) rfl (fun e4 => (gv e4)) (fun e5 => rfl) (pA _ _)) ?_
  refine sq_cons ⟨_, [(.t 11, bV ((leI 0 t0.mWall) && (leI t0.mWall 1099511627776)))]⟩ (v_move (.inl rfl) trivial rfl (ble _ _ rfl) rfl) ?_
  refine sq_cons ⟨_, [(.t 12, mg ((leI 0 t0.mWall) && (leI t0.mWall 1099511627776)) (.d (.dp (List.drop 1 (eStamp t0)))))]⟩ (v_cT rfl rfl rfl (ble _ _ rfl) rfl fun e6 => (v_field_dp (a0 := 1) (cs := (eStamp t0)) rfl ⟨_, rfl, be e6⟩ rfl (ble _ _ rfl) fo23_1 rfl)) ?_
  refine sq_cons ⟨_, [(.t 13, mg ((leI 0 t0.mWall) && (leI t0.mWall 1099511627776)) (iV t0.mTick))]⟩ (v_cT rfl rfl rfl (ble _ _ rfl) rfl fun e7 => (v_load_dp1 rfl ⟨_, rfl, be e7⟩ rfl (ble _ _ rfl) onT3 (gv e7) rfl)) ?_
  refine sq_cons ⟨_, [(.t 14, mg ((leI 0 t0.mWall) && (leI t0.mWall 1099511627776)) (bV (leI 0 t0.mTick)))]⟩ (v_cT rfl rfl rfl (ble _ _ rfl) rfl fun e8 => (v_bin rfl ⟨_, rfl, be e8⟩ rfl (ble _ _ rfl) (gv e8) rfl (b_geq rfl))) ?_
  refine sq_cons ⟨_, [(.t 15, bV (((leI 0 t0.mWall) && (leI t0.mWall 1099511627776)) && (leI 0 t0.mTick)))]⟩ (v_pickB rfl trivial rfl (ble _ _ rfl) rfl (fun e9 => (gv e9)) (fun e10 => rfl) (pA _ _)) ?_
  refine sq_cons ⟨_, [(.t 16, bV (((leI 0 t0.mWall) && (leI t0.mWall 1099511627776)) && (leI 0 t0.mTick)))]⟩ (v_move (.inl rfl) trivial rfl (ble _ _ rfl) rfl) ?_
  refine sq_cons ⟨_, [(.t 17, mg (((leI 0 t0.mWall) && (leI t0.mWall 1099511627776)) && (leI 0 t0.mTick)) (.d (.dp (List.drop 1 (eStamp t0)))))]⟩ (v_cT rfl rfl rfl (ble _ _ rfl) rfl fun e11 => (v_field_dp (a0 := 1) (cs := (eStamp t0)) rfl ⟨_, rfl, be e11⟩ rfl (ble _ _ rfl) fo23_1 rfl)) ?_
  refine sq_cons ⟨_, [(.t 18, mg (((leI 0 t0.mWall) && (leI t0.mWall 1099511627776)) && (leI 0 t0.mTick)) (iV t0.mTick))]⟩ (v_cT rfl rfl rfl (ble _ _ rfl) rfl fun e12 => (v_load_dp1 rfl ⟨_, rfl, be e12⟩ rfl (ble _ _ rfl) onT3 (gv e12) rfl)) ?_
  refine sq_cons ⟨_, [(.t 19, mg (((leI 0 t0.mWall) && (leI t0.mWall 1099511627776)) && (leI 0 t0.mTick)) (bV (leI t0.mTick 1048576)))]⟩ (v_cT rfl rfl rfl (ble _ _ rfl) rfl fun e13 => (v_bin rfl ⟨_, rfl, be e13⟩ rfl (ble _ _ rfl) (gv e13) rfl (b_leq rfl))) ?_
  refine sq_cons ⟨_, [(.t 20, bV ((((leI 0 t0.mWall) && (leI t0.mWall 1099511627776)) && (leI 0 t0.mTick)) && (leI t0.mTick 1048576)))]⟩ (v_pickB rfl trivial rfl (ble _ _ rfl) rfl (fun e14 => (gv e14)) (fun e15 => rfl) (pA _ _)) ?_
  refine sq_cons ⟨_, [(.t 21, bV ((((leI 0 t0.mWall) && (leI t0.mWall 1099511627776)) && (leI 0 t0.mTick)) && (leI t0.mTick 1048576)))]⟩ (v_move (.inl rfl) trivial rfl (ble _ _ rfl) rfl) ?_
  refine sq_cons ⟨_, [(.t 22, mg ((((leI 0 t0.mWall) && (leI t0.mWall 1099511627776)) && (leI 0 t0.mTick)) && (leI t0.mTick 1048576)) (.d (.dp (List.drop 2 (eStamp t0)))))]⟩ (v_cT rfl rfl rfl (ble _ _ rfl) rfl fun e16 => (v_field_dp (a0 := 2) (cs := (eStamp t0)) rfl ⟨_, rfl, be e16⟩ rfl (ble _ _ rfl) fo23_2 rfl)) ?_
  refine sq_cons ⟨_, [(.t 23, mg ((((leI 0 t0.mWall) && (leI t0.mWall 1099511627776)) && (leI 0 t0.mTick)) && (leI t0.mTick 1048576)) (iV t0.mNode))]⟩ (v_cT rfl rfl rfl (ble _ _ rfl) rfl fun e17 => (v_load_dp1 rfl ⟨_, rfl, be e17⟩ rfl (ble _ _ rfl) onT3 (gv e17) rfl)) ?_
  refine sq_cons ⟨_, [(.t 24, mg ((((leI 0 t0.mWall) && (leI t0.mWall 1099511627776)) && (leI 0 t0.mTick)) && (leI t0.mTick 1048576)) (bV (leI 0 t0.mNode)))]⟩ (v_cT rfl rfl rfl (ble _ _ rfl) rfl fun e18 => (v_bin rfl ⟨_, rfl, be e18⟩ rfl (ble _ _ rfl) (gv e18) rfl (b_geq rfl))) ?_
  refine sq_cons ⟨_, [(.t 25, bV (((((leI 0 t0.mWall) && (leI t0.mWall 1099511627776)) && (leI 0 t0.mTick)) && (leI t0.mTick 1048576)) && (leI 0 t0.mNode)))]⟩ (v_pickB rfl trivial rfl (ble _ _ rfl) rfl (fun e19 => (gv e19)) (fun e20 => rfl) (pA _ _)) ?_
  refine sq_cons ⟨_, [(.t 26, bV (((((leI 0 t0.mWall) && (leI t0.mWall 1099511627776)) && (leI 0 t0.mTick)) && (leI t0.mTick 1048576)) && (leI 0 t0.mNode)))]⟩ (v_move (.inl rfl) trivial rfl (ble _ _ rfl) rfl) ?_
  refine sq_cons ⟨_, [(.t 27, mg (((((leI 0 t0.mWall) && (leI t0.mWall 1099511627776)) && (leI 0 t0.mTick)) && (leI t0.mTick 1048576)) && (leI 0 t0.mNode)) (.d (.dp (List.drop 2 (eStamp t0)))))]⟩ (v_cT rfl rfl rfl (ble _ _ rfl) rfl fun e21 => (v_field_dp (a0 := 2) (cs := (eStamp t0)) rfl ⟨_, rfl, be e21⟩ rfl (ble _ _ rfl) fo23_2 rfl)) ?_
  refine sq_cons ⟨_, [(.t 28, mg (((((leI 0 t0.mWall) && (leI t0.mWall 1099511627776)) && (leI 0 t0.mTick)) && (leI t0.mTick 1048576)) && (leI 0 t0.mNode)) (iV t0.mNode))]⟩ (v_cT rfl rfl rfl (ble _ _ rfl) rfl fun e22 => (v_load_dp1 rfl ⟨_, rfl, be e22⟩ rfl (ble _ _ rfl) onT3 (gv e22) rfl)) ?_
  refine sq_cons ⟨_, [(.t 29, mg (((((leI 0 t0.mWall) && (leI t0.mWall 1099511627776)) && (leI 0 t0.mTick)) && (leI t0.mTick 1048576)) && (leI 0 t0.mNode)) (bV (leI t0.mNode 255)))]⟩ (v_cT rfl rfl rfl (ble _ _ rfl) rfl fun e23 => (v_bin rfl ⟨_, rfl, be e23⟩ rfl (ble _ _ rfl) (gv e23) rfl (b_leq rfl))) ?_
  refine sq_cons ⟨_, [(.t 30, bV ((((((leI 0 t0.mWall) && (leI t0.mWall 1099511627776)) && (leI 0 t0.mTick)) && (leI t0.mTick 1048576)) && (leI 0 t0.mNode)) && (leI t0.mNode 255)))]⟩ (v_pickB rfl trivial rfl (ble _ _ rfl) rfl (fun e24 => (gv e24)) (fun e25 => rfl) (pA _ _)) ?_
  refine sq_cons ⟨_, [(.t 2, bV ((((((leI 0 t0.mWall) && (leI t0.mWall 1099511627776)) && (leI 0 t0.mTick)) && (leI t0.mTick 1048576)) && (leI 0 t0.mNode)) && (leI t0.mNode 255)))]⟩ (v_move (.inr rfl) trivial rfl (ble _ _ rfl) rfl) ?_
  refine sq_nil ?_
  refine ht_ret ?_
  cases h
  exact ret1 rfl (.tmp rfl)
set_option maxRecDepth 100000 in
set_option maxHeartbeats 4000000 in
theorem s35 (k : Nat) (t0 : ByteArray) (r : Int × Int) (h : F35 k t0 = some r) : Awp.Spec Tryd.prog amb 35 [(.s (.string t0))] (.ds [(.s (.int .i64 r.1)), (.s (.int .i64 r.2))]) := by
  rw [F35] at h
  refine spec_of Tryd.func35 rfl (ble _ _ rfl) fun w0 ok0 lt0 hA => ?_
  refine ht_seq ?_
  refine ht_region ?_
  refine sq_cons ⟨_, [(.t 2, iV 0)]⟩ (v_move (.inr rfl) trivial rfl (ble _ _ rfl) rfl) ?_
  refine sq_cons ⟨_, [(.t 3, iV 0)]⟩ (v_move (.inr rfl) trivial rfl (ble _ _ rfl) rfl) ?_
  refine sq_nil ?_
  refine ht_seq ?_
  refine ht_region ?_
  refine sq_cons ⟨_, [(.t 8, sV t0)]⟩ (v_move (.inl rfl) trivial rfl (ble _ _ rfl) rfl) ?_
  obtain ⟨e1, h⟩ := gpos h
  refine sq_cons ⟨_, [(.t 9, nV .u8 (bt t0 0))]⟩ (v_index rfl trivial rfl (ble _ _ rfl) rfl rfl (i_str und9 e1 rfl)) ?_
  refine sq_cons ⟨_, [(.t 10, iV (IntKind.wrap .i64 (bt t0 0)))]⟩ (v_conv rfl trivial rfl (ble _ _ rfl) rfl (c_int und5 und3 rfl)) ?_
  refine sq_cons ⟨_, [(.t 4, iV (IntKind.wrap .i64 (bt t0 0)))]⟩ (v_move (.inr rfl) trivial rfl (ble _ _ rfl) rfl) ?_
  refine sq_nil ?_
  refine ht_seq ?_
  refine ht_seq ?_
  refine ht_region ?_
  refine sq_cons ⟨_, [(.t 11, iV (IntKind.wrap .i64 (bt t0 0)))]⟩ (v_move (.inl rfl) trivial rfl (ble _ _ rfl) rfl) ?_
  refine sq_cons ⟨_, [(.t 12, bV (ltI (IntKind.wrap .i64 (bt t0 0)) 128))]⟩ (v_bin rfl trivial rfl (ble _ _ rfl) rfl rfl (b_lss rfl)) ?_
  refine sq_nil ?_
  refine ht_cond (b := (ltI (IntKind.wrap .i64 (bt t0 0)) 128)) rfl (fun e2 => ?_) (fun e2 => ?_)
  · replace h := cpos e2 h
    refine ht_seq ?_
    refine ht_region ?_
    refine sq_cons ⟨_, [(.t 13, iV (IntKind.wrap .i64 (bt t0 0)))]⟩ (v_move (.inl rfl) trivial rfl (ble _ _ rfl) rfl) ?_
    refine sq_cons ⟨_, [(.t 2, iV (IntKind.wrap .i64 (bt t0 0)))]⟩ (v_move (.inr rfl) trivial rfl (ble _ _ rfl) rfl) ?_
    refine sq_cons ⟨_, [(.t 3, iV 1)]⟩ (v_move (.inr rfl) trivial rfl (ble _ _ rfl) rfl) ?_
    refine sq_nil ?_
    refine ht_ret ?_
    cases h
    exact ret2 rfl (.tmp rfl) (.tmp rfl)
  · replace h := cneg e2 h
    refine ht_skip ?_
    refine ht_seq ?_
    refine ht_region ?_
    refine sq_cons ⟨_, [(.t 5, iV 0)]⟩ (v_move (.inr rfl) trivial rfl (ble _ _ rfl) rfl) ?_
    refine sq_cons ⟨_, [(.t 6, iV 0)]⟩ (v_move (.inr rfl) trivial rfl (ble _ _ rfl) rfl) ?_
    refine sq_nil ?_
    refine ht_bj h (fun (t4, t5, t6) => tell [(.t 0, sV t0), (.t 4, iV t4), (.t 5, iV t5), (.t 6, iV t6)]) (fun v3 h => ?_) (fun v3 K4 h j6 => ?_)
    · obtain ⟨t4, t5, t6⟩ := v3
      refine ht_seq ?_
      refine ht_seq ?_
      refine ht_region ?_
      refine sq_cons ⟨_, [(.t 38, iV t5)]⟩ (v_move (.inl rfl) trivial rfl (ble _ _ rfl) rfl) ?_
      refine sq_cons ⟨_, [(.t 39, bV (eqI t5 0))]⟩ (v_bin rfl trivial rfl (ble _ _ rfl) rfl rfl (b_eql rfl)) ?_
      refine sq_cons ⟨_, [(.t 40, bV (eqI t5 0))]⟩ (v_move (.inl rfl) trivial rfl (ble _ _ rfl) rfl) ?_
      refine sq_cons ⟨_, [(.t 41, mg (!(eqI t5 0)) (sV t0))]⟩ (v_cF rfl rfl rfl (ble _ _ rfl) rfl fun e23 => (v_move (.inl rfl) ⟨_, rfl, be e23⟩ rfl (ble _ _ rfl) rfl)) ?_
      refine sq_cons ⟨_, [(.t 42, mg (!(eqI t5 0)) (iV (t0.size : Int)))]⟩ (v_cF rfl rfl rfl (ble _ _ rfl) rfl fun e24 => (v_len_str rfl rfl ⟨_, rfl, be e24⟩ rfl (ble _ _ rfl) und9 (gv (nF e24)))) ?_
      refine sq_cons ⟨_, [(.t 43, mg (!(eqI t5 0)) (iV t5))]⟩ (v_cF rfl rfl rfl (ble _ _ rfl) rfl fun e25 => (v_move (.inl rfl) ⟨_, rfl, be e25⟩ rfl (ble _ _ rfl) rfl)) ?_
      refine sq_cons ⟨_, [(.t 44, mg (!(eqI t5 0)) (bV (ltI (t0.size : Int) t5)))]⟩ (v_cF rfl rfl rfl (ble _ _ rfl) rfl fun e26 => (v_bin rfl ⟨_, rfl, be e26⟩ rfl (ble _ _ rfl) (gv (nF e26)) (gv (nF e26)) (b_lss rfl))) ?_
      refine sq_cons ⟨_, [(.t 45, bV ((eqI t5 0) || (ltI (t0.size : Int) t5)))]⟩ (v_pickB rfl trivial rfl (ble _ _ rfl) rfl (fun e27 => rfl) (fun e28 => (gv (nF e28))) (pO _ _)) ?_
      refine sq_nil ?_
      refine ht_cond (b := ((eqI t5 0) || (ltI (t0.size : Int) t5))) rfl (fun e29 => ?_) (fun e29 => ?_)
      · replace h := cpos e29 h
        refine ht_seq ?_
        refine ht_region ?_
        refine sq_cons ⟨_, [(.t 2, iV (-1))]⟩ (v_move (.inr rfl) trivial rfl (ble _ _ rfl) rfl) ?_
        refine sq_cons ⟨_, [(.t 3, iV 1)]⟩ (v_move (.inr rfl) trivial rfl (ble _ _ rfl) rfl) ?_
        refine sq_nil ?_
        refine ht_ret ?_
        cases h
        exact ret2 rfl (.tmp rfl) (.tmp rfl)
      · replace h := cneg e29 h
        refine ht_skip ?_
        refine ht_gj (go_id' h) (fun t4_1 => tell [(.t 4, iV t4_1), (.t 5, iV t5), (.t 6, iV t6)]) (fun t4_1 h => ?_) (fun v30 K31 h j33 r34 => ?_)
        · refine ht_seq ?_
          refine ht_seq ?_
          refine ht_region ?_
          refine sq_cons ⟨_, [(.t 69, iV t4_1)]⟩ (v_move (.inl rfl) trivial rfl (ble _ _ rfl) rfl) ?_
          refine sq_cons ⟨_, [(.t 70, iV t6)]⟩ (v_move (.inl rfl) trivial rfl (ble _ _ rfl) rfl) ?_
          refine sq_cons ⟨_, [(.t 71, bV (ltI t4_1 t6))]⟩ (v_bin rfl trivial rfl (ble _ _ rfl) rfl rfl (b_lss rfl)) ?_
          refine sq_cons ⟨_, [(.t 72, bV (ltI t4_1 t6))]⟩ (v_move (.inl rfl) trivial rfl (ble _ _ rfl) rfl) ?_
          refine sq_cons ⟨_, [(.t 73, mg (!(ltI t4_1 t6)) (iV t4_1))]⟩ (v_cF rfl rfl rfl (ble _ _ rfl) rfl fun e51 => (v_move (.inl rfl) ⟨_, rfl, be e51⟩ rfl (ble _ _ rfl) rfl)) ?_
          refine sq_cons ⟨_, [(.t 74, mg (!(ltI t4_1 t6)) (bV (ltI 1114111 t4_1)))]⟩ (v_cF rfl rfl rfl (ble _ _ rfl) rfl fun e52 => (v_bin rfl ⟨_, rfl, be e52⟩ rfl (ble _ _ rfl) (gv (nF e52)) rfl (b_gtr rfl))) ?_
          refine sq_cons ⟨_, [(.t 75, bV ((ltI t4_1 t6) || (ltI 1114111 t4_1)))]⟩ (v_pickB rfl trivial rfl (ble _ _ rfl) rfl (fun e53 => rfl) (fun e54 => (gv (nF e54))) (pO _ _)) ?_
          refine sq_cons ⟨_, [(.t 76, bV ((ltI t4_1 t6) || (ltI 1114111 t4_1)))]⟩ (v_move (.inl rfl) trivial rfl (ble _ _ rfl) rfl) ?_
          refine sq_cons ⟨_, [(.t 77, mg (!((ltI t4_1 t6) || (ltI 1114111 t4_1))) (iV t4_1))]⟩ (v_cF rfl rfl rfl (ble _ _ rfl) rfl fun e55 => (v_move (.inl rfl) ⟨_, rfl, be e55⟩ rfl (ble _ _ rfl) rfl)) ?_
          refine sq_cons ⟨_, [(.t 78, mg (!((ltI t4_1 t6) || (ltI 1114111 t4_1))) (bV (leI 55296 t4_1)))]⟩ (v_cF rfl rfl rfl (ble _ _ rfl) rfl fun e56 => (v_bin rfl ⟨_, rfl, be e56⟩ rfl (ble _ _ rfl) (gv (nF e56)) rfl (b_geq rfl))) ?_
          refine sq_cons ⟨_, [(.t 79, mg (!((ltI t4_1 t6) || (ltI 1114111 t4_1))) (bV (leI 55296 t4_1)))]⟩ (v_cF rfl rfl rfl (ble _ _ rfl) rfl fun e57 => (v_move (.inl rfl) ⟨_, rfl, be e57⟩ rfl (ble _ _ rfl) (gv (nF e57)))) ?_
          refine sq_cons ⟨_, [(.t 80, mg ((!((ltI t4_1 t6) || (ltI 1114111 t4_1))) && (leI 55296 t4_1)) (iV t4_1))]⟩ (v_mT rfl rfl rfl (ble _ _ rfl) rfl fun e58 e59 => (v_move (.inl rfl) ⟨_, rfl, bm e58 e59⟩ rfl (ble _ _ rfl) rfl)) ?_
          refine sq_cons ⟨_, [(.t 81, mg ((!((ltI t4_1 t6) || (ltI 1114111 t4_1))) && (leI 55296 t4_1)) (bV (ltI t4_1 57344)))]⟩ (v_mT rfl rfl rfl (ble _ _ rfl) rfl fun e60 e61 => (v_bin rfl ⟨_, rfl, bm e60 e61⟩ rfl (ble _ _ rfl) (gv (aT e60 e61)) rfl (b_lss rfl))) ?_
          refine sq_cons ⟨_, [(.t 82, mg (!((ltI t4_1 t6) || (ltI 1114111 t4_1))) (bV ((leI 55296 t4_1) && (ltI t4_1 57344))))]⟩ (v_cF rfl rfl rfl (ble _ _ rfl) rfl fun e62 => (v_pickB rfl ⟨_, rfl, be e62⟩ rfl (ble _ _ rfl) (gv (nF e62)) (fun e63 => (gv (aT (nF e62) e63))) (fun e64 => rfl) (pA _ _))) ?_
          refine sq_cons ⟨_, [(.t 83, bV (((ltI t4_1 t6) || (ltI 1114111 t4_1)) || ((leI 55296 t4_1) && (ltI t4_1 57344))))]⟩ (v_pickB rfl trivial rfl (ble _ _ rfl) rfl (fun e65 => rfl) (fun e66 => (gv (nF e66))) (pO _ _)) ?_
          refine sq_nil ?_
          refine ht_cond (b := (((ltI t4_1 t6) || (ltI 1114111 t4_1)) || ((leI 55296 t4_1) && (ltI t4_1 57344)))) rfl (fun e67 => ?_) (fun e67 => ?_)
          · replace h := cpos e67 h
            refine ht_seq ?_
            refine ht_region ?_
            refine sq_cons ⟨_, [(.t 2, iV (-1))]⟩ (v_move (.inr rfl) trivial rfl (ble _ _ rfl) rfl) ?_
            refine sq_cons ⟨_, [(.t 3, iV 1)]⟩ (v_move (.inr rfl) trivial rfl (ble _ _ rfl) rfl) ?_
            refine sq_nil ?_
            refine ht_ret ?_
            cases h
            exact ret2 rfl (.tmp rfl) (.tmp rfl)
          · replace h := cneg e67 h
            refine ht_skip ?_
            refine ht_seq ?_
            refine ht_region ?_
            refine sq_cons ⟨_, [(.t 84, iV t4_1)]⟩ (v_move (.inl rfl) trivial rfl (ble _ _ rfl) rfl) ?_
            refine sq_cons ⟨_, [(.t 85, iV t5)]⟩ (v_move (.inl rfl) trivial rfl (ble _ _ rfl) rfl) ?_
            refine sq_cons ⟨_, [(.t 2, iV t4_1)]⟩ (v_move (.inr rfl) trivial rfl (ble _ _ rfl) rfl) ?_
            refine sq_cons ⟨_, [(.t 3, iV t5)]⟩ (v_move (.inr rfl) trivial rfl (ble _ _ rfl) rfl) ?_
            refine sq_nil ?_
            refine ht_ret ?_
            cases h
            exact ret2 rfl (.tmp rfl) (.tmp rfl)
        · refine ht_seq ?_
          refine ht_region ?_
          refine sq_cons ⟨_, [(.t 7, iV 1)]⟩ (v_move (.inr rfl) trivial rfl (ble _ _ rfl) rfl) ?_
          refine sq_nil ?_
          refine ht_block ?_
          refine ht_rd h (fun _ => rfl) (fun (t4_2, t7) => tell [(.t 0, sV t0), (.t 4, iV t4_2), (.t 5, iV t5), (.t 6, iV t6), (.t 7, iV t7)]) (wk_ren _ (fun i => i) rfl ⟨rfl, rfl, rfl, rfl, rfl, trivial⟩) fun k v37 h K50 j36 => ?_
          obtain ⟨t4_2, t7⟩ := v37
          rw [F35_l1] at h
          refine ht_seq ?_
          refine ht_seq ?_
          refine ht_region ?_
          refine sq_cons ⟨_, [(.t 46, iV t7)]⟩ (v_move (.inl rfl) trivial rfl (ble _ _ rfl) rfl) ?_
          refine sq_cons ⟨_, [(.t 47, iV t5)]⟩ (v_move (.inl rfl) trivial rfl (ble _ _ rfl) rfl) ?_
          refine sq_cons ⟨_, [(.t 48, bV (ltI t7 t5))]⟩ (v_bin rfl trivial rfl (ble _ _ rfl) rfl rfl (b_lss rfl)) ?_
          refine sq_nil ?_
          refine ht_cond (b := (ltI t7 t5)) rfl (fun e38 => ?_) (fun e38 => ?_)
          · replace h := cpos e38 h
            refine ht_skip ?_
            refine ht_seq ?_
            refine ht_block ?_
            refine ht_seq ?_
            refine ht_seq ?_
            refine ht_region ?_
            refine sq_cons ⟨_, [(.t 51, sV t0)]⟩ (v_move (.inl rfl) trivial rfl (ble _ _ rfl) rfl) ?_
            refine sq_cons ⟨_, [(.t 52, iV t7)]⟩ (v_move (.inl rfl) trivial rfl (ble _ _ rfl) rfl) ?_
            obtain ⟨e39, h⟩ := gpos h
            refine sq_cons ⟨_, [(.t 53, nV .u8 (bt t0 t7))]⟩ (v_index rfl trivial rfl (ble _ _ rfl) rfl rfl (i_str und9 e39 rfl)) ?_
            refine sq_cons ⟨_, [(.t 54, bV (ltI (bt t0 t7) 128))]⟩ (v_bin rfl trivial rfl (ble _ _ rfl) rfl rfl (b_lss rfl)) ?_
            refine sq_cons ⟨_, [(.t 55, bV (ltI (bt t0 t7) 128))]⟩ (v_move (.inl rfl) trivial rfl (ble _ _ rfl) rfl) ?_
            refine sq_cons ⟨_, [(.t 56, mg (!(ltI (bt t0 t7) 128)) (sV t0))]⟩ (v_cF rfl rfl rfl (ble _ _ rfl) rfl fun e40 => (v_move (.inl rfl) ⟨_, rfl, be e40⟩ rfl (ble _ _ rfl) rfl)) ?_
            refine sq_cons ⟨_, [(.t 57, mg (!(ltI (bt t0 t7) 128)) (iV t7))]⟩ (v_cF rfl rfl rfl (ble _ _ rfl) rfl fun e41 => (v_move (.inl rfl) ⟨_, rfl, be e41⟩ rfl (ble _ _ rfl) rfl)) ?_
            obtain ⟨e43, h⟩ := gpos h
            refine sq_cons ⟨_, [(.t 58, mg (!(ltI (bt t0 t7) 128)) (nV .u8 (bt t0 t7)))]⟩ (v_cF rfl rfl rfl (ble _ _ rfl) rfl fun e42 => (v_index rfl ⟨_, rfl, be e42⟩ rfl (ble _ _ rfl) (gv (nF e42)) (gv (nF e42)) (i_str und9 (orT e43 (nF e42)) rfl))) ?_
            refine sq_cons ⟨_, [(.t 59, mg (!(ltI (bt t0 t7) 128)) (bV (ltI 191 (bt t0 t7))))]⟩ (v_cF rfl rfl rfl (ble _ _ rfl) rfl fun e44 => (v_bin rfl ⟨_, rfl, be e44⟩ rfl (ble _ _ rfl) (gv (nF e44)) rfl (b_gtr rfl))) ?_
            refine sq_cons ⟨_, [(.t 60, bV ((ltI (bt t0 t7) 128) || (ltI 191 (bt t0 t7))))]⟩ (v_pickB rfl trivial rfl (ble _ _ rfl) rfl (fun e45 => rfl) (fun e46 => (gv (nF e46))) (pO _ _)) ?_
            refine sq_nil ?_
            refine ht_cond (b := ((ltI (bt t0 t7) 128) || (ltI 191 (bt t0 t7)))) rfl (fun e47 => ?_) (fun e47 => ?_)
            · replace h := cpos e47 h
              refine ht_seq ?_
              refine ht_region ?_
              refine sq_cons ⟨_, [(.t 2, iV (-1))]⟩ (v_move (.inr rfl) trivial rfl (ble _ _ rfl) rfl) ?_
              refine sq_cons ⟨_, [(.t 3, iV 1)]⟩ (v_move (.inr rfl) trivial rfl (ble _ _ rfl) rfl) ?_
              refine sq_nil ?_
              refine ht_ret ?_
              cases h
              cases r34 _ rfl
              exact ret2 rfl (.tmp rfl) (.tmp rfl)
            · replace h := cneg e47 h
              refine ht_skip ?_
              refine ht_region ?_
              refine sq_cons ⟨_, [(.t 61, iV t4_2)]⟩ (v_move (.inl rfl) trivial rfl (ble _ _ rfl) rfl) ?_
              refine sq_cons ⟨_, [(.t 62, iV (IntKind.wrap .i64 (64 * t4_2)))]⟩ (v_bin rfl trivial rfl (ble _ _ rfl) rfl rfl (b_mul rfl)) ?_
              refine sq_cons ⟨_, [(.t 63, sV t0)]⟩ (v_move (.inl rfl) trivial rfl (ble _ _ rfl) rfl) ?_
              refine sq_cons ⟨_, [(.t 64, iV t7)]⟩ (v_move (.inl rfl) trivial rfl (ble _ _ rfl) rfl) ?_
              obtain ⟨e48, h⟩ := gpos h
              refine sq_cons ⟨_, [(.t 65, nV .u8 (bt t0 t7))]⟩ (v_index rfl trivial rfl (ble _ _ rfl) rfl rfl (i_str und9 e48 rfl)) ?_
              refine sq_cons ⟨_, [(.t 66, iV (IntKind.wrap .i64 (bt t0 t7)))]⟩ (v_conv rfl trivial rfl (ble _ _ rfl) rfl (c_int und5 und3 rfl)) ?_
              obtain ⟨t67, q49, h⟩ := bndp h
              refine sq_cons ⟨_, [(.t 67, iV t67)]⟩ (v_bin rfl trivial rfl (ble _ _ rfl) rfl rfl (b_add q49)) ?_
              refine sq_cons ⟨_, [(.t 68, iV (IntKind.wrap .i64 (t67 - 128)))]⟩ (v_bin rfl trivial rfl (ble _ _ rfl) rfl rfl (b_sub rfl)) ?_
              refine sq_cons ⟨_, [(.t 4, iV (IntKind.wrap .i64 (t67 - 128)))]⟩ (v_move (.inr rfl) trivial rfl (ble _ _ rfl) rfl) ?_
              refine sq_nil ?_
              refine ht_region ?_
              refine sq_cons ⟨_, [(.t 49, iV t7)]⟩ (v_move (.inl rfl) trivial rfl (ble _ _ rfl) rfl) ?_
              refine sq_cons ⟨_, [(.t 50, iV (IntKind.wrap .i64 (t7 + 1)))]⟩ (v_bin rfl trivial rfl (ble _ _ rfl) rfl rfl (b_add rfl)) ?_
              refine sq_cons ⟨_, [(.t 7, iV (IntKind.wrap .i64 (t7 + 1)))]⟩ (v_move (.inr rfl) trivial rfl (ble _ _ rfl) rfl) ?_
              refine sq_nil ?_
              exact j36 _ _ h (wk_ren _ (fun i => i) rfl ⟨rfl, rfl, rfl, rfl, rfl, trivial⟩)
          · replace h := cneg e38 h
            refine ht_exit ?_
            refine tq ?_
            refine tq ?_
            refine bq_hit ?_
            cases h
            exact j33 _ _ rfl (wk_ren _ (fun i => i) rfl ⟨rfl, rfl, rfl, trivial⟩)
    · refine ht_seq ?_
      refine ht_region ?_
      refine sq_cons ⟨_, [(.t 14, iV (IntKind.wrap .i64 (bt t0 0)))]⟩ (v_move (.inl rfl) trivial rfl (ble _ _ rfl) rfl) ?_
      refine sq_cons ⟨_, [(.t 15, bV (leI 194 (IntKind.wrap .i64 (bt t0 0))))]⟩ (v_bin rfl trivial rfl (ble _ _ rfl) rfl rfl (b_geq rfl)) ?_
      refine sq_cons ⟨_, [(.t 16, bV (leI 194 (IntKind.wrap .i64 (bt t0 0))))]⟩ (v_move (.inl rfl) trivial rfl (ble _ _ rfl) rfl) ?_
      refine sq_cons ⟨_, [(.t 17, mg (leI 194 (IntKind.wrap .i64 (bt t0 0))) (iV (IntKind.wrap .i64 (bt t0 0))))]⟩ (v_cT rfl rfl rfl (ble _ _ rfl) rfl fun e8 => (v_move (.inl rfl) ⟨_, rfl, be e8⟩ rfl (ble _ _ rfl) rfl)) ?_
      refine sq_cons ⟨_, [(.t 18, mg (leI 194 (IntKind.wrap .i64 (bt t0 0))) (bV (ltI (IntKind.wrap .i64 (bt t0 0)) 224)))]⟩ (v_cT rfl rfl rfl (ble _ _ rfl) rfl fun e9 => (v_bin rfl ⟨_, rfl, be e9⟩ rfl (ble _ _ rfl) (gv e9) rfl (b_lss rfl))) ?_
      refine sq_cons ⟨_, [(.t 19, bV ((leI 194 (IntKind.wrap .i64 (bt t0 0))) && (ltI (IntKind.wrap .i64 (bt t0 0)) 224)))]⟩ (v_pickB rfl trivial rfl (ble _ _ rfl) rfl (fun e10 => (gv e10)) (fun e11 => rfl) (pA _ _)) ?_
      refine sq_nil ?_
      refine ht_cond (b := ((leI 194 (IntKind.wrap .i64 (bt t0 0))) && (ltI (IntKind.wrap .i64 (bt t0 0)) 224))) rfl (fun e12 => ?_) (fun e12 => ?_)
      · replace h := cpos e12 h
        refine ht_region ?_
        refine sq_cons ⟨_, [(.t 20, iV (IntKind.wrap .i64 (bt t0 0)))]⟩ (v_move (.inl rfl) trivial rfl (ble _ _ rfl) rfl) ?_
        refine sq_cons ⟨_, [(.t 21, iV (IntKind.wrap .i64 ((IntKind.wrap .i64 (bt t0 0)) - 192)))]⟩ (v_bin rfl trivial rfl (ble _ _ rfl) rfl rfl (b_sub rfl)) ?_
        refine sq_cons ⟨_, [(.t 5, iV 2)]⟩ (v_move (.inr rfl) trivial rfl (ble _ _ rfl) rfl) ?_
        refine sq_cons ⟨_, [(.t 6, iV 128)]⟩ (v_move (.inr rfl) trivial rfl (ble _ _ rfl) rfl) ?_
        refine sq_cons ⟨_, [(.t 4, iV (IntKind.wrap .i64 ((IntKind.wrap .i64 (bt t0 0)) - 192)))]⟩ (v_move (.inr rfl) trivial rfl (ble _ _ rfl) rfl) ?_
        refine sq_nil ?_
        cases h
        exact j6 _ (wk_ren _ (fun i => i) rfl ⟨rfl, rfl, rfl, rfl, trivial⟩)
      · replace h := cneg e12 h
        refine ht_seq ?_
        refine ht_region ?_
        refine sq_cons ⟨_, [(.t 22, iV (IntKind.wrap .i64 (bt t0 0)))]⟩ (v_move (.inl rfl) trivial rfl (ble _ _ rfl) rfl) ?_
        refine sq_cons ⟨_, [(.t 23, bV (leI 224 (IntKind.wrap .i64 (bt t0 0))))]⟩ (v_bin rfl trivial rfl (ble _ _ rfl) rfl rfl (b_geq rfl)) ?_
        refine sq_cons ⟨_, [(.t 24, bV (leI 224 (IntKind.wrap .i64 (bt t0 0))))]⟩ (v_move (.inl rfl) trivial rfl (ble _ _ rfl) rfl) ?_
        refine sq_cons ⟨_, [(.t 25, mg (leI 224 (IntKind.wrap .i64 (bt t0 0))) (iV (IntKind.wrap .i64 (bt t0 0))))]⟩ (v_cT rfl rfl rfl (ble _ _ rfl) rfl fun e13 => (v_move (.inl rfl) ⟨_, rfl, be e13⟩ rfl (ble _ _ rfl) rfl)) ?_
        refine sq_cons ⟨_, [(.t 26, mg (leI 224 (IntKind.wrap .i64 (bt t0 0))) (bV (ltI (IntKind.wrap .i64 (bt t0 0)) 240)))]⟩ (v_cT rfl rfl rfl (ble _ _ rfl) rfl fun e14 => (v_bin rfl ⟨_, rfl, be e14⟩ rfl (ble _ _ rfl) (gv e14) rfl (b_lss rfl))) ?_
        refine sq_cons ⟨_, [(.t 27, bV ((leI 224 (IntKind.wrap .i64 (bt t0 0))) && (ltI (IntKind.wrap .i64 (bt t0 0)) 240)))]⟩ (v_pickB rfl trivial rfl (ble _ _ rfl) rfl (fun e15 => (gv e15)) (fun e16 => rfl) (pA _ _)) ?_
        refine sq_nil ?_
        refine ht_cond (b := ((leI 224 (IntKind.wrap .i64 (bt t0 0))) && (ltI (IntKind.wrap .i64 (bt t0 0)) 240))) rfl (fun e17 => ?_) (fun e17 => ?_)
        · replace h := cpos e17 h
          refine ht_region ?_
          refine sq_cons ⟨_, [(.t 28, iV (IntKind.wrap .i64 (bt t0 0)))]⟩ (v_move (.inl rfl) trivial rfl (ble _ _ rfl) rfl) ?_
          refine sq_cons ⟨_, [(.t 29, iV (IntKind.wrap .i64 ((IntKind.wrap .i64 (bt t0 0)) - 224)))]⟩ (v_bin rfl trivial rfl (ble _ _ rfl) rfl rfl (b_sub rfl)) ?_
          refine sq_cons ⟨_, [(.t 5, iV 3)]⟩ (v_move (.inr rfl) trivial rfl (ble _ _ rfl) rfl) ?_
          refine sq_cons ⟨_, [(.t 6, iV 2048)]⟩ (v_move (.inr rfl) trivial rfl (ble _ _ rfl) rfl) ?_
          refine sq_cons ⟨_, [(.t 4, iV (IntKind.wrap .i64 ((IntKind.wrap .i64 (bt t0 0)) - 224)))]⟩ (v_move (.inr rfl) trivial rfl (ble _ _ rfl) rfl) ?_
          refine sq_nil ?_
          cases h
          exact j6 _ (wk_ren _ (fun i => i) rfl ⟨rfl, rfl, rfl, rfl, trivial⟩)
        · replace h := cneg e17 h
          refine ht_seq ?_
          refine ht_region ?_
          refine sq_cons ⟨_, [(.t 30, iV (IntKind.wrap .i64 (bt t0 0)))]⟩ (v_move (.inl rfl) trivial rfl (ble _ _ rfl) rfl) ?_
          refine sq_cons ⟨_, [(.t 31, bV (leI 240 (IntKind.wrap .i64 (bt t0 0))))]⟩ (v_bin rfl trivial rfl (ble _ _ rfl) rfl rfl (b_geq rfl)) ?_
          refine sq_cons ⟨_, [(.t 32, bV (leI 240 (IntKind.wrap .i64 (bt t0 0))))]⟩ (v_move (.inl rfl) trivial rfl (ble _ _ rfl) rfl) ?_
          refine sq_cons ⟨_, [(.t 33, mg (leI 240 (IntKind.wrap .i64 (bt t0 0))) (iV (IntKind.wrap .i64 (bt t0 0))))]⟩ (v_cT rfl rfl rfl (ble _ _ rfl) rfl fun e18 => (v_move (.inl rfl) ⟨_, rfl, be e18⟩ rfl (ble _ _ rfl) rfl)) ?_
          refine sq_cons ⟨_, [(.t 34, mg (leI 240 (IntKind.wrap .i64 (bt t0 0))) (bV (ltI (IntKind.wrap .i64 (bt t0 0)) 245)))]⟩ (v_cT rfl rfl rfl (ble _ _ rfl) rfl fun e19 => (v_bin rfl ⟨_, rfl, be e19⟩ rfl (ble _ _ rfl) (gv e19) rfl (b_lss rfl))) ?_
          refine sq_cons ⟨_, [(.t 35, bV ((leI 240 (IntKind.wrap .i64 (bt t0 0))) && (ltI (IntKind.wrap .i64 (bt t0 0)) 245)))]⟩ (v_pickB rfl trivial rfl (ble _ _ rfl) rfl (fun e20 => (gv e20)) (fun e21 => rfl) (pA _ _)) ?_
          refine sq_nil ?_
          refine ht_cond (b := ((leI 240 (IntKind.wrap .i64 (bt t0 0))) && (ltI (IntKind.wrap .i64 (bt t0 0)) 245))) rfl (fun e22 => ?_) (fun e22 => ?_)
          · replace h := cpos e22 h
            refine ht_region ?_
            refine sq_cons ⟨_, [(.t 36, iV (IntKind.wrap .i64 (bt t0 0)))]⟩ (v_move (.inl rfl) trivial rfl (ble _ _ rfl) rfl) ?_
            refine sq_cons ⟨_, [(.t 37, iV (IntKind.wrap .i64 ((IntKind.wrap .i64 (bt t0 0)) - 240)))]⟩ (v_bin rfl trivial rfl (ble _ _ rfl) rfl rfl (b_sub rfl)) ?_
            refine sq_cons ⟨_, [(.t 5, iV 4)]⟩ (v_move (.inr rfl) trivial rfl (ble _ _ rfl) rfl) ?_
            refine sq_cons ⟨_, [(.t 6, iV 65536)]⟩ (v_move (.inr rfl) trivial rfl (ble _ _ rfl) rfl) ?_
            refine sq_cons ⟨_, [(.t 4, iV (IntKind.wrap .i64 ((IntKind.wrap .i64 (bt t0 0)) - 240)))]⟩ (v_move (.inr rfl) trivial rfl (ble _ _ rfl) rfl) ?_
            refine sq_nil ?_
            cases h
            exact j6 _ (wk_ren _ (fun i => i) rfl ⟨rfl, rfl, rfl, rfl, trivial⟩)
          · replace h := cneg e22 h
            refine ht_skip ?_
            cases h
            exact j6 _ (wk_ren _ (fun i => i) rfl ⟨rfl, rfl, rfl, rfl, trivial⟩)
set_option maxRecDepth 100000 in
set_option maxHeartbeats 4000000 in
theorem s36 (k : Nat) (t0 : Int) (r : Bool) (h : F36 k t0 = some r) : Awp.Spec Tryd.prog amb 36 [(.s (.int .i64 t0))] (.ds [(.s (.bool r))]) := by
  rw [F36] at h
  refine spec_of Tryd.func36 rfl (ble _ _ rfl) fun w0 ok0 lt0 hA => ?_
  refine ht_seq ?_
  refine ht_region ?_
  refine sq_cons ⟨_, [(.t 2, bV false)]⟩ (v_move (.inr rfl) trivial rfl (ble _ _ rfl) rfl) ?_
  refine sq_nil ?_
  refine ht_seq ?_
  refine ht_region ?_
  refine sq_cons ⟨_, [(.t 3, iV t0)]⟩ (v_move (.inl rfl) trivial rfl (ble _ _ rfl) rfl) ?_
  refine sq_cons ⟨_, [(.t 4, bV (ltI 32 t0))]⟩ (v_bin rfl trivial rfl (ble _ _ rfl) rfl rfl (b_gtr rfl)) ?_
  refine sq_cons ⟨_, [(.t 5, bV (ltI 32 t0))]⟩ (v_move (.inl rfl) trivial rfl (ble _ _ rfl) rfl) ?_
  refine sq_cons ⟨_, [(.t 6, mg (ltI 32 t0) (iV t0))]⟩ (v_cT rfl rfl rfl (ble _ _ rfl) rfl fun e1 => (v_move (.inl rfl) ⟨_, rfl, be e1⟩ rfl (ble _ _ rfl) rfl)) ?_
  refine sq_cons ⟨_, [(.t 7, mg (ltI 32 t0) (bV (!eqI t0 127)))]⟩ (v_cT rfl rfl rfl (ble _ _ rfl) rfl fun e2 => (v_bin rfl ⟨_, rfl, be e2⟩ rfl (ble _ _ rfl) (gv e2) rfl (b_neq rfl))) ?_
  refine sq_cons ⟨_, [(.t 8, bV ((ltI 32 t0) && (!eqI t0 127)))]⟩ (v_pickB rfl trivial rfl (ble _ _ rfl) rfl (fun e3 => (gv e3)) (fun e4 => rfl) (pA _ _)) ?_
  refine sq_cons ⟨_, [(.t 9, bV ((ltI 32 t0) && (!eqI t0 127)))]⟩ (v_move (.inl rfl) trivial rfl (ble _ _ rfl) rfl) ?_
  refine sq_cons ⟨_, [(.t 10, mg ((ltI 32 t0) && (!eqI t0 127)) (iV t0))]⟩ (v_cT rfl rfl rfl (ble _ _ rfl) rfl fun e5 => (v_move (.inl rfl) ⟨_, rfl, be e5⟩ rfl (ble _ _ rfl) rfl)) ?_
  refine sq_cons ⟨_, [(.t 11, mg ((ltI 32 t0) && (!eqI t0 127)) (bV (ltI t0 128)))]⟩ (v_cT rfl rfl rfl (ble _ _ rfl) rfl fun e6 => (v_bin rfl ⟨_, rfl, be e6⟩ rfl (ble _ _ rfl) (gv e6) rfl (b_lss rfl))) ?_
  refine sq_cons ⟨_, [(.t 12, mg ((ltI 32 t0) && (!eqI t0 127)) (bV (ltI t0 128)))]⟩ (v_cT rfl rfl rfl (ble _ _ rfl) rfl fun e7 => (v_move (.inl rfl) ⟨_, rfl, be e7⟩ rfl (ble _ _ rfl) (gv e7))) ?_
  refine sq_cons ⟨_, [(.t 13, mg (((ltI 32 t0) && (!eqI t0 127)) && (!(ltI t0 128))) (iV t0))]⟩ (v_mF rfl rfl rfl (ble _ _ rfl) rfl fun e8 e9 => (v_move (.inl rfl) ⟨_, rfl, bm e8 e9⟩ rfl (ble _ _ rfl) rfl)) ?_
  refine sq_cons ⟨_, [(.t 14, mg (((ltI 32 t0) && (!eqI t0 127)) && (!(ltI t0 128))) (bV (ltI 159 t0)))]⟩ (v_mF rfl rfl rfl (ble _ _ rfl) rfl fun e10 e11 => (v_bin rfl ⟨_, rfl, bm e10 e11⟩ rfl (ble _ _ rfl) (gv (aT e10 (nF e11))) rfl (b_gtr rfl))) ?_
  refine sq_cons ⟨_, [(.t 15, mg ((ltI 32 t0) && (!eqI t0 127)) (bV ((ltI t0 128) || (ltI 159 t0))))]⟩ (v_cT rfl rfl rfl (ble _ _ rfl) rfl fun e12 => (v_pickB rfl ⟨_, rfl, be e12⟩ rfl (ble _ _ rfl) (gv e12) (fun e13 => rfl) (fun e14 => (gv (aT e12 (nF e14)))) (pO _ _))) ?_
  refine sq_cons ⟨_, [(.t 16, bV (((ltI 32 t0) && (!eqI t0 127)) && ((ltI t0 128) || (ltI 159 t0))))]⟩ (v_pickB rfl trivial rfl (ble _ _ rfl) rfl (fun e15 => (gv e15)) (fun e16 => rfl) (pA _ _)) ?_
  refine sq_cons ⟨_, [(.t 2, bV (((ltI 32 t0) && (!eqI t0 127)) && ((ltI t0 128) || (ltI 159 t0))))]⟩ (v_move (.inr rfl) trivial rfl (ble _ _ rfl) rfl) ?_
  refine sq_nil ?_
  refine ht_ret ?_
  cases h
  exact ret1 rfl (.tmp rfl)
set_option maxRecDepth 100000 in
set_option maxHeartbeats 4000000 in
theorem s17 (k : Nat) (t0 : ByteArray) (r : Bool) (h : F17 k t0 = some r) : Awp.Spec Tryd.prog amb 17 [(.s (.string t0))] (.ds [(.s (.bool r))]) := by
  rw [F17] at h
  refine spec_of Tryd.func17 rfl (ble _ _ rfl) fun w0 ok0 lt0 hA => ?_
  refine ht_seq ?_
  refine ht_region ?_
  refine sq_cons ⟨_, [(.t 2, bV false)]⟩ (v_move (.inr rfl) trivial rfl (ble _ _ rfl) rfl) ?_
  refine sq_nil ?_
  refine ht_seq ?_
  refine ht_seq ?_
  refine ht_region ?_
  refine sq_cons ⟨_, [(.t 5, sV t0)]⟩ (v_move (.inl rfl) trivial rfl (ble _ _ rfl) rfl) ?_
  refine sq_cons ⟨_, [(.t 6, iV (t0.size : Int))]⟩ (v_len_str rfl rfl trivial rfl (ble _ _ rfl) und9 rfl) ?_
  refine sq_cons ⟨_, [(.t 7, bV (eqI (t0.size : Int) 0))]⟩ (v_bin rfl trivial rfl (ble _ _ rfl) rfl rfl (b_eql rfl)) ?_
  refine sq_cons ⟨_, [(.t 8, bV (eqI (t0.size : Int) 0))]⟩ (v_move (.inl rfl) trivial rfl (ble _ _ rfl) rfl) ?_
  refine sq_cons ⟨_, [(.t 9, mg (!(eqI (t0.size : Int) 0)) (sV t0))]⟩ (v_cF rfl rfl rfl (ble _ _ rfl) rfl fun e1 => (v_move (.inl rfl) ⟨_, rfl, be e1⟩ rfl (ble _ _ rfl) rfl)) ?_
  refine sq_cons ⟨_, [(.t 10, mg (!(eqI (t0.size : Int) 0)) (iV (t0.size : Int)))]⟩ (v_cF rfl rfl rfl (ble _ _ rfl) rfl fun e2 => (v_len_str rfl rfl ⟨_, rfl, be e2⟩ rfl (ble _ _ rfl) und9 (gv (nF e2)))) ?_
  refine sq_cons ⟨_, [(.t 11, mg (!(eqI (t0.size : Int) 0)) (bV (ltI 16 (t0.size : Int))))]⟩ (v_cF rfl rfl rfl (ble _ _ rfl) rfl fun e3 => (v_bin rfl ⟨_, rfl, be e3⟩ rfl (ble _ _ rfl) (gv (nF e3)) rfl (b_gtr rfl))) ?_
  refine sq_cons ⟨_, [(.t 12, bV ((eqI (t0.size : Int) 0) || (ltI 16 (t0.size : Int))))]⟩ (v_pickB rfl trivial rfl (ble _ _ rfl) rfl (fun e4 => rfl) (fun e5 => (gv (nF e5))) (pO _ _)) ?_
  refine sq_nil ?_
  refine ht_cond (b := ((eqI (t0.size : Int) 0) || (ltI 16 (t0.size : Int)))) rfl (fun e6 => ?_) (fun e6 => ?_)
  · replace h := cpos e6 h
    refine ht_seq ?_
    refine ht_region ?_
    refine sq_cons ⟨_, [(.t 2, bV false)]⟩ (v_move (.inr rfl) trivial rfl (ble _ _ rfl) rfl) ?_
    refine sq_nil ?_
    refine ht_ret ?_
    cases h
    exact ret1 rfl (.tmp rfl)
  · replace h := cneg e6 h
    refine ht_skip ?_
    refine ht_gj (go_id' h) (fun _ => tell []) (fun _ h => ?_) (fun v7 K8 h j10 r11 => ?_)
    · refine ht_seq ?_
      refine ht_region ?_
      refine sq_cons ⟨_, [(.t 2, bV true)]⟩ (v_move (.inr rfl) trivial rfl (ble _ _ rfl) rfl) ?_
      refine sq_nil ?_
      refine ht_ret ?_
      cases h
      exact ret1 rfl (.tmp rfl)
    · refine ht_block ?_
      refine ht_rd h (fun _ => rfl) (fun t0_1 => tell [(.t 0, sV t0_1)]) (wk_ren _ (fun i => i) rfl ⟨rfl, trivial⟩) fun k t0_1 h K20 j13 => ?_
      rw [F17_l1] at h
      refine ht_seq ?_
      refine ht_seq ?_
      refine ht_region ?_
      refine sq_cons ⟨_, [(.t 13, sV t0_1)]⟩ (v_move (.inl rfl) trivial rfl (ble _ _ rfl) rfl) ?_
      refine sq_cons ⟨_, [(.t 14, iV (t0_1.size : Int))]⟩ (v_len_str rfl rfl trivial rfl (ble _ _ rfl) und9 rfl) ?_
      refine sq_cons ⟨_, [(.t 15, bV (ltI 0 (t0_1.size : Int)))]⟩ (v_bin rfl trivial rfl (ble _ _ rfl) rfl rfl (b_gtr rfl)) ?_
      refine sq_nil ?_
      refine ht_cond (b := (ltI 0 (t0_1.size : Int))) rfl (fun e15 => ?_) (fun e15 => ?_)
      · replace h := cpos e15 h
        refine ht_skip ?_
        refine ht_block ?_
        refine ht_seq ?_
        refine ht_region ?_
        refine sq_cons ⟨_, [(.t 17, sV t0_1)]⟩ (v_move (.inl rfl) trivial rfl (ble _ _ rfl) rfl) ?_
        obtain ⟨⟨t18a, t18b⟩, c16, h⟩ := bpos h
        refine sq_cons ⟨_, [(.t 18, .tup [iV t18a, iV t18b])]⟩ (w_call (ds := [(.s (.string t0_1))]) (caps := []) (l := [(.s (.int .i64 t18a)), (.s (.int .i64 t18b))]) (s35 k t0_1 _ c16) rfl rfl rfl en35 trivial rfl (ble _ _ rfl) (.inl ⟨rfl, rfl⟩) rfl rfl) ?_
        refine sq_cons ⟨_, [(.t 16, .tup [iV t18a, iV t18b])]⟩ (v_move (.inl rfl) trivial rfl (ble _ _ rfl) rfl) ?_
        refine sq_cons ⟨_, [(.t 19, iV t18a)]⟩ (v_extract rfl trivial rfl (ble _ _ rfl) rfl rfl) ?_
        refine sq_cons ⟨_, [(.t 20, iV t18b)]⟩ (v_extract rfl trivial rfl (ble _ _ rfl) rfl rfl) ?_
        refine sq_cons ⟨_, [(.t 3, iV t18a)]⟩ (v_move (.inr rfl) trivial rfl (ble _ _ rfl) rfl) ?_
        refine sq_cons ⟨_, [(.t 4, iV t18b)]⟩ (v_move (.inr rfl) trivial rfl (ble _ _ rfl) rfl) ?_
        refine sq_nil ?_
        refine ht_seq ?_
        refine ht_seq ?_
        refine ht_region ?_
        refine sq_cons ⟨_, [(.t 21, iV t18a)]⟩ (v_move (.inl rfl) trivial rfl (ble _ _ rfl) rfl) ?_
        obtain ⟨t22, c17, h⟩ := bpos h
        refine sq_cons ⟨_, [(.t 22, bV t22)]⟩ (w_call (ds := [(.s (.int .i64 t18a))]) (caps := []) (l := [(.s (.bool t22))]) (s36 k t18a _ c17) rfl rfl rfl en36 trivial rfl (ble _ _ rfl) (.inl ⟨rfl, rfl⟩) rfl rfl) ?_
        refine sq_cons ⟨_, [(.t 23, bV (!t22))]⟩ (v_un rfl trivial rfl (ble _ _ rfl) rfl (u_not rfl)) ?_
        refine sq_nil ?_
        refine ht_cond (b := (!t22)) rfl (fun e18 => ?_) (fun e18 => ?_)
        · replace h := cpos e18 h
          refine ht_seq ?_
          refine ht_region ?_
          refine sq_cons ⟨_, [(.t 2, bV false)]⟩ (v_move (.inr rfl) trivial rfl (ble _ _ rfl) rfl) ?_
          refine sq_nil ?_
          refine ht_ret ?_
          cases h
          cases r11 _ rfl
          exact ret1 rfl (.tmp rfl)
        · replace h := cneg e18 h
          refine ht_skip ?_
          refine ht_region ?_
          refine sq_cons ⟨_, [(.t 24, sV t0_1)]⟩ (v_move (.inl rfl) trivial rfl (ble _ _ rfl) rfl) ?_
          refine sq_cons ⟨_, [(.t 25, iV t18b)]⟩ (v_move (.inl rfl) trivial rfl (ble _ _ rfl) rfl) ?_
          obtain ⟨e19, h⟩ := gpos h
          refine sq_cons ⟨_, [(.t 26, sV (t0_1.extract t18b.toNat (t0_1.size : Int).toNat))]⟩ (w_cut_str t0_1 t18b (t0_1.size : Int) rfl trivial rfl (ble _ _ rfl) und9 rfl (.inr ⟨_, _, rfl, rfl⟩) (.inl ⟨rfl, rfl⟩) e19) ?_
          refine sq_cons ⟨_, [(.t 0, sV (t0_1.extract t18b.toNat (t0_1.size : Int).toNat))]⟩ (v_move (.inr rfl) trivial rfl (ble _ _ rfl) rfl) ?_
          refine sq_nil ?_
          exact j13 _ _ h (wk_ren _ (fun i => i) rfl ⟨rfl, trivial⟩)
      · replace h := cneg e15 h
        refine ht_exit ?_
        refine tq ?_
        refine tq ?_
        refine bq_hit ?_
        cases h
        exact j10 _ _ rfl (wk_ren _ (fun i => i) rfl trivial)
set_option maxRecDepth 100000 in
set_option maxHeartbeats 4000000 in
theorem s6 (k : Nat) (t0 : Request) (r : Bool) (h : F6 k t0 = some r) : Awp.Spec Tryd.prog amb 6 [(.agg (eRequest t0))] (.ds [(.s (.bool r))]) := by
  rw [F6] at h
  refine spec_of Tryd.func6 rfl (ble _ _ rfl) fun w0 ok0 lt0 hA => ?_
  refine ht_seq ?_
  refine ht_region ?_
  refine sq_cons ⟨_, [(.t 1, .d (.dp (eRequest t0)))]⟩ (v_box_d (cs := (eRequest t0)) rfl trivial rfl (ble _ _ rfl) rfl rfl (ones_of rfl)) ?_
  refine sq_cons ⟨_, [(.t 2, bV false)]⟩ (v_move (.inr rfl) trivial rfl (ble _ _ rfl) rfl) ?_
  refine sq_nil ?_
  refine ht_seq ?_
  refine ht_seq ?_
  refine ht_region ?_
  refine sq_cons ⟨_, [(.t 3, .d (.dp (eRequest t0)))]⟩ (v_field_dp (a0 := 0) (cs := (eRequest t0)) rfl trivial rfl (ble _ _ rfl) fo25_0 rfl) ?_
  refine sq_cons ⟨_, [(.t 4, iV t0.mClient)]⟩ (v_load_dp1 rfl trivial rfl (ble _ _ rfl) onT3 rfl rfl) ?_
  obtain ⟨t5, c1, h⟩ := bpos h
  refine sq_cons ⟨_, [(.t 5, bV t5)]⟩ (w_call (ds := [(.s (.int .i64 t0.mClient))]) (caps := []) (l := [(.s (.bool t5))]) (s15 k t0.mClient _ c1) rfl rfl rfl en15 trivial rfl (ble _ _ rfl) (.inl ⟨rfl, rfl⟩) rfl rfl) ?_
  refine sq_cons ⟨_, [(.t 6, bV (!t5))]⟩ (v_un rfl trivial rfl (ble _ _ rfl) rfl (u_not rfl)) ?_
  refine sq_cons ⟨_, [(.t 7, bV (!t5))]⟩ (v_move (.inl rfl) trivial rfl (ble _ _ rfl) rfl) ?_
  refine sq_cons ⟨_, [(.t 8, mg (!(!t5)) (.d (.dp (List.drop 1 (eRequest t0)))))]⟩ (v_cF rfl rfl rfl (ble _ _ rfl) rfl fun e2 => (v_field_dp (a0 := 1) (cs := (eRequest t0)) rfl ⟨_, rfl, be e2⟩ rfl (ble _ _ rfl) fo25_1 rfl)) ?_
  refine sq_cons ⟨_, [(.t 9, mg (!(!t5)) (iV t0.mReq))]⟩ (v_cF rfl rfl rfl (ble _ _ rfl) rfl fun e3 => (v_load_dp1 rfl ⟨_, rfl, be e3⟩ rfl (ble _ _ rfl) onT3 (gv (nF e3)) rfl)) ?_
  obtain ⟨t10, c5, h⟩ := bpos h
  refine sq_cons ⟨_, [(.t 10, mg (!(!t5)) (bV t10))]⟩ (v_cF rfl rfl rfl (ble _ _ rfl) rfl fun e4 => (w_call (ds := [(.s (.int .i64 t0.mReq))]) (caps := []) (l := [(.s (.bool t10))]) (s15 k t0.mReq _ (cpos (nF e4) c5)) rfl rfl rfl en15 ⟨_, rfl, be e4⟩ rfl (ble _ _ rfl) (.inl ⟨rfl, rfl⟩) (cc (gv (nF e4)) rfl) rfl)) ?_
  refine sq_cons ⟨_, [(.t 11, mg (!(!t5)) (bV (!t10)))]⟩ (v_cF rfl rfl rfl (ble _ _ rfl) rfl fun e6 => (v_un rfl ⟨_, rfl, be e6⟩ rfl (ble _ _ rfl) (gv (nF e6)) (u_not rfl))) ?_
  refine sq_cons ⟨_, [(.t 12, bV ((!t5) || (!t10)))]⟩ (v_pickB rfl trivial rfl (ble _ _ rfl) rfl (fun e7 => rfl) (fun e8 => (gv (nF e8))) (pO _ _)) ?_
  refine sq_cons ⟨_, [(.t 13, bV ((!t5) || (!t10)))]⟩ (v_move (.inl rfl) trivial rfl (ble _ _ rfl) rfl) ?_
  refine sq_cons ⟨_, [(.t 14, mg (!((!t5) || (!t10))) (.d (.dp (List.drop 4 (eRequest t0)))))]⟩ (v_cF rfl rfl rfl (ble _ _ rfl) rfl fun e9 => (v_field_dp (a0 := 4) (cs := (eRequest t0)) rfl ⟨_, rfl, be e9⟩ rfl (ble _ _ rfl) fo25_4 rfl)) ?_
  refine sq_cons ⟨_, [(.t 15, mg (!((!t5) || (!t10))) (sV t0.mValue))]⟩ (v_cF rfl rfl rfl (ble _ _ rfl) rfl fun e10 => (v_load_dp1 rfl ⟨_, rfl, be e10⟩ rfl (ble _ _ rfl) onT9 (gv (nF e10)) rfl)) ?_
  refine sq_cons ⟨_, [(.t 16, mg (!((!t5) || (!t10))) (iV (t0.mValue.size : Int)))]⟩ (v_cF rfl rfl rfl (ble _ _ rfl) rfl fun e11 => (v_len_str rfl rfl ⟨_, rfl, be e11⟩ rfl (ble _ _ rfl) und9 (gv (nF e11)))) ?_
  refine sq_cons ⟨_, [(.t 17, mg (!((!t5) || (!t10))) (bV (ltI 16 (t0.mValue.size : Int))))]⟩ (v_cF rfl rfl rfl (ble _ _ rfl) rfl fun e12 => (v_bin rfl ⟨_, rfl, be e12⟩ rfl (ble _ _ rfl) (gv (nF e12)) rfl (b_gtr rfl))) ?_
  refine sq_cons ⟨_, [(.t 18, bV (((!t5) || (!t10)) || (ltI 16 (t0.mValue.size : Int))))]⟩ (v_pickB rfl trivial rfl (ble _ _ rfl) rfl (fun e13 => rfl) (fun e14 => (gv (nF e14))) (pO _ _)) ?_
  refine sq_cons ⟨_, [(.t 19, bV (((!t5) || (!t10)) || (ltI 16 (t0.mValue.size : Int))))]⟩ (v_move (.inl rfl) trivial rfl (ble _ _ rfl) rfl) ?_
  refine sq_cons ⟨_, [(.t 20, mg (!(((!t5) || (!t10)) || (ltI 16 (t0.mValue.size : Int)))) (.d (.dp (List.drop 6 (eRequest t0)))))]⟩ (v_cF rfl rfl rfl (ble _ _ rfl) rfl fun e15 => (v_field_dp (a0 := 6) (cs := (eRequest t0)) rfl ⟨_, rfl, be e15⟩ rfl (ble _ _ rfl) fo25_6 rfl)) ?_
  refine sq_cons ⟨_, [(.t 21, mg (!(((!t5) || (!t10)) || (ltI 16 (t0.mValue.size : Int)))) (sV t0.mOld))]⟩ (v_cF rfl rfl rfl (ble _ _ rfl) rfl fun e16 => (v_load_dp1 rfl ⟨_, rfl, be e16⟩ rfl (ble _ _ rfl) onT9 (gv (nF e16)) rfl)) ?_
  refine sq_cons ⟨_, [(.t 22, mg (!(((!t5) || (!t10)) || (ltI 16 (t0.mValue.size : Int)))) (iV (t0.mOld.size : Int)))]⟩ (v_cF rfl rfl rfl (ble _ _ rfl) rfl fun e17 => (v_len_str rfl rfl ⟨_, rfl, be e17⟩ rfl (ble _ _ rfl) und9 (gv (nF e17)))) ?_
  refine sq_cons ⟨_, [(.t 23, mg (!(((!t5) || (!t10)) || (ltI 16 (t0.mValue.size : Int)))) (bV (ltI 16 (t0.mOld.size : Int))))]⟩ (v_cF rfl rfl rfl (ble _ _ rfl) rfl fun e18 => (v_bin rfl ⟨_, rfl, be e18⟩ rfl (ble _ _ rfl) (gv (nF e18)) rfl (b_gtr rfl))) ?_
  refine sq_cons ⟨_, [(.t 24, bV ((((!t5) || (!t10)) || (ltI 16 (t0.mValue.size : Int))) || (ltI 16 (t0.mOld.size : Int))))]⟩ (v_pickB rfl trivial rfl (ble _ _ rfl) rfl (fun e19 => rfl) (fun e20 => (gv (nF e20))) (pO _ _)) ?_
  refine sq_cons ⟨_, [(.t 25, bV ((((!t5) || (!t10)) || (ltI 16 (t0.mValue.size : Int))) || (ltI 16 (t0.mOld.size : Int))))]⟩ (v_move (.inl rfl) trivial rfl (ble _ _ rfl) rfl) ?_
  refine sq_cons ⟨_, [(.t 26, mg (!((((!t5) || (!t10)) || (ltI 16 (t0.mValue.size : Int))) || (ltI 16 (t0.mOld.size : Int)))) (.d (.dp (List.drop 7 (eRequest t0)))))]⟩ (v_cF rfl rfl rfl (ble _ _ rfl) rfl fun e21 => (v_field_dp (a0 := 7) (cs := (eRequest t0)) rfl ⟨_, rfl, be e21⟩ rfl (ble _ _ rfl) fo25_7 rfl)) ?_
  refine sq_cons ⟨_, [(.t 27, mg (!((((!t5) || (!t10)) || (ltI 16 (t0.mValue.size : Int))) || (ltI 16 (t0.mOld.size : Int)))) (.d (.agg (eStamp t0.mAt))))]⟩ (v_cF rfl rfl rfl (ble _ _ rfl) rfl fun e22 => (w_ldp (List.drop 7 (eRequest t0)) (eStamp t0.mAt) rfl ⟨_, rfl, be e22⟩ rfl (ble _ _ rfl) ag23 (gv (nF e22)) (ble _ _ rfl) rfl)) ?_
  obtain ⟨t28, c24, h⟩ := bpos h
  refine sq_cons ⟨_, [(.t 28, mg (!((((!t5) || (!t10)) || (ltI 16 (t0.mValue.size : Int))) || (ltI 16 (t0.mOld.size : Int)))) (bV t28))]⟩ (v_cF rfl rfl rfl (ble _ _ rfl) rfl fun e23 => (w_call (ds := [(.agg (eStamp t0.mAt))]) (caps := []) (l := [(.s (.bool t28))]) (s16 k t0.mAt _ (cpos (nF e23) c24)) rfl rfl rfl en16 ⟨_, rfl, be e23⟩ rfl (ble _ _ rfl) (.inl ⟨rfl, rfl⟩) (cc (gv (nF e23)) rfl) rfl)) ?_
  refine sq_cons ⟨_, [(.t 29, mg (!((((!t5) || (!t10)) || (ltI 16 (t0.mValue.size : Int))) || (ltI 16 (t0.mOld.size : Int)))) (bV (!t28)))]⟩ (v_cF rfl rfl rfl (ble _ _ rfl) rfl fun e25 => (v_un rfl ⟨_, rfl, be e25⟩ rfl (ble _ _ rfl) (gv (nF e25)) (u_not rfl))) ?_
  refine sq_cons ⟨_, [(.t 30, bV (((((!t5) || (!t10)) || (ltI 16 (t0.mValue.size : Int))) || (ltI 16 (t0.mOld.size : Int))) || (!t28)))]⟩ (v_pickB rfl trivial rfl (ble _ _ rfl) rfl (fun e26 => rfl) (fun e27 => (gv (nF e27))) (pO _ _)) ?_
  refine sq_cons ⟨_, [(.t 31, bV (((((!t5) || (!t10)) || (ltI 16 (t0.mValue.size : Int))) || (ltI 16 (t0.mOld.size : Int))) || (!t28)))]⟩ (v_move (.inl rfl) trivial rfl (ble _ _ rfl) rfl) ?_
  refine sq_cons ⟨_, [(.t 32, mg (!(((((!t5) || (!t10)) || (ltI 16 (t0.mValue.size : Int))) || (ltI 16 (t0.mOld.size : Int))) || (!t28))) (.d (.dp (List.drop 10 (eRequest t0)))))]⟩ (v_cF rfl rfl rfl (ble _ _ rfl) rfl fun e28 => (v_field_dp (a0 := 10) (cs := (eRequest t0)) rfl ⟨_, rfl, be e28⟩ rfl (ble _ _ rfl) fo25_8 rfl)) ?_
  refine sq_cons ⟨_, [(.t 33, mg (!(((((!t5) || (!t10)) || (ltI 16 (t0.mValue.size : Int))) || (ltI 16 (t0.mOld.size : Int))) || (!t28))) (sV t0.mHi))]⟩ (v_cF rfl rfl rfl (ble _ _ rfl) rfl fun e29 => (v_load_dp1 rfl ⟨_, rfl, be e29⟩ rfl (ble _ _ rfl) onT9 (gv (nF e29)) rfl)) ?_
  refine sq_cons ⟨_, [(.t 34, mg (!(((((!t5) || (!t10)) || (ltI 16 (t0.mValue.size : Int))) || (ltI 16 (t0.mOld.size : Int))) || (!t28))) (iV (t0.mHi.size : Int)))]⟩ (v_cF rfl rfl rfl (ble _ _ rfl) rfl fun e30 => (v_len_str rfl rfl ⟨_, rfl, be e30⟩ rfl (ble _ _ rfl) und9 (gv (nF e30)))) ?_
  refine sq_cons ⟨_, [(.t 35, mg (!(((((!t5) || (!t10)) || (ltI 16 (t0.mValue.size : Int))) || (ltI 16 (t0.mOld.size : Int))) || (!t28))) (bV (ltI 0 (t0.mHi.size : Int))))]⟩ (v_cF rfl rfl rfl (ble _ _ rfl) rfl fun e31 => (v_bin rfl ⟨_, rfl, be e31⟩ rfl (ble _ _ rfl) (gv (nF e31)) rfl (b_gtr rfl))) ?_
  refine sq_cons ⟨_, [(.t 36, mg (!(((((!t5) || (!t10)) || (ltI 16 (t0.mValue.size : Int))) || (ltI 16 (t0.mOld.size : Int))) || (!t28))) (bV (ltI 0 (t0.mHi.size : Int))))]⟩ (v_cF rfl rfl rfl (ble _ _ rfl) rfl fun e32 => (v_move (.inl rfl) ⟨_, rfl, be e32⟩ rfl (ble _ _ rfl) (gv (nF e32)))) ?_
  refine sq_cons ⟨_, [(.t 37, mg ((!(((((!t5) || (!t10)) || (ltI 16 (t0.mValue.size : Int))) || (ltI 16 (t0.mOld.size : Int))) || (!t28))) && (ltI 0 (t0.mHi.size : Int))) (.d (.dp (List.drop 10 (eRequest t0)))))]⟩ (v_mT rfl rfl rfl (ble _ _ rfl) rfl fun e33 e34 => (v_field_dp (a0 := 10) (cs := (eRequest t0)) rfl ⟨_, rfl, bm e33 e34⟩ rfl (ble _ _ rfl) fo25_8 rfl)) ?_
  refine sq_cons ⟨_, [(.t 38, mg ((!(((((!t5) || (!t10)) || (ltI 16 (t0.mValue.size : Int))) || (ltI 16 (t0.mOld.size : Int))) || (!t28))) && (ltI 0 (t0.mHi.size : Int))) (sV t0.mHi))]⟩ (v_mT rfl rfl rfl (ble _ _ rfl) rfl fun e35 e36 => (v_load_dp1 rfl ⟨_, rfl, bm e35 e36⟩ rfl (ble _ _ rfl) onT9 (gv (aT e35 e36)) rfl)) ?_
  obtain ⟨t39, c39, h⟩ := bpos h
  refine sq_cons ⟨_, [(.t 39, mg ((!(((((!t5) || (!t10)) || (ltI 16 (t0.mValue.size : Int))) || (ltI 16 (t0.mOld.size : Int))) || (!t28))) && (ltI 0 (t0.mHi.size : Int))) (bV t39))]⟩ (v_mT rfl rfl rfl (ble _ _ rfl) rfl fun e37 e38 => (w_call (ds := [(.s (.string t0.mHi))]) (caps := []) (l := [(.s (.bool t39))]) (s17 k t0.mHi _ (cpos (aT e37 e38) c39)) rfl rfl rfl en17 ⟨_, rfl, bm e37 e38⟩ rfl (ble _ _ rfl) (.inl ⟨rfl, rfl⟩) (cc (gv (aT e37 e38)) rfl) rfl)) ?_
  refine sq_cons ⟨_, [(.t 40, mg ((!(((((!t5) || (!t10)) || (ltI 16 (t0.mValue.size : Int))) || (ltI 16 (t0.mOld.size : Int))) || (!t28))) && (ltI 0 (t0.mHi.size : Int))) (bV (!t39)))]⟩ (v_mT rfl rfl rfl (ble _ _ rfl) rfl fun e40 e41 => (v_un rfl ⟨_, rfl, bm e40 e41⟩ rfl (ble _ _ rfl) (gv (aT e40 e41)) (u_not rfl))) ?_
  refine sq_cons ⟨_, [(.t 41, mg (!(((((!t5) || (!t10)) || (ltI 16 (t0.mValue.size : Int))) || (ltI 16 (t0.mOld.size : Int))) || (!t28))) (bV ((ltI 0 (t0.mHi.size : Int)) && (!t39))))]⟩ (v_cF rfl rfl rfl (ble _ _ rfl) rfl fun e42 => (v_pickB rfl ⟨_, rfl, be e42⟩ rfl (ble _ _ rfl) (gv (nF e42)) (fun e43 => (gv (aT (nF e42) e43))) (fun e44 => rfl) (pA _ _))) ?_
  refine sq_cons ⟨_, [(.t 42, bV ((((((!t5) || (!t10)) || (ltI 16 (t0.mValue.size : Int))) || (ltI 16 (t0.mOld.size : Int))) || (!t28)) || ((ltI 0 (t0.mHi.size : Int)) && (!t39))))]⟩ (v_pickB rfl trivial rfl (ble _ _ rfl) rfl (fun e45 => rfl) (fun e46 => (gv (nF e46))) (pO _ _)) ?_
  refine sq_nil ?_
  refine ht_cond (b := ((((((!t5) || (!t10)) || (ltI 16 (t0.mValue.size : Int))) || (ltI 16 (t0.mOld.size : Int))) || (!t28)) || ((ltI 0 (t0.mHi.size : Int)) && (!t39)))) rfl (fun e47 => ?_) (fun e47 => ?_)
  · replace h := cpos e47 h
    refine ht_seq ?_
    refine ht_region ?_
    refine sq_cons ⟨_, [(.t 2, bV false)]⟩ (v_move (.inr rfl) trivial rfl (ble _ _ rfl) rfl) ?_
    refine sq_nil ?_
    refine ht_ret ?_
    cases h
    exact ret1 rfl (.tmp rfl)
  · replace h := cneg e47 h
    refine ht_skip ?_
    refine ht_seq ?_
    refine ht_seq ?_
    refine ht_region ?_
    refine sq_cons ⟨_, [(.t 43, .d (.dp (List.drop 2 (eRequest t0))))]⟩ (v_field_dp (a0 := 2) (cs := (eRequest t0)) rfl trivial rfl (ble _ _ rfl) fo25_2 rfl) ?_
    refine sq_cons ⟨_, [(.t 44, iV t0.mKind)]⟩ (v_load_dp1 rfl trivial rfl (ble _ _ rfl) onT3 rfl rfl) ?_
    refine sq_cons ⟨_, [(.t 45, bV (eqI t0.mKind 6))]⟩ (v_bin rfl trivial rfl (ble _ _ rfl) rfl rfl (b_eql rfl)) ?_
    refine sq_nil ?_
    refine ht_cond (b := (eqI t0.mKind 6)) rfl (fun e48 => ?_) (fun e48 => ?_)
    · replace h := cpos e48 h
      refine ht_seq ?_
      refine ht_region ?_
      refine sq_cons ⟨_, [(.t 46, .d (.dp (List.drop 11 (eRequest t0))))]⟩ (v_field_dp (a0 := 11) (cs := (eRequest t0)) rfl trivial rfl (ble _ _ rfl) fo25_9 rfl) ?_
      refine sq_cons ⟨_, [(.t 47, iV t0.mLimit)]⟩ (v_load_dp1 rfl trivial rfl (ble _ _ rfl) onT3 rfl rfl) ?_
      refine sq_cons ⟨_, [(.t 48, bV (ltI 0 t0.mLimit))]⟩ (v_bin rfl trivial rfl (ble _ _ rfl) rfl rfl (b_gtr rfl)) ?_
      refine sq_cons ⟨_, [(.t 49, bV (ltI 0 t0.mLimit))]⟩ (v_move (.inl rfl) trivial rfl (ble _ _ rfl) rfl) ?_
      refine sq_cons ⟨_, [(.t 50, mg (ltI 0 t0.mLimit) (.d (.dp (List.drop 11 (eRequest t0)))))]⟩ (v_cT rfl rfl rfl (ble _ _ rfl) rfl fun e49 => (v_field_dp (a0 := 11) (cs := (eRequest t0)) rfl ⟨_, rfl, be e49⟩ rfl (ble _ _ rfl) fo25_9 rfl)) ?_
      refine sq_cons ⟨_, [(.t 51, mg (ltI 0 t0.mLimit) (iV t0.mLimit))]⟩ (v_cT rfl rfl rfl (ble _ _ rfl) rfl fun e50 => (v_load_dp1 rfl ⟨_, rfl, be e50⟩ rfl (ble _ _ rfl) onT3 (gv e50) rfl)) ?_
      refine sq_cons ⟨_, [(.t 52, mg (ltI 0 t0.mLimit) (bV (ltI t0.mLimit 9)))]⟩ (v_cT rfl rfl rfl (ble _ _ rfl) rfl fun e51 => (v_bin rfl ⟨_, rfl, be e51⟩ rfl (ble _ _ rfl) (gv e51) rfl (b_lss rfl))) ?_
      refine sq_cons ⟨_, [(.t 53, bV ((ltI 0 t0.mLimit) && (ltI t0.mLimit 9)))]⟩ (v_pickB rfl trivial rfl (ble _ _ rfl) rfl (fun e52 => (gv e52)) (fun e53 => rfl) (pA _ _)) ?_
      refine sq_cons ⟨_, [(.t 54, bV ((ltI 0 t0.mLimit) && (ltI t0.mLimit 9)))]⟩ (v_move (.inl rfl) trivial rfl (ble _ _ rfl) rfl) ?_
      refine sq_cons ⟨_, [(.t 55, mg ((ltI 0 t0.mLimit) && (ltI t0.mLimit 9)) (.d (.dp (List.drop 3 (eRequest t0)))))]⟩ (v_cT rfl rfl rfl (ble _ _ rfl) rfl fun e54 => (v_field_dp (a0 := 3) (cs := (eRequest t0)) rfl ⟨_, rfl, be e54⟩ rfl (ble _ _ rfl) fo25_3 rfl)) ?_
      refine sq_cons ⟨_, [(.t 56, mg ((ltI 0 t0.mLimit) && (ltI t0.mLimit 9)) (sV t0.mKey))]⟩ (v_cT rfl rfl rfl (ble _ _ rfl) rfl fun e55 => (v_load_dp1 rfl ⟨_, rfl, be e55⟩ rfl (ble _ _ rfl) onT9 (gv e55) rfl)) ?_
      refine sq_cons ⟨_, [(.t 57, mg ((ltI 0 t0.mLimit) && (ltI t0.mLimit 9)) (iV (t0.mKey.size : Int)))]⟩ (v_cT rfl rfl rfl (ble _ _ rfl) rfl fun e56 => (v_len_str rfl rfl ⟨_, rfl, be e56⟩ rfl (ble _ _ rfl) und9 (gv e56))) ?_
      refine sq_cons ⟨_, [(.t 58, mg ((ltI 0 t0.mLimit) && (ltI t0.mLimit 9)) (bV (eqI (t0.mKey.size : Int) 0)))]⟩ (v_cT rfl rfl rfl (ble _ _ rfl) rfl fun e57 => (v_bin rfl ⟨_, rfl, be e57⟩ rfl (ble _ _ rfl) (gv e57) rfl (b_eql rfl))) ?_
      refine sq_cons ⟨_, [(.t 59, mg ((ltI 0 t0.mLimit) && (ltI t0.mLimit 9)) (bV (eqI (t0.mKey.size : Int) 0)))]⟩ (v_cT rfl rfl rfl (ble _ _ rfl) rfl fun e58 => (v_move (.inl rfl) ⟨_, rfl, be e58⟩ rfl (ble _ _ rfl) (gv e58))) ?_
      refine sq_cons ⟨_, [(.t 60, mg (((ltI 0 t0.mLimit) && (ltI t0.mLimit 9)) && (!(eqI (t0.mKey.size : Int) 0))) (.d (.dp (List.drop 3 (eRequest t0)))))]⟩ (v_mF rfl rfl rfl (ble _ _ rfl) rfl fun e59 e60 => (v_field_dp (a0 := 3) (cs := (eRequest t0)) rfl ⟨_, rfl, bm e59 e60⟩ rfl (ble _ _ rfl) fo25_3 rfl)) ?_
      refine sq_cons ⟨_, [(.t 61, mg (((ltI 0 t0.mLimit) && (ltI t0.mLimit 9)) && (!(eqI (t0.mKey.size : Int) 0))) (sV t0.mKey))]⟩ (v_mF rfl rfl rfl (ble _ _ rfl) rfl fun e61 e62 => (v_load_dp1 rfl ⟨_, rfl, bm e61 e62⟩ rfl (ble _ _ rfl) onT9 (gv (aT e61 (nF e62))) rfl)) ?_
      obtain ⟨t62, c65, h⟩ := bpos h
      refine sq_cons ⟨_, [(.t 62, mg (((ltI 0 t0.mLimit) && (ltI t0.mLimit 9)) && (!(eqI (t0.mKey.size : Int) 0))) (bV t62))]⟩ (v_mF rfl rfl rfl (ble _ _ rfl) rfl fun e63 e64 => (w_call (ds := [(.s (.string t0.mKey))]) (caps := []) (l := [(.s (.bool t62))]) (s17 k t0.mKey _ (cpos (aT e63 (nF e64)) c65)) rfl rfl rfl en17 ⟨_, rfl, bm e63 e64⟩ rfl (ble _ _ rfl) (.inl ⟨rfl, rfl⟩) (cc (gv (aT e63 (nF e64))) rfl) rfl)) ?_
      refine sq_cons ⟨_, [(.t 63, mg ((ltI 0 t0.mLimit) && (ltI t0.mLimit 9)) (bV ((eqI (t0.mKey.size : Int) 0) || t62)))]⟩ (v_cT rfl rfl rfl (ble _ _ rfl) rfl fun e66 => (v_pickB rfl ⟨_, rfl, be e66⟩ rfl (ble _ _ rfl) (gv e66) (fun e67 => rfl) (fun e68 => (gv (aT e66 (nF e68)))) (pO _ _))) ?_
      refine sq_cons ⟨_, [(.t 64, bV (((ltI 0 t0.mLimit) && (ltI t0.mLimit 9)) && ((eqI (t0.mKey.size : Int) 0) || t62)))]⟩ (v_pickB rfl trivial rfl (ble _ _ rfl) rfl (fun e69 => (gv e69)) (fun e70 => rfl) (pA _ _)) ?_
      refine sq_cons ⟨_, [(.t 2, bV (((ltI 0 t0.mLimit) && (ltI t0.mLimit 9)) && ((eqI (t0.mKey.size : Int) 0) || t62)))]⟩ (v_move (.inr rfl) trivial rfl (ble _ _ rfl) rfl) ?_
      refine sq_nil ?_
      refine ht_ret ?_
      cases h
      exact ret1 rfl (.tmp rfl)
    · replace h := cneg e48 h
      refine ht_skip ?_
      refine ht_seq ?_
      refine ht_region ?_
      refine sq_cons ⟨_, [(.t 65, .d (.dp (List.drop 2 (eRequest t0))))]⟩ (v_field_dp (a0 := 2) (cs := (eRequest t0)) rfl trivial rfl (ble _ _ rfl) fo25_2 rfl) ?_
      refine sq_cons ⟨_, [(.t 66, iV t0.mKind)]⟩ (v_load_dp1 rfl trivial rfl (ble _ _ rfl) onT3 rfl rfl) ?_
      refine sq_cons ⟨_, [(.t 67, bV (ltI 0 t0.mKind))]⟩ (v_bin rfl trivial rfl (ble _ _ rfl) rfl rfl (b_gtr rfl)) ?_
      refine sq_cons ⟨_, [(.t 68, bV (ltI 0 t0.mKind))]⟩ (v_move (.inl rfl) trivial rfl (ble _ _ rfl) rfl) ?_
      refine sq_cons ⟨_, [(.t 69, mg (ltI 0 t0.mKind) (.d (.dp (List.drop 2 (eRequest t0)))))]⟩ (v_cT rfl rfl rfl (ble _ _ rfl) rfl fun e71 => (v_field_dp (a0 := 2) (cs := (eRequest t0)) rfl ⟨_, rfl, be e71⟩ rfl (ble _ _ rfl) fo25_2 rfl)) ?_
      refine sq_cons ⟨_, [(.t 70, mg (ltI 0 t0.mKind) (iV t0.mKind))]⟩ (v_cT rfl rfl rfl (ble _ _ rfl) rfl fun e72 => (v_load_dp1 rfl ⟨_, rfl, be e72⟩ rfl (ble _ _ rfl) onT3 (gv e72) rfl)) ?_
      refine sq_cons ⟨_, [(.t 71, mg (ltI 0 t0.mKind) (bV (ltI t0.mKind 6)))]⟩ (v_cT rfl rfl rfl (ble _ _ rfl) rfl fun e73 => (v_bin rfl ⟨_, rfl, be e73⟩ rfl (ble _ _ rfl) (gv e73) rfl (b_lss rfl))) ?_
      refine sq_cons ⟨_, [(.t 72, bV ((ltI 0 t0.mKind) && (ltI t0.mKind 6)))]⟩ (v_pickB rfl trivial rfl (ble _ _ rfl) rfl (fun e74 => (gv e74)) (fun e75 => rfl) (pA _ _)) ?_
      refine sq_cons ⟨_, [(.t 73, bV ((ltI 0 t0.mKind) && (ltI t0.mKind 6)))]⟩ (v_move (.inl rfl) trivial rfl (ble _ _ rfl) rfl) ?_
      refine sq_cons ⟨_, [(.t 74, mg ((ltI 0 t0.mKind) && (ltI t0.mKind 6)) (.d (.dp (List.drop 11 (eRequest t0)))))]⟩ (v_cT rfl rfl rfl (ble _ _ rfl) rfl fun e76 => (v_field_dp (a0 := 11) (cs := (eRequest t0)) rfl ⟨_, rfl, be e76⟩ rfl (ble _ _ rfl) fo25_9 rfl)) ?_
      refine sq_cons ⟨_, [(.t 75, mg ((ltI 0 t0.mKind) && (ltI t0.mKind 6)) (iV t0.mLimit))]⟩ (v_cT rfl rfl rfl (ble _ _ rfl) rfl fun e77 => (v_load_dp1 rfl ⟨_, rfl, be e77⟩ rfl (ble _ _ rfl) onT3 (gv e77) rfl)) ?_
      refine sq_cons ⟨_, [(.t 76, mg ((ltI 0 t0.mKind) && (ltI t0.mKind 6)) (bV (leI 0 t0.mLimit)))]⟩ (v_cT rfl rfl rfl (ble _ _ rfl) rfl fun e78 => (v_bin rfl ⟨_, rfl, be e78⟩ rfl (ble _ _ rfl) (gv e78) rfl (b_geq rfl))) ?_
      refine sq_cons ⟨_, [(.t 77, bV (((ltI 0 t0.mKind) && (ltI t0.mKind 6)) && (leI 0 t0.mLimit)))]⟩ (v_pickB rfl trivial rfl (ble _ _ rfl) rfl (fun e79 => (gv e79)) (fun e80 => rfl) (pA _ _)) ?_
      refine sq_cons ⟨_, [(.t 78, bV (((ltI 0 t0.mKind) && (ltI t0.mKind 6)) && (leI 0 t0.mLimit)))]⟩ (v_move (.inl rfl) trivial rfl (ble _ _ rfl) rfl) ?_
      refine sq_cons ⟨_, [(.t 79, mg (((ltI 0 t0.mKind) && (ltI t0.mKind 6)) && (leI 0 t0.mLimit)) (.d (.dp (List.drop 11 (eRequest t0)))))]⟩ (v_cT rfl rfl rfl (ble _ _ rfl) rfl fun e81 => (v_field_dp (a0 := 11) (cs := (eRequest t0)) rfl ⟨_, rfl, be e81⟩ rfl (ble _ _ rfl) fo25_9 rfl)) ?_
      refine sq_cons ⟨_, [(.t 80, mg (((ltI 0 t0.mKind) && (ltI t0.mKind 6)) && (leI 0 t0.mLimit)) (iV t0.mLimit))]⟩ (v_cT rfl rfl rfl (ble _ _ rfl) rfl fun e82 => (v_load_dp1 rfl ⟨_, rfl, be e82⟩ rfl (ble _ _ rfl) onT3 (gv e82) rfl)) ?_
      refine sq_cons ⟨_, [(.t 81, mg (((ltI 0 t0.mKind) && (ltI t0.mKind 6)) && (leI 0 t0.mLimit)) (bV (ltI t0.mLimit 9)))]⟩ (v_cT rfl rfl rfl (ble _ _ rfl) rfl fun e83 => (v_bin rfl ⟨_, rfl, be e83⟩ rfl (ble _ _ rfl) (gv e83) rfl (b_lss rfl))) ?_
      refine sq_cons ⟨_, [(.t 82, bV ((((ltI 0 t0.mKind) && (ltI t0.mKind 6)) && (leI 0 t0.mLimit)) && (ltI t0.mLimit 9)))]⟩ (v_pickB rfl trivial rfl (ble _ _ rfl) rfl (fun e84 => (gv e84)) (fun e85 => rfl) (pA _ _)) ?_
      refine sq_cons ⟨_, [(.t 83, bV ((((ltI 0 t0.mKind) && (ltI t0.mKind 6)) && (leI 0 t0.mLimit)) && (ltI t0.mLimit 9)))]⟩ (v_move (.inl rfl) trivial rfl (ble _ _ rfl) rfl) ?_
      refine sq_cons ⟨_, [(.t 84, mg ((((ltI 0 t0.mKind) && (ltI t0.mKind 6)) && (leI 0 t0.mLimit)) && (ltI t0.mLimit 9)) (.d (.dp (List.drop 3 (eRequest t0)))))]⟩ (v_cT rfl rfl rfl (ble _ _ rfl) rfl fun e86 => (v_field_dp (a0 := 3) (cs := (eRequest t0)) rfl ⟨_, rfl, be e86⟩ rfl (ble _ _ rfl) fo25_3 rfl)) ?_
      refine sq_cons ⟨_, [(.t 85, mg ((((ltI 0 t0.mKind) && (ltI t0.mKind 6)) && (leI 0 t0.mLimit)) && (ltI t0.mLimit 9)) (sV t0.mKey))]⟩ (v_cT rfl rfl rfl (ble _ _ rfl) rfl fun e87 => (v_load_dp1 rfl ⟨_, rfl, be e87⟩ rfl (ble _ _ rfl) onT9 (gv e87) rfl)) ?_
      obtain ⟨t86, c89, h⟩ := bpos h
      refine sq_cons ⟨_, [(.t 86, mg ((((ltI 0 t0.mKind) && (ltI t0.mKind 6)) && (leI 0 t0.mLimit)) && (ltI t0.mLimit 9)) (bV t86))]⟩ (v_cT rfl rfl rfl (ble _ _ rfl) rfl fun e88 => (w_call (ds := [(.s (.string t0.mKey))]) (caps := []) (l := [(.s (.bool t86))]) (s17 k t0.mKey _ (cpos e88 c89)) rfl rfl rfl en17 ⟨_, rfl, be e88⟩ rfl (ble _ _ rfl) (.inl ⟨rfl, rfl⟩) (cc (gv e88) rfl) rfl)) ?_
      refine sq_cons ⟨_, [(.t 87, bV (((((ltI 0 t0.mKind) && (ltI t0.mKind 6)) && (leI 0 t0.mLimit)) && (ltI t0.mLimit 9)) && t86))]⟩ (v_pickB rfl trivial rfl (ble _ _ rfl) rfl (fun e90 => (gv e90)) (fun e91 => rfl) (pA _ _)) ?_
      refine sq_cons ⟨_, [(.t 2, bV (((((ltI 0 t0.mKind) && (ltI t0.mKind 6)) && (leI 0 t0.mLimit)) && (ltI t0.mLimit 9)) && t86))]⟩ (v_move (.inr rfl) trivial rfl (ble _ _ rfl) rfl) ?_
      refine sq_nil ?_
      refine ht_ret ?_
      cases h
      exact ret1 rfl (.tmp rfl)
set_option maxRecDepth 100000 in
set_option maxHeartbeats 4000000 in
theorem s18 (k : Nat) (t0 : Int) (r : Stamp) (h : F18 k t0 = some r) : Awp.Spec Tryd.prog amb 18 [(.s (.int .i64 t0))] (.ds [(.agg (eStamp r))]) := by
  rw [F18] at h
  refine spec_of Tryd.func18 rfl (ble _ _ rfl) fun w0 ok0 lt0 hA => ?_
  refine ht_seq ?_
  refine ht_region ?_
  refine sq_cons _ (v_alloc (id := 2) (cs := zc23) rfl trivial rfl (ble _ _ rfl) zu23 rfl ft23 rfl) ?_
  refine sq_nil ?_
  refine ht_seq ?_
  refine ht_region ?_
  refine sq_cons ⟨_, [(.t 3, iV t0)]⟩ (v_move (.inl rfl) trivial rfl (ble _ _ rfl) rfl) ?_
  refine sq_cons ⟨_, [(.t 4, .d (.agg (eStamp (⟨t0, 0, 0⟩ : Stamp))))]⟩ (w_bld zc23 ((eStamp (⟨t0, 0, 0⟩ : Stamp)).map V.d) [(0, iV t0)] rfl trivial rfl (ble _ _ rfl) zw23 rfl ft23 rfl rfl rfl rfl) ?_
  refine sq_cons _ (v_store_box (id := 2) (off := 0) (cs := (eStamp (⟨t0, 0, 0⟩ : Stamp)).map V.d) rfl trivial rfl sz23 rfl rfl rfl rfl (ones_of rfl) (ble _ _ rfl)) ?_
  refine sq_nil ?_
  refine ht_ret ?_
  cases h
  exact ret1 rfl (.cell rfl rfl ag23 (ble _ _ rfl) rfl)
set_option maxRecDepth 100000 in
set_option maxHeartbeats 4000000 in
theorem s43 (k : Nat) (t0 : ByteArray) (t1 : ByteArray) (r : Int) (h : F43 k t0 t1 = some r) : Awp.Spec Tryd.prog amb 43 [(.s (.string t0)), (.s (.string t1))] (.ds [(.s (.int .i64 r))]) := by
  rw [F43] at h
  refine spec_of Tryd.func43 rfl (ble _ _ rfl) fun w0 ok0 lt0 hA => ?_
  refine ht_seq ?_
  refine ht_region ?_
  refine sq_cons ⟨_, [(.t 4, iV 0)]⟩ (v_move (.inr rfl) trivial rfl (ble _ _ rfl) rfl) ?_
  refine sq_nil ?_
  refine ht_gj (go_id' h) (fun (t0_1, t1_1) => tell [(.t 0, sV t0_1), (.t 1, sV t1_1)]) (fun v1 h => ?_) (fun v1 K2 h j4 r5 => ?_)
  · obtain ⟨t0_1, t1_1⟩ := v1
    refine ht_seq ?_
    refine ht_block ?_
    refine ht_seq ?_
    refine ht_region ?_
    refine sq_cons ⟨_, [(.t 40, sV t0_1)]⟩ (v_move (.inl rfl) trivial rfl (ble _ _ rfl) rfl) ?_
    refine sq_cons ⟨_, [(.t 41, bV (!strEq t0_1 (⟨#[]⟩ : ByteArray)))]⟩ (v_bin rfl trivial rfl (ble _ _ rfl) rfl rfl (b_neS rfl)) ?_
    refine sq_cons ⟨_, [(.t 39, bV (!strEq t0_1 (⟨#[]⟩ : ByteArray)))]⟩ (v_move (.inr rfl) trivial rfl (ble _ _ rfl) rfl) ?_
    refine sq_nil ?_
    refine ht_cond (b := (!strEq t0_1 (⟨#[]⟩ : ByteArray))) rfl (fun e21 => ?_) (fun e21 => ?_)
    · replace h := cpos e21 h
      refine ht_seq ?_
      refine ht_region ?_
      refine sq_cons ⟨_, [(.t 4, iV 1)]⟩ (v_move (.inr rfl) trivial rfl (ble _ _ rfl) rfl) ?_
      refine sq_nil ?_
      refine ht_ret ?_
      cases h
      exact ret1 rfl (.tmp rfl)
    · replace h := cneg e21 h
      refine ht_seq ?_
      refine ht_region ?_
      refine sq_cons ⟨_, [(.t 43, sV t1_1)]⟩ (v_move (.inl rfl) trivial rfl (ble _ _ rfl) rfl) ?_
      refine sq_cons ⟨_, [(.t 44, bV (!strEq t1_1 (⟨#[]⟩ : ByteArray)))]⟩ (v_bin rfl trivial rfl (ble _ _ rfl) rfl rfl (b_neS rfl)) ?_
      refine sq_cons ⟨_, [(.t 42, bV (!strEq t1_1 (⟨#[]⟩ : ByteArray)))]⟩ (v_move (.inr rfl) trivial rfl (ble _ _ rfl) rfl) ?_
      refine sq_nil ?_
      refine ht_cond (b := (!strEq t1_1 (⟨#[]⟩ : ByteArray))) rfl (fun e22 => ?_) (fun e22 => ?_)
      · replace h := cpos e22 h
        refine ht_seq ?_
        refine ht_region ?_
        refine sq_cons ⟨_, [(.t 4, iV (-1))]⟩ (v_move (.inr rfl) trivial rfl (ble _ _ rfl) rfl) ?_
        refine sq_nil ?_
        refine ht_ret ?_
        cases h
        exact ret1 rfl (.tmp rfl)
      · replace h := cneg e22 h
        refine ht_skip ?_
        refine ht_seq ?_
        refine ht_region ?_
        refine sq_cons ⟨_, [(.t 4, iV 0)]⟩ (v_move (.inr rfl) trivial rfl (ble _ _ rfl) rfl) ?_
        refine sq_nil ?_
        refine ht_ret ?_
        cases h
        exact ret1 rfl (.tmp rfl)
  · refine ht_block ?_
    refine ht_rd h (fun _ => rfl) (fun (t0_2, t1_2) => tell [(.t 0, sV t0_2), (.t 1, sV t1_2)]) (wk_ren _ (fun i => i) rfl ⟨rfl, rfl, trivial⟩) fun k v8 h K20 j7 => ?_
    obtain ⟨t0_2, t1_2⟩ := v8
    rw [F43_l1] at h
    refine ht_seq ?_
    refine ht_seq ?_
    refine ht_region ?_
    refine sq_cons ⟨_, [(.t 9, sV t0_2)]⟩ (v_move (.inl rfl) trivial rfl (ble _ _ rfl) rfl) ?_
    refine sq_cons ⟨_, [(.t 10, bV (!strEq t0_2 (⟨#[]⟩ : ByteArray)))]⟩ (v_bin rfl trivial rfl (ble _ _ rfl) rfl rfl (b_neS rfl)) ?_
    refine sq_cons ⟨_, [(.t 11, bV (!strEq t0_2 (⟨#[]⟩ : ByteArray)))]⟩ (v_move (.inl rfl) trivial rfl (ble _ _ rfl) rfl) ?_
    refine sq_cons ⟨_, [(.t 12, mg (!strEq t0_2 (⟨#[]⟩ : ByteArray)) (sV t1_2))]⟩ (v_cT rfl rfl rfl (ble _ _ rfl) rfl fun e9 => (v_move (.inl rfl) ⟨_, rfl, be e9⟩ rfl (ble _ _ rfl) rfl)) ?_
    refine sq_cons ⟨_, [(.t 13, mg (!strEq t0_2 (⟨#[]⟩ : ByteArray)) (bV (!strEq t1_2 (⟨#[]⟩ : ByteArray))))]⟩ (v_cT rfl rfl rfl (ble _ _ rfl) rfl fun e10 => (v_bin rfl ⟨_, rfl, be e10⟩ rfl (ble _ _ rfl) (gv e10) rfl (b_neS rfl))) ?_
    refine sq_cons ⟨_, [(.t 14, bV ((!strEq t0_2 (⟨#[]⟩ : ByteArray)) && (!strEq t1_2 (⟨#[]⟩ : ByteArray))))]⟩ (v_pickB rfl trivial rfl (ble _ _ rfl) rfl (fun e11 => (gv e11)) (fun e12 => rfl) (pA _ _)) ?_
    refine sq_nil ?_
    refine ht_cond (b := ((!strEq t0_2 (⟨#[]⟩ : ByteArray)) && (!strEq t1_2 (⟨#[]⟩ : ByteArray)))) rfl (fun e13 => ?_) (fun e13 => ?_)
    · replace h := cpos e13 h
      refine ht_skip ?_
      refine ht_block ?_
      refine ht_seq ?_
      refine ht_region ?_
      refine sq_cons ⟨_, [(.t 16, sV t0_2)]⟩ (v_move (.inl rfl) trivial rfl (ble _ _ rfl) rfl) ?_
      obtain ⟨⟨t17a, t17b⟩, c14, h⟩ := bpos h
      refine sq_cons ⟨_, [(.t 17, .tup [nV .i32 t17a, iV t17b])]⟩ (w_call (ds := [(.s (.string t0_2))]) (caps := []) (l := [(.s (.int .i32 t17a)), (.s (.int .i64 t17b))]) (s33 k t0_2 _ c14) rfl rfl rfl en33 trivial rfl (ble _ _ rfl) (.inl ⟨rfl, rfl⟩) rfl rfl) ?_
      refine sq_cons ⟨_, [(.t 15, .tup [nV .i32 t17a, iV t17b])]⟩ (v_move (.inl rfl) trivial rfl (ble _ _ rfl) rfl) ?_
      refine sq_cons ⟨_, [(.t 18, nV .i32 t17a)]⟩ (v_extract rfl trivial rfl (ble _ _ rfl) rfl rfl) ?_
      refine sq_cons ⟨_, [(.t 19, iV t17b)]⟩ (v_extract rfl trivial rfl (ble _ _ rfl) rfl rfl) ?_
      refine sq_cons ⟨_, [(.t 5, nV .i32 t17a)]⟩ (v_move (.inr rfl) trivial rfl (ble _ _ rfl) rfl) ?_
      refine sq_cons ⟨_, [(.t 6, iV t17b)]⟩ (v_move (.inr rfl) trivial rfl (ble _ _ rfl) rfl) ?_
      refine sq_nil ?_
      refine ht_seq ?_
      refine ht_region ?_
      refine sq_cons ⟨_, [(.t 21, sV t1_2)]⟩ (v_move (.inl rfl) trivial rfl (ble _ _ rfl) rfl) ?_
      obtain ⟨⟨t22a, t22b⟩, c15, h⟩ := bpos h
      refine sq_cons ⟨_, [(.t 22, .tup [nV .i32 t22a, iV t22b])]⟩ (w_call (ds := [(.s (.string t1_2))]) (caps := []) (l := [(.s (.int .i32 t22a)), (.s (.int .i64 t22b))]) (s33 k t1_2 _ c15) rfl rfl rfl en33 trivial rfl (ble _ _ rfl) (.inl ⟨rfl, rfl⟩) rfl rfl) ?_
      refine sq_cons ⟨_, [(.t 20, .tup [nV .i32 t22a, iV t22b])]⟩ (v_move (.inl rfl) trivial rfl (ble _ _ rfl) rfl) ?_
      refine sq_cons ⟨_, [(.t 23, nV .i32 t22a)]⟩ (v_extract rfl trivial rfl (ble _ _ rfl) rfl rfl) ?_
      refine sq_cons ⟨_, [(.t 24, iV t22b)]⟩ (v_extract rfl trivial rfl (ble _ _ rfl) rfl rfl) ?_
      refine sq_cons ⟨_, [(.t 7, nV .i32 t22a)]⟩ (v_move (.inr rfl) trivial rfl (ble _ _ rfl) rfl) ?_
      refine sq_cons ⟨_, [(.t 8, iV t22b)]⟩ (v_move (.inr rfl) trivial rfl (ble _ _ rfl) rfl) ?_
      refine sq_nil ?_
      refine ht_seq ?_
      refine ht_block ?_
      refine ht_seq ?_
      refine ht_region ?_
      refine sq_cons ⟨_, [(.t 26, nV .i32 t17a)]⟩ (v_move (.inl rfl) trivial rfl (ble _ _ rfl) rfl) ?_
      refine sq_cons ⟨_, [(.t 27, nV .i32 t22a)]⟩ (v_move (.inl rfl) trivial rfl (ble _ _ rfl) rfl) ?_
      refine sq_cons ⟨_, [(.t 28, bV (ltI t17a t22a))]⟩ (v_bin rfl trivial rfl (ble _ _ rfl) rfl rfl (b_lss rfl)) ?_
      refine sq_cons ⟨_, [(.t 25, bV (ltI t17a t22a))]⟩ (v_move (.inr rfl) trivial rfl (ble _ _ rfl) rfl) ?_
      refine sq_nil ?_
      refine ht_cond (b := (ltI t17a t22a)) rfl (fun e16 => ?_) (fun e16 => ?_)
      · replace h := cpos e16 h
        refine ht_seq ?_
        refine ht_region ?_
        refine sq_cons ⟨_, [(.t 4, iV (-1))]⟩ (v_move (.inr rfl) trivial rfl (ble _ _ rfl) rfl) ?_
        refine sq_nil ?_
        refine ht_ret ?_
        cases h
        cases r5 _ rfl
        exact ret1 rfl (.tmp rfl)
      · replace h := cneg e16 h
        refine ht_seq ?_
        refine ht_region ?_
        refine sq_cons ⟨_, [(.t 30, nV .i32 t17a)]⟩ (v_move (.inl rfl) trivial rfl (ble _ _ rfl) rfl) ?_
        refine sq_cons ⟨_, [(.t 31, nV .i32 t22a)]⟩ (v_move (.inl rfl) trivial rfl (ble _ _ rfl) rfl) ?_
        refine sq_cons ⟨_, [(.t 32, bV (ltI t22a t17a))]⟩ (v_bin rfl trivial rfl (ble _ _ rfl) rfl rfl (b_gtr rfl)) ?_
        refine sq_cons ⟨_, [(.t 29, bV (ltI t22a t17a))]⟩ (v_move (.inr rfl) trivial rfl (ble _ _ rfl) rfl) ?_
        refine sq_nil ?_
        refine ht_cond (b := (ltI t22a t17a)) rfl (fun e17 => ?_) (fun e17 => ?_)
        · replace h := cpos e17 h
          refine ht_seq ?_
          refine ht_region ?_
          refine sq_cons ⟨_, [(.t 4, iV 1)]⟩ (v_move (.inr rfl) trivial rfl (ble _ _ rfl) rfl) ?_
          refine sq_nil ?_
          refine ht_ret ?_
          cases h
          cases r5 _ rfl
          exact ret1 rfl (.tmp rfl)
        · replace h := cneg e17 h
          refine ht_skip ?_
          refine ht_region_draw mixed ?_
          refine rg_cons ⟨_, [(.t 33, sV t0_2)]⟩ (v_move (.inl rfl) trivial rfl (ble _ _ rfl) rfl) ?_
          refine rg_cons ⟨_, [(.t 34, iV t17b)]⟩ (v_move (.inl rfl) trivial rfl (ble _ _ rfl) rfl) ?_
          obtain ⟨e18, h⟩ := gpos h
          refine rg_cons ⟨_, [(.t 35, sV (t0_2.extract t17b.toNat (t0_2.size : Int).toNat))]⟩ (w_cut_str t0_2 t17b (t0_2.size : Int) rfl trivial rfl (ble _ _ rfl) und9 rfl (.inr ⟨_, _, rfl, rfl⟩) (.inl ⟨rfl, rfl⟩) e18) ?_
          refine rg_cons ⟨_, [(.t 36, sV t1_2)]⟩ (v_move (.inl rfl) trivial rfl (ble _ _ rfl) rfl) ?_
          refine rg_cons ⟨_, [(.t 37, iV t22b)]⟩ (v_move (.inl rfl) trivial rfl (ble _ _ rfl) rfl) ?_
          obtain ⟨e19, h⟩ := gpos h
          refine rg_cons ⟨_, [(.t 38, sV (t1_2.extract t22b.toNat (t1_2.size : Int).toNat))]⟩ (w_cut_str t1_2 t22b (t1_2.size : Int) rfl trivial rfl (ble _ _ rfl) und9 rfl (.inr ⟨_, _, rfl, rfl⟩) (.inl ⟨rfl, rfl⟩) e19) ?_
          refine rg_cons ⟨_, [(.t 0, sV (t0_2.extract t17b.toNat (t0_2.size : Int).toNat))]⟩ (v_move (.inr rfl) trivial rfl (ble _ _ rfl) rfl) ?_
          refine rg_cons ⟨_, [(.t 1, sV (t1_2.extract t22b.toNat (t1_2.size : Int).toNat))]⟩ (v_move (.inr rfl) trivial rfl (ble _ _ rfl) rfl) ?_
          refine rg_nil ⟨by kernel_rfl, ?_⟩
          exact j7 _ _ h (wk_ren _ (fun i => i) rfl ⟨rfl, rfl, trivial⟩)
    · replace h := cneg e13 h
      refine ht_exit ?_
      refine tq ?_
      refine tq ?_
      refine bq_hit ?_
      cases h
      exact j4 _ _ rfl (wk_ren _ (fun i => i) rfl ⟨rfl, rfl, trivial⟩)
set_option maxRecDepth 100000 in
set_option maxHeartbeats 4000000 in
theorem s42 (k : Nat) (t0 : Span) (r : Bool) (h : F42 k t0 = some r) : Awp.Spec Tryd.prog amb 42 [(.agg (eSpan t0))] (.ds [(.s (.bool r))]) := by
  rw [F42] at h
  refine spec_of Tryd.func42 rfl (ble _ _ rfl) fun w0 ok0 lt0 hA => ?_
  refine ht_seq ?_
  refine ht_region ?_
  refine sq_cons ⟨_, [(.t 1, .d (.dp (eSpan t0)))]⟩ (v_box_d (cs := (eSpan t0)) rfl trivial rfl (ble _ _ rfl) rfl rfl (ones_of rfl)) ?_
  refine sq_cons ⟨_, [(.t 2, bV false)]⟩ (v_move (.inr rfl) trivial rfl (ble _ _ rfl) rfl) ?_
  refine sq_nil ?_
  refine ht_seq ?_
  refine ht_seq ?_
  refine ht_region ?_
  refine sq_cons ⟨_, [(.t 3, .d (.dp (eSpan t0)))]⟩ (v_field_dp (a0 := 0) (cs := (eSpan t0)) rfl trivial rfl (ble _ _ rfl) fo46_0 rfl) ?_
  refine sq_cons ⟨_, [(.t 4, sV t0.mLo)]⟩ (v_load_dp1 rfl trivial rfl (ble _ _ rfl) onT9 rfl rfl) ?_
  refine sq_cons ⟨_, [(.t 5, bV (!strEq t0.mLo (⟨#[]⟩ : ByteArray)))]⟩ (v_bin rfl trivial rfl (ble _ _ rfl) rfl rfl (b_neS rfl)) ?_
  refine sq_cons ⟨_, [(.t 6, bV (!strEq t0.mLo (⟨#[]⟩ : ByteArray)))]⟩ (v_move (.inl rfl) trivial rfl (ble _ _ rfl) rfl) ?_
  refine sq_cons ⟨_, [(.t 7, mg (!strEq t0.mLo (⟨#[]⟩ : ByteArray)) (.d (.dp (eSpan t0))))]⟩ (v_cT rfl rfl rfl (ble _ _ rfl) rfl fun e1 => (v_field_dp (a0 := 0) (cs := (eSpan t0)) rfl ⟨_, rfl, be e1⟩ rfl (ble _ _ rfl) fo46_0 rfl)) ?_
  refine sq_cons ⟨_, [(.t 8, mg (!strEq t0.mLo (⟨#[]⟩ : ByteArray)) (sV t0.mLo))]⟩ (v_cT rfl rfl rfl (ble _ _ rfl) rfl fun e2 => (v_load_dp1 rfl ⟨_, rfl, be e2⟩ rfl (ble _ _ rfl) onT9 (gv e2) rfl)) ?_
  obtain ⟨t9, c4, h⟩ := bpos h
  refine sq_cons ⟨_, [(.t 9, mg (!strEq t0.mLo (⟨#[]⟩ : ByteArray)) (bV t9))]⟩ (v_cT rfl rfl rfl (ble _ _ rfl) rfl fun e3 => (w_call (ds := [(.s (.string t0.mLo))]) (caps := []) (l := [(.s (.bool t9))]) (s14 k t0.mLo _ (cpos e3 c4)) rfl rfl rfl en14 ⟨_, rfl, be e3⟩ rfl (ble _ _ rfl) (.inl ⟨rfl, rfl⟩) (cc (gv e3) rfl) rfl)) ?_
  refine sq_cons ⟨_, [(.t 10, mg (!strEq t0.mLo (⟨#[]⟩ : ByteArray)) (bV (!t9)))]⟩ (v_cT rfl rfl rfl (ble _ _ rfl) rfl fun e5 => (v_un rfl ⟨_, rfl, be e5⟩ rfl (ble _ _ rfl) (gv e5) (u_not rfl))) ?_
  refine sq_cons ⟨_, [(.t 11, bV ((!strEq t0.mLo (⟨#[]⟩ : ByteArray)) && (!t9)))]⟩ (v_pickB rfl trivial rfl (ble _ _ rfl) rfl (fun e6 => (gv e6)) (fun e7 => rfl) (pA _ _)) ?_
  refine sq_nil ?_
  refine ht_cond (b := ((!strEq t0.mLo (⟨#[]⟩ : ByteArray)) && (!t9))) rfl (fun e8 => ?_) (fun e8 => ?_)
  · replace h := cpos e8 h
    refine ht_seq ?_
    refine ht_region ?_
    refine sq_cons ⟨_, [(.t 2, bV false)]⟩ (v_move (.inr rfl) trivial rfl (ble _ _ rfl) rfl) ?_
    refine sq_nil ?_
    refine ht_ret ?_
    cases h
    exact ret1 rfl (.tmp rfl)
  · replace h := cneg e8 h
    refine ht_skip ?_
    refine ht_seq ?_
    refine ht_region ?_
    refine sq_cons ⟨_, [(.t 12, .d (.dp (List.drop 1 (eSpan t0))))]⟩ (v_field_dp (a0 := 1) (cs := (eSpan t0)) rfl trivial rfl (ble _ _ rfl) fo46_1 rfl) ?_
    refine sq_cons ⟨_, [(.t 13, sV t0.mHi)]⟩ (v_load_dp1 rfl trivial rfl (ble _ _ rfl) onT9 rfl rfl) ?_
    refine sq_cons ⟨_, [(.t 14, bV (strEq t0.mHi (⟨#[]⟩ : ByteArray)))]⟩ (v_bin rfl trivial rfl (ble _ _ rfl) rfl rfl (b_eqS rfl)) ?_
    refine sq_cons ⟨_, [(.t 15, bV (strEq t0.mHi (⟨#[]⟩ : ByteArray)))]⟩ (v_move (.inl rfl) trivial rfl (ble _ _ rfl) rfl) ?_
    refine sq_cons ⟨_, [(.t 16, mg (!(strEq t0.mHi (⟨#[]⟩ : ByteArray))) (.d (.dp (List.drop 1 (eSpan t0)))))]⟩ (v_cF rfl rfl rfl (ble _ _ rfl) rfl fun e9 => (v_field_dp (a0 := 1) (cs := (eSpan t0)) rfl ⟨_, rfl, be e9⟩ rfl (ble _ _ rfl) fo46_1 rfl)) ?_
    refine sq_cons ⟨_, [(.t 17, mg (!(strEq t0.mHi (⟨#[]⟩ : ByteArray))) (sV t0.mHi))]⟩ (v_cF rfl rfl rfl (ble _ _ rfl) rfl fun e10 => (v_load_dp1 rfl ⟨_, rfl, be e10⟩ rfl (ble _ _ rfl) onT9 (gv (nF e10)) rfl)) ?_
    obtain ⟨t18, c12, h⟩ := bpos h
    refine sq_cons ⟨_, [(.t 18, mg (!(strEq t0.mHi (⟨#[]⟩ : ByteArray))) (bV t18))]⟩ (v_cF rfl rfl rfl (ble _ _ rfl) rfl fun e11 => (w_call (ds := [(.s (.string t0.mHi))]) (caps := []) (l := [(.s (.bool t18))]) (s14 k t0.mHi _ (cpos (nF e11) c12)) rfl rfl rfl en14 ⟨_, rfl, be e11⟩ rfl (ble _ _ rfl) (.inl ⟨rfl, rfl⟩) (cc (gv (nF e11)) rfl) rfl)) ?_
    refine sq_cons ⟨_, [(.t 19, mg (!(strEq t0.mHi (⟨#[]⟩ : ByteArray))) (bV t18))]⟩ (v_cF rfl rfl rfl (ble _ _ rfl) rfl fun e13 => (v_move (.inl rfl) ⟨_, rfl, be e13⟩ rfl (ble _ _ rfl) (gv (nF e13)))) ?_
    refine sq_cons ⟨_, [(.t 20, mg ((!(strEq t0.mHi (⟨#[]⟩ : ByteArray))) && t18) (.d (.dp (eSpan t0))))]⟩ (v_mT rfl rfl rfl (ble _ _ rfl) rfl fun e14 e15 => (v_field_dp (a0 := 0) (cs := (eSpan t0)) rfl ⟨_, rfl, bm e14 e15⟩ rfl (ble _ _ rfl) fo46_0 rfl)) ?_
    refine sq_cons ⟨_, [(.t 21, mg ((!(strEq t0.mHi (⟨#[]⟩ : ByteArray))) && t18) (sV t0.mLo))]⟩ (v_mT rfl rfl rfl (ble _ _ rfl) rfl fun e16 e17 => (v_load_dp1 rfl ⟨_, rfl, bm e16 e17⟩ rfl (ble _ _ rfl) onT9 (gv (aT e16 e17)) rfl)) ?_
    refine sq_cons ⟨_, [(.t 22, mg ((!(strEq t0.mHi (⟨#[]⟩ : ByteArray))) && t18) (.d (.dp (List.drop 1 (eSpan t0)))))]⟩ (v_mT rfl rfl rfl (ble _ _ rfl) rfl fun e18 e19 => (v_field_dp (a0 := 1) (cs := (eSpan t0)) rfl ⟨_, rfl, bm e18 e19⟩ rfl (ble _ _ rfl) fo46_1 rfl)) ?_
    refine sq_cons ⟨_, [(.t 23, mg ((!(strEq t0.mHi (⟨#[]⟩ : ByteArray))) && t18) (sV t0.mHi))]⟩ (v_mT rfl rfl rfl (ble _ _ rfl) rfl fun e20 e21 => (v_load_dp1 rfl ⟨_, rfl, bm e20 e21⟩ rfl (ble _ _ rfl) onT9 (gv (aT e20 e21)) rfl)) ?_
    obtain ⟨t24, c24, h⟩ := bpos h
    refine sq_cons ⟨_, [(.t 24, mg ((!(strEq t0.mHi (⟨#[]⟩ : ByteArray))) && t18) (iV t24))]⟩ (v_mT rfl rfl rfl (ble _ _ rfl) rfl fun e22 e23 => (w_call (ds := [(.s (.string t0.mLo)), (.s (.string t0.mHi))]) (caps := []) (l := [(.s (.int .i64 t24))]) (s43 k t0.mLo t0.mHi _ (cpos (aT e22 e23) c24)) rfl rfl rfl en43 ⟨_, rfl, bm e22 e23⟩ rfl (ble _ _ rfl) (.inl ⟨rfl, rfl⟩) (cc (gv (aT e22 e23)) (cc (gv (aT e22 e23)) rfl)) rfl)) ?_
    refine sq_cons ⟨_, [(.t 25, mg ((!(strEq t0.mHi (⟨#[]⟩ : ByteArray))) && t18) (bV (ltI t24 0)))]⟩ (v_mT rfl rfl rfl (ble _ _ rfl) rfl fun e25 e26 => (v_bin rfl ⟨_, rfl, bm e25 e26⟩ rfl (ble _ _ rfl) (gv (aT e25 e26)) rfl (b_lss rfl))) ?_
    refine sq_cons ⟨_, [(.t 26, mg (!(strEq t0.mHi (⟨#[]⟩ : ByteArray))) (bV (t18 && (ltI t24 0))))]⟩ (v_cF rfl rfl rfl (ble _ _ rfl) rfl fun e27 => (v_pickB rfl ⟨_, rfl, be e27⟩ rfl (ble _ _ rfl) (gv (nF e27)) (fun e28 => (gv (aT (nF e27) e28))) (fun e29 => rfl) (pA _ _))) ?_
    refine sq_cons ⟨_, [(.t 27, bV ((strEq t0.mHi (⟨#[]⟩ : ByteArray)) || (t18 && (ltI t24 0))))]⟩ (v_pickB rfl trivial rfl (ble _ _ rfl) rfl (fun e30 => rfl) (fun e31 => (gv (nF e31))) (pO _ _)) ?_
    refine sq_cons ⟨_, [(.t 2, bV ((strEq t0.mHi (⟨#[]⟩ : ByteArray)) || (t18 && (ltI t24 0))))]⟩ (v_move (.inr rfl) trivial rfl (ble _ _ rfl) rfl) ?_
    refine sq_nil ?_
    refine ht_ret ?_
    cases h
    exact ret1 rfl (.tmp rfl)
set_option maxRecDepth 100000 in
set_option maxHeartbeats 4000000 in
theorem s86 (k : Nat) (t0 : Version) (r : Bool) (h : F86 k t0 = some r) : Awp.Spec Tryd.prog amb 86 [(.agg (eVersion t0))] (.ds [(.s (.bool r))]) := by
  rw [F86] at h
  refine spec_of Tryd.func86 rfl (ble _ _ rfl) fun w0 ok0 lt0 hA => ?_
  refine ht_seq ?_
  refine ht_region ?_
  refine sq_cons ⟨_, [(.t 1, .d (.dp (eVersion t0)))]⟩ (v_box_d (cs := (eVersion t0)) rfl trivial rfl (ble _ _ rfl) rfl rfl (ones_of rfl)) ?_
  refine sq_cons ⟨_, [(.t 2, bV false)]⟩ (v_move (.inr rfl) trivial rfl (ble _ _ rfl) rfl) ?_
  refine sq_nil ?_
  refine ht_seq ?_
  refine ht_region ?_
  refine sq_cons ⟨_, [(.t 3, .d (.dp (eVersion t0)))]⟩ (v_field_dp (a0 := 0) (cs := (eVersion t0)) rfl trivial rfl (ble _ _ rfl) fo84_0 rfl) ?_
  refine sq_cons ⟨_, [(.t 4, .d (.agg (eStamp t0.mAt)))]⟩ (w_ldp (eVersion t0) (eStamp t0.mAt) rfl trivial rfl (ble _ _ rfl) ag23 rfl (ble _ _ rfl) rfl) ?_
  obtain ⟨t5, c1, h⟩ := bpos h
  refine sq_cons ⟨_, [(.t 5, bV t5)]⟩ (w_call (ds := [(.agg (eStamp t0.mAt))]) (caps := []) (l := [(.s (.bool t5))]) (s13 k t0.mAt _ c1) rfl rfl rfl en13 trivial rfl (ble _ _ rfl) (.inl ⟨rfl, rfl⟩) rfl rfl) ?_
  refine sq_cons ⟨_, [(.t 6, bV t5)]⟩ (v_move (.inl rfl) trivial rfl (ble _ _ rfl) rfl) ?_
  refine sq_cons ⟨_, [(.t 7, mg t5 (.d (.dp (List.drop 4 (eVersion t0)))))]⟩ (v_cT rfl rfl rfl (ble _ _ rfl) rfl fun e2 => (v_field_dp (a0 := 4) (cs := (eVersion t0)) rfl ⟨_, rfl, be e2⟩ rfl (ble _ _ rfl) fo84_2 rfl)) ?_
  refine sq_cons ⟨_, [(.t 8, mg t5 (sV t0.mValue))]⟩ (v_cT rfl rfl rfl (ble _ _ rfl) rfl fun e3 => (v_load_dp1 rfl ⟨_, rfl, be e3⟩ rfl (ble _ _ rfl) onT9 (gv e3) rfl)) ?_
  refine sq_cons ⟨_, [(.t 9, mg t5 (iV (t0.mValue.size : Int)))]⟩ (v_cT rfl rfl rfl (ble _ _ rfl) rfl fun e4 => (v_len_str rfl rfl ⟨_, rfl, be e4⟩ rfl (ble _ _ rfl) und9 (gv e4))) ?_
  refine sq_cons ⟨_, [(.t 10, mg t5 (bV (leI (t0.mValue.size : Int) 16)))]⟩ (v_cT rfl rfl rfl (ble _ _ rfl) rfl fun e5 => (v_bin rfl ⟨_, rfl, be e5⟩ rfl (ble _ _ rfl) (gv e5) rfl (b_leq rfl))) ?_
  refine sq_cons ⟨_, [(.t 11, bV (t5 && (leI (t0.mValue.size : Int) 16)))]⟩ (v_pickB rfl trivial rfl (ble _ _ rfl) rfl (fun e6 => (gv e6)) (fun e7 => rfl) (pA _ _)) ?_
  refine sq_cons ⟨_, [(.t 12, bV (t5 && (leI (t0.mValue.size : Int) 16)))]⟩ (v_move (.inl rfl) trivial rfl (ble _ _ rfl) rfl) ?_
  refine sq_cons ⟨_, [(.t 13, mg (t5 && (leI (t0.mValue.size : Int) 16)) (.d (.dp (List.drop 3 (eVersion t0)))))]⟩ (v_cT rfl rfl rfl (ble _ _ rfl) rfl fun e8 => (v_field_dp (a0 := 3) (cs := (eVersion t0)) rfl ⟨_, rfl, be e8⟩ rfl (ble _ _ rfl) fo84_1 rfl)) ?_
  refine sq_cons ⟨_, [(.t 14, mg (t5 && (leI (t0.mValue.size : Int) 16)) (bV t0.mGone))]⟩ (v_cT rfl rfl rfl (ble _ _ rfl) rfl fun e9 => (v_load_dp1 rfl ⟨_, rfl, be e9⟩ rfl (ble _ _ rfl) onT4 (gv e9) rfl)) ?_
  refine sq_cons ⟨_, [(.t 15, mg (t5 && (leI (t0.mValue.size : Int) 16)) (bV (!t0.mGone)))]⟩ (v_cT rfl rfl rfl (ble _ _ rfl) rfl fun e10 => (v_un rfl ⟨_, rfl, be e10⟩ rfl (ble _ _ rfl) (gv e10) (u_not rfl))) ?_
  refine sq_cons ⟨_, [(.t 16, mg (t5 && (leI (t0.mValue.size : Int) 16)) (bV (!t0.mGone)))]⟩ (v_cT rfl rfl rfl (ble _ _ rfl) rfl fun e11 => (v_move (.inl rfl) ⟨_, rfl, be e11⟩ rfl (ble _ _ rfl) (gv e11))) ?_
  refine sq_cons ⟨_, [(.t 17, mg ((t5 && (leI (t0.mValue.size : Int) 16)) && (!(!t0.mGone))) (.d (.dp (List.drop 4 (eVersion t0)))))]⟩ (v_mF rfl rfl rfl (ble _ _ rfl) rfl fun e12 e13 => (v_field_dp (a0 := 4) (cs := (eVersion t0)) rfl ⟨_, rfl, bm e12 e13⟩ rfl (ble _ _ rfl) fo84_2 rfl)) ?_
  refine sq_cons ⟨_, [(.t 18, mg ((t5 && (leI (t0.mValue.size : Int) 16)) && (!(!t0.mGone))) (sV t0.mValue))]⟩ (v_mF rfl rfl rfl (ble _ _ rfl) rfl fun e14 e15 => (v_load_dp1 rfl ⟨_, rfl, bm e14 e15⟩ rfl (ble _ _ rfl) onT9 (gv (aT e14 (nF e15))) rfl)) ?_
  refine sq_cons ⟨_, [(.t 19, mg ((t5 && (leI (t0.mValue.size : Int) 16)) && (!(!t0.mGone))) (bV (strEq t0.mValue (⟨#[]⟩ : ByteArray))))]⟩ (v_mF rfl rfl rfl (ble _ _ rfl) rfl fun e16 e17 => (v_bin rfl ⟨_, rfl, bm e16 e17⟩ rfl (ble _ _ rfl) (gv (aT e16 (nF e17))) rfl (b_eqS rfl))) ?_
  refine sq_cons ⟨_, [(.t 20, mg (t5 && (leI (t0.mValue.size : Int) 16)) (bV ((!t0.mGone) || (strEq t0.mValue (⟨#[]⟩ : ByteArray)))))]⟩ (v_cT rfl rfl rfl (ble _ _ rfl) rfl fun e18 => (v_pickB rfl ⟨_, rfl, be e18⟩ rfl (ble _ _ rfl) (gv e18) (fun e19 => rfl) (fun e20 => (gv (aT e18 (nF e20)))) (pO _ _))) ?_
  refine sq_cons ⟨_, [(.t 21, bV ((t5 && (leI (t0.mValue.size : Int) 16)) && ((!t0.mGone) || (strEq t0.mValue (⟨#[]⟩ : ByteArray)))))]⟩ (v_pickB rfl trivial rfl (ble _ _ rfl) rfl (fun e21 => (gv e21)) (fun e22 => rfl) (pA _ _)) ?_
  refine sq_cons ⟨_, [(.t 2, bV ((t5 && (leI (t0.mValue.size : Int) 16)) && ((!t0.mGone) || (strEq t0.mValue (⟨#[]⟩ : ByteArray)))))]⟩ (v_move (.inr rfl) trivial rfl (ble _ _ rfl) rfl) ?_
  refine sq_nil ?_
  refine ht_ret ?_
  cases h
  exact ret1 rfl (.tmp rfl)
set_option maxRecDepth 100000 in
set_option maxHeartbeats 4000000 in
theorem s78 (k : Nat) (t0 : Int) (r : Bool) (h : F78 k t0 = some r) : Awp.Spec Tryd.prog amb 78 [(.s (.int .i64 t0))] (.ds [(.s (.bool r))]) := by
  rw [F78] at h
  refine spec_of Tryd.func78 rfl (ble _ _ rfl) fun w0 ok0 lt0 hA => ?_
  refine ht_seq ?_
  refine ht_region ?_
  refine sq_cons ⟨_, [(.t 2, bV false)]⟩ (v_move (.inr rfl) trivial rfl (ble _ _ rfl) rfl) ?_
  refine sq_nil ?_
  refine ht_seq ?_
  refine ht_region ?_
  refine sq_cons ⟨_, [(.t 3, iV t0)]⟩ (v_move (.inl rfl) trivial rfl (ble _ _ rfl) rfl) ?_
  refine sq_cons ⟨_, [(.t 4, iV t0)]⟩ (v_move (.inl rfl) trivial rfl (ble _ _ rfl) rfl) ?_
  refine sq_cons ⟨_, [(.t 5, bV (!eqI t0 t0))]⟩ (v_bin rfl trivial rfl (ble _ _ rfl) rfl rfl (b_neq rfl)) ?_
  refine sq_cons ⟨_, [(.t 2, bV (!eqI t0 t0))]⟩ (v_move (.inr rfl) trivial rfl (ble _ _ rfl) rfl) ?_
  refine sq_nil ?_
  refine ht_ret ?_
  cases h
  exact ret1 rfl (.tmp rfl)
set_option maxRecDepth 100000 in
set_option maxHeartbeats 4000000 in
theorem s54 (k : Nat) (t0 : Int) (t1 : Int) (r : Int) (h : F54 k t0 t1 = some r) : Awp.Spec Tryd.prog amb 54 [(.s (.int .i64 t0)), (.s (.int .i64 t1))] (.ds [(.s (.int .i64 r))]) := by
  rw [F54] at h
  refine spec_of Tryd.func54 rfl (ble _ _ rfl) fun w0 ok0 lt0 hA => ?_
  refine ht_seq ?_
  refine ht_region ?_
  refine sq_cons ⟨_, [(.t 4, iV 0)]⟩ (v_move (.inr rfl) trivial rfl (ble _ _ rfl) rfl) ?_
  refine sq_nil ?_
  refine ht_seq ?_
  refine ht_region ?_
  refine sq_cons ⟨_, [(.t 7, iV t0)]⟩ (v_move (.inl rfl) trivial rfl (ble _ _ rfl) rfl) ?_
  obtain ⟨t8, c1, h⟩ := bpos h
  refine sq_cons ⟨_, [(.t 8, bV t8)]⟩ (w_call (ds := [(.s (.int .i64 t0))]) (caps := []) (l := [(.s (.bool t8))]) (s78 k t0 _ c1) rfl rfl rfl en78 trivial rfl (ble _ _ rfl) (.inl ⟨rfl, rfl⟩) rfl rfl) ?_
  refine sq_cons ⟨_, [(.t 5, bV t8)]⟩ (v_move (.inr rfl) trivial rfl (ble _ _ rfl) rfl) ?_
  refine sq_nil ?_
  refine ht_seq ?_
  refine ht_region ?_
  refine sq_cons ⟨_, [(.t 9, iV t1)]⟩ (v_move (.inl rfl) trivial rfl (ble _ _ rfl) rfl) ?_
  obtain ⟨t10, c2, h⟩ := bpos h
  refine sq_cons ⟨_, [(.t 10, bV t10)]⟩ (w_call (ds := [(.s (.int .i64 t1))]) (caps := []) (l := [(.s (.bool t10))]) (s78 k t1 _ c2) rfl rfl rfl en78 trivial rfl (ble _ _ rfl) (.inl ⟨rfl, rfl⟩) rfl rfl) ?_
  refine sq_cons ⟨_, [(.t 6, bV t10)]⟩ (v_move (.inr rfl) trivial rfl (ble _ _ rfl) rfl) ?_
  refine sq_nil ?_
  refine ht_seq ?_
  refine ht_seq ?_
  refine ht_region ?_
  refine sq_cons ⟨_, [(.t 11, bV t8)]⟩ (v_move (.inl rfl) trivial rfl (ble _ _ rfl) rfl) ?_
  refine sq_nil ?_
  refine ht_cond (b := t8) rfl (fun e3 => ?_) (fun e3 => ?_)
  · replace h := cpos e3 h
    refine ht_seq ?_
    refine ht_seq ?_
    refine ht_region ?_
    refine sq_cons ⟨_, [(.t 12, bV t10)]⟩ (v_move (.inl rfl) trivial rfl (ble _ _ rfl) rfl) ?_
    refine sq_nil ?_
    refine ht_cond (b := t10) rfl (fun e4 => ?_) (fun e4 => ?_)
    · replace h := cpos e4 h
      refine ht_seq ?_
      refine ht_region ?_
      refine sq_cons ⟨_, [(.t 4, iV 0)]⟩ (v_move (.inr rfl) trivial rfl (ble _ _ rfl) rfl) ?_
      refine sq_nil ?_
      refine ht_ret ?_
      cases h
      exact ret1 rfl (.tmp rfl)
    · replace h := cneg e4 h
      refine ht_skip ?_
      refine ht_seq ?_
      refine ht_region ?_
      refine sq_cons ⟨_, [(.t 4, iV (-1))]⟩ (v_move (.inr rfl) trivial rfl (ble _ _ rfl) rfl) ?_
      refine sq_nil ?_
      refine ht_ret ?_
      cases h
      exact ret1 rfl (.tmp rfl)
  · replace h := cneg e3 h
    refine ht_skip ?_
    refine ht_seq ?_
    refine ht_seq ?_
    refine ht_region ?_
    refine sq_cons ⟨_, [(.t 13, bV t10)]⟩ (v_move (.inl rfl) trivial rfl (ble _ _ rfl) rfl) ?_
    refine sq_nil ?_
    refine ht_cond (b := t10) rfl (fun e5 => ?_) (fun e5 => ?_)
    · replace h := cpos e5 h
      refine ht_seq ?_
      refine ht_region ?_
      refine sq_cons ⟨_, [(.t 4, iV 1)]⟩ (v_move (.inr rfl) trivial rfl (ble _ _ rfl) rfl) ?_
      refine sq_nil ?_
      refine ht_ret ?_
      cases h
      exact ret1 rfl (.tmp rfl)
    · replace h := cneg e5 h
      refine ht_skip ?_
      refine ht_seq ?_
      refine ht_seq ?_
      refine ht_region ?_
      refine sq_cons ⟨_, [(.t 14, iV t0)]⟩ (v_move (.inl rfl) trivial rfl (ble _ _ rfl) rfl) ?_
      refine sq_cons ⟨_, [(.t 15, iV t1)]⟩ (v_move (.inl rfl) trivial rfl (ble _ _ rfl) rfl) ?_
      refine sq_cons ⟨_, [(.t 16, bV (ltI t0 t1))]⟩ (v_bin rfl trivial rfl (ble _ _ rfl) rfl rfl (b_lss rfl)) ?_
      refine sq_nil ?_
      refine ht_cond (b := (ltI t0 t1)) rfl (fun e6 => ?_) (fun e6 => ?_)
      · replace h := cpos e6 h
        refine ht_seq ?_
        refine ht_region ?_
        refine sq_cons ⟨_, [(.t 4, iV (-1))]⟩ (v_move (.inr rfl) trivial rfl (ble _ _ rfl) rfl) ?_
        refine sq_nil ?_
        refine ht_ret ?_
        cases h
        exact ret1 rfl (.tmp rfl)
      · replace h := cneg e6 h
        refine ht_skip ?_
        refine ht_seq ?_
        refine ht_seq ?_
        refine ht_region ?_
        refine sq_cons ⟨_, [(.t 17, iV t0)]⟩ (v_move (.inl rfl) trivial rfl (ble _ _ rfl) rfl) ?_
        refine sq_cons ⟨_, [(.t 18, iV t1)]⟩ (v_move (.inl rfl) trivial rfl (ble _ _ rfl) rfl) ?_
        refine sq_cons ⟨_, [(.t 19, bV (ltI t1 t0))]⟩ (v_bin rfl trivial rfl (ble _ _ rfl) rfl rfl (b_gtr rfl)) ?_
        refine sq_nil ?_
        refine ht_cond (b := (ltI t1 t0)) rfl (fun e7 => ?_) (fun e7 => ?_)
        · replace h := cpos e7 h
          refine ht_seq ?_
          refine ht_region ?_
          refine sq_cons ⟨_, [(.t 4, iV 1)]⟩ (v_move (.inr rfl) trivial rfl (ble _ _ rfl) rfl) ?_
          refine sq_nil ?_
          refine ht_ret ?_
          cases h
          exact ret1 rfl (.tmp rfl)
        · replace h := cneg e7 h
          refine ht_skip ?_
          refine ht_seq ?_
          refine ht_region ?_
          refine sq_cons ⟨_, [(.t 4, iV 0)]⟩ (v_move (.inr rfl) trivial rfl (ble _ _ rfl) rfl) ?_
          refine sq_nil ?_
          refine ht_ret ?_
          cases h
          exact ret1 rfl (.tmp rfl)
set_option maxRecDepth 100000 in
set_option maxHeartbeats 4000000 in
theorem s53 (k : Nat) (t0 : List Int) (r : Int) (h : F53 k t0 = some r) : Awp.Spec Tryd.prog amb 53 [(.sl 1 (t0.map (eI .i64)))] (.ds [(.s (.int .i64 r))]) := by
  rw [F53] at h
  refine spec_of Tryd.func53 rfl (ble _ _ rfl) fun w0 ok0 lt0 hA => ?_
  refine ht_seq ?_
  refine ht_region ?_
  refine sq_cons ⟨_, [(.t 2, iV 0)]⟩ (v_move (.inr rfl) trivial rfl (ble _ _ rfl) rfl) ?_
  refine sq_nil ?_
  refine ht_seq ?_
  refine ht_region ?_
  refine sq_cons ⟨_, [(.t 3, iV 0)]⟩ (v_move (.inr rfl) trivial rfl (ble _ _ rfl) rfl) ?_
  refine sq_nil ?_
  refine ht_gj (go_id' h) (fun _ => tell [(.t 3, iV 0)]) (fun _ h => ?_) (fun v1 K2 h j4 r5 => ?_)
  · refine ht_seq ?_
    refine ht_region ?_
    refine sq_cons ⟨_, [(.t 17, iV 0)]⟩ (v_move (.inl rfl) trivial rfl (ble _ _ rfl) rfl) ?_
    refine sq_cons ⟨_, [(.t 2, iV 0)]⟩ (v_move (.inr rfl) trivial rfl (ble _ _ rfl) rfl) ?_
    refine sq_nil ?_
    refine ht_ret ?_
    cases h
    exact ret1 rfl (.tmp rfl)
  · refine ht_seq ?_
    refine ht_region ?_
    refine sq_cons ⟨_, [(.t 6, .d (.sl 1 (t0.map (eI .i64))))]⟩ (v_move (.inl rfl) trivial rfl (ble _ _ rfl) rfl) ?_
    refine sq_cons ⟨_, [(.t 7, iV (t0.length : Int))]⟩ (w_len t0 (eI .i64) rfl rfl trivial rfl (ble _ _ rfl) slT61 rfl) ?_
    refine sq_cons ⟨_, [(.t 8, iV 0)]⟩ (v_move (.inl rfl) trivial rfl (ble _ _ rfl) rfl) ?_
    refine sq_nil ?_
    refine ht_block ?_
    refine ht_rd h (fun _ => rfl) (fun t8 => tell [(.t 3, iV 0), (.t 6, .d (.sl 1 (t0.map (eI .i64)))), (.t 7, iV (t0.length : Int)), (.t 8, iV t8)]) (wk_ren _ (fun i => i) rfl ⟨rfl, rfl, rfl, rfl, trivial⟩) fun k t8 h K12 j7 => ?_
    rw [F53_l1] at h
    refine ht_seq ?_
    refine ht_region ?_
    refine sq_cons ⟨_, [(.t 9, bV (ltI t8 (t0.length : Int)))]⟩ (v_bin rfl trivial rfl (ble _ _ rfl) rfl rfl (b_lss rfl)) ?_
    refine sq_nil ?_
    refine ht_seq ?_
    refine ht_cond (b := (ltI t8 (t0.length : Int))) rfl (fun e9 => ?_) (fun e9 => ?_)
    · replace h := cpos e9 h
      refine ht_skip ?_
      refine ht_seq ?_
      refine ht_block ?_
      refine ht_seq ?_
      refine ht_region ?_
      obtain ⟨e10, h⟩ := gpos h
      refine sq_cons ⟨_, [(.t 10, .d (.dp [(.s (.int .i64 (rd t0 t8)))]))]⟩ (w_idx t0 (eI .i64) rfl trivial rfl (ble _ _ rfl) slT61 rfl rfl e10) ?_
      refine sq_cons ⟨_, [(.t 11, iV (rd t0 t8))]⟩ (v_load_dp1 rfl trivial rfl (ble _ _ rfl) onT3 rfl rfl) ?_
      refine sq_cons ⟨_, [(.t 5, iV (rd t0 t8))]⟩ (v_move (.inr rfl) trivial rfl (ble _ _ rfl) rfl) ?_
      refine sq_nil ?_
      refine ht_seq ?_
      refine ht_region ?_
      refine sq_cons ⟨_, [(.t 12, iV (rd t0 t8))]⟩ (v_move (.inl rfl) trivial rfl (ble _ _ rfl) rfl) ?_
      refine sq_cons ⟨_, [(.t 13, iV 0)]⟩ (v_move (.inl rfl) trivial rfl (ble _ _ rfl) rfl) ?_
      refine sq_cons ⟨_, [(.t 14, bV (!eqI (rd t0 t8) 0))]⟩ (v_bin rfl trivial rfl (ble _ _ rfl) rfl rfl (b_neq rfl)) ?_
      refine sq_nil ?_
      refine ht_cond (b := (!eqI (rd t0 t8) 0)) rfl (fun e11 => ?_) (fun e11 => ?_)
      · replace h := cpos e11 h
        refine ht_seq ?_
        refine ht_region ?_
        refine sq_cons ⟨_, [(.t 15, iV (rd t0 t8))]⟩ (v_move (.inl rfl) trivial rfl (ble _ _ rfl) rfl) ?_
        refine sq_cons ⟨_, [(.t 2, iV (rd t0 t8))]⟩ (v_move (.inr rfl) trivial rfl (ble _ _ rfl) rfl) ?_
        refine sq_nil ?_
        refine ht_ret ?_
        cases h
        cases r5 _ rfl
        exact ret1 rfl (.tmp rfl)
      · replace h := cneg e11 h
        refine ht_skip ?_
        refine ht_region ?_
        refine sq_cons ⟨_, [(.t 16, iV (IntKind.wrap .i64 (t8 + 1)))]⟩ (v_bin rfl trivial rfl (ble _ _ rfl) rfl rfl (b_add rfl)) ?_
        refine sq_cons ⟨_, [(.t 8, iV (IntKind.wrap .i64 (t8 + 1)))]⟩ (v_move (.inl rfl) trivial rfl (ble _ _ rfl) rfl) ?_
        refine sq_nil ?_
        exact j7 _ _ h (wk_ren _ (fun i => i) rfl ⟨rfl, rfl, rfl, rfl, trivial⟩)
    · replace h := cneg e9 h
      refine ht_exit ?_
      refine tq ?_
      refine tq ?_
      refine bq_hit ?_
      cases h
      exact j4 _ _ rfl (wk_ren _ (fun i => i) rfl ⟨rfl, trivial⟩)
set_option maxRecDepth 100000 in
set_option maxHeartbeats 4000000 in
theorem s29 (k : Nat) (t0 : Stamp) (t1 : Stamp) (r : Int) (h : F29 k t0 t1 = some r) : Awp.Spec Tryd.prog amb 29 [(.agg (eStamp t0)), (.agg (eStamp t1))] (.ds [(.s (.int .i64 r))]) := by
  rw [F29] at h
  refine spec_of Tryd.func29 rfl (ble _ _ rfl) fun w0 ok0 lt0 hA => ?_
  refine ht_seq ?_
  refine ht_region ?_
  refine sq_cons ⟨_, [(.t 2, .d (.dp (eStamp t0)))]⟩ (v_box_d (cs := (eStamp t0)) rfl trivial rfl (ble _ _ rfl) rfl rfl (ones_of rfl)) ?_
  refine sq_cons ⟨_, [(.t 3, .d (.dp (eStamp t1)))]⟩ (v_box_d (cs := (eStamp t1)) rfl trivial rfl (ble _ _ rfl) rfl rfl (ones_of rfl)) ?_
  refine sq_cons ⟨_, [(.t 4, iV 0)]⟩ (v_move (.inr rfl) trivial rfl (ble _ _ rfl) rfl) ?_
  refine sq_nil ?_
  refine ht_seq ?_
  refine ht_region_draw mixed ?_
  refine rg_cons ⟨_, [(.t 5, .d (.dp (eStamp t0)))]⟩ (v_field_dp (a0 := 0) (cs := (eStamp t0)) rfl trivial rfl (ble _ _ rfl) fo23_0 rfl) ?_
  refine rg_cons ⟨_, [(.t 6, iV t0.mWall)]⟩ (v_load_dp1 rfl trivial rfl (ble _ _ rfl) onT3 rfl rfl) ?_
  refine rg_cons ⟨_, [(.t 7, .d (.dp (eStamp t1)))]⟩ (v_field_dp (a0 := 0) (cs := (eStamp t1)) rfl trivial rfl (ble _ _ rfl) fo23_0 rfl) ?_
  refine rg_cons ⟨_, [(.t 8, iV t1.mWall)]⟩ (v_load_dp1 rfl trivial rfl (ble _ _ rfl) onT3 rfl rfl) ?_
  obtain ⟨t9, c1, h⟩ := bpos h
  refine rg_cons ⟨_, [(.t 9, iV t9)]⟩ (w_call (ds := [(.s (.int .i64 t0.mWall)), (.s (.int .i64 t1.mWall))]) (caps := []) (l := [(.s (.int .i64 t9))]) (s54 k t0.mWall t1.mWall _ c1) rfl rfl rfl en54 trivial rfl (ble _ _ rfl) (.inl ⟨rfl, rfl⟩) rfl rfl) ?_
  refine rg_cons ⟨_, [(.t 10, .d (.dp (List.drop 1 (eStamp t0))))]⟩ (v_field_dp (a0 := 1) (cs := (eStamp t0)) rfl trivial rfl (ble _ _ rfl) fo23_1 rfl) ?_
  refine rg_cons ⟨_, [(.t 11, iV t0.mTick)]⟩ (v_load_dp1 rfl trivial rfl (ble _ _ rfl) onT3 rfl rfl) ?_
  refine rg_cons ⟨_, [(.t 12, .d (.dp (List.drop 1 (eStamp t1))))]⟩ (v_field_dp (a0 := 1) (cs := (eStamp t1)) rfl trivial rfl (ble _ _ rfl) fo23_1 rfl) ?_
  refine rg_cons ⟨_, [(.t 13, iV t1.mTick)]⟩ (v_load_dp1 rfl trivial rfl (ble _ _ rfl) onT3 rfl rfl) ?_
  obtain ⟨t14, c2, h⟩ := bpos h
  refine rg_cons ⟨_, [(.t 14, iV t14)]⟩ (w_call (ds := [(.s (.int .i64 t0.mTick)), (.s (.int .i64 t1.mTick))]) (caps := []) (l := [(.s (.int .i64 t14))]) (s54 k t0.mTick t1.mTick _ c2) rfl rfl rfl en54 trivial rfl (ble _ _ rfl) (.inl ⟨rfl, rfl⟩) rfl rfl) ?_
  refine rg_cons ⟨_, [(.t 15, .d (.dp (List.drop 2 (eStamp t0))))]⟩ (v_field_dp (a0 := 2) (cs := (eStamp t0)) rfl trivial rfl (ble _ _ rfl) fo23_2 rfl) ?_
  refine rg_cons ⟨_, [(.t 16, iV t0.mNode)]⟩ (v_load_dp1 rfl trivial rfl (ble _ _ rfl) onT3 rfl rfl) ?_
  refine rg_cons ⟨_, [(.t 17, .d (.dp (List.drop 2 (eStamp t1))))]⟩ (v_field_dp (a0 := 2) (cs := (eStamp t1)) rfl trivial rfl (ble _ _ rfl) fo23_2 rfl) ?_
  refine rg_cons ⟨_, [(.t 18, iV t1.mNode)]⟩ (v_load_dp1 rfl trivial rfl (ble _ _ rfl) onT3 rfl rfl) ?_
  obtain ⟨t19, c3, h⟩ := bpos h
  refine rg_cons ⟨_, [(.t 19, iV t19)]⟩ (w_call (ds := [(.s (.int .i64 t0.mNode)), (.s (.int .i64 t1.mNode))]) (caps := []) (l := [(.s (.int .i64 t19))]) (s54 k t0.mNode t1.mNode _ c3) rfl rfl rfl en54 trivial rfl (ble _ _ rfl) (.inl ⟨rfl, rfl⟩) rfl rfl) ?_
  refine rg_cons ⟨_, [(.t 20, .d (.sl 1 (([t9, t14, t19]).map (eI .i64))))]⟩ (w_bsl_d [(0, iV t9), (1, iV t14), (2, iV t19)] [t9, t14, t19] (eI .i64) rfl trivial rfl (ble _ _ rfl) slT61 zr3 (encI .i64) (ble _ _ rfl) rfl (by kernel_rfl) rfl rfl (by kernel_rfl)) ?_
  obtain ⟨t21, c4, h⟩ := bpos h
  refine rg_cons ⟨_, [(.t 21, iV t21)]⟩ (w_call (ds := [(.sl 1 (([t9, t14, t19]).map (eI .i64)))]) (caps := []) (l := [(.s (.int .i64 t21))]) (s53 k ([t9, t14, t19]) _ c4) rfl rfl rfl en53 trivial rfl (ble _ _ rfl) (.inl ⟨rfl, rfl⟩) rfl rfl) ?_
  refine rg_cons ⟨_, [(.t 4, iV t21)]⟩ (v_move (.inr rfl) trivial rfl (ble _ _ rfl) rfl) ?_
  refine rg_nil ⟨by kernel_rfl, ?_⟩
  refine ht_ret ?_
  cases h
  exact ret1 rfl (.tmp rfl)
set_option maxRecDepth 100000 in
set_option maxHeartbeats 4000000 in
theorem s79 (k : Nat) (t0 : List Version) (r : Bool) (h : F79 k t0 = some r) : Awp.Spec Tryd.prog amb 79 [(.sl 5 (t0.map eVersion))] (.ds [(.s (.bool r))]) := by
  rw [F79] at h
  refine spec_of Tryd.func79 rfl (ble _ _ rfl) fun w0 ok0 lt0 hA => ?_
  refine ht_seq ?_
  refine ht_region ?_
  refine sq_cons ⟨_, [(.t 2, bV false)]⟩ (v_move (.inr rfl) trivial rfl (ble _ _ rfl) rfl) ?_
  refine sq_nil ?_
  refine ht_gj (go_id' h) (fun _ => tell [(.t 0, .d (.sl 5 (t0.map eVersion)))]) (fun _ h => ?_) (fun v1 K2 h j4 r5 => ?_)
  · refine ht_seq ?_
    refine ht_region ?_
    refine sq_cons ⟨_, [(.t 32, .d (.sl 5 (t0.map eVersion)))]⟩ (v_move (.inl rfl) trivial rfl (ble _ _ rfl) rfl) ?_
    refine sq_cons ⟨_, [(.t 33, iV (t0.length : Int))]⟩ (w_len t0 eVersion rfl rfl trivial rfl (ble _ _ rfl) slT98 rfl) ?_
    refine sq_cons ⟨_, [(.t 34, bV (leI (t0.length : Int) 64))]⟩ (v_bin rfl trivial rfl (ble _ _ rfl) rfl rfl (b_leq rfl)) ?_
    refine sq_cons ⟨_, [(.t 2, bV (leI (t0.length : Int) 64))]⟩ (v_move (.inr rfl) trivial rfl (ble _ _ rfl) rfl) ?_
    refine sq_nil ?_
    refine ht_ret ?_
    cases h
    exact ret1 rfl (.tmp rfl)
  · refine ht_seq ?_
    refine ht_region ?_
    refine sq_cons ⟨_, [(.t 5, .d (.sl 5 (t0.map eVersion)))]⟩ (v_move (.inl rfl) trivial rfl (ble _ _ rfl) rfl) ?_
    refine sq_cons ⟨_, [(.t 6, iV (t0.length : Int))]⟩ (w_len t0 eVersion rfl rfl trivial rfl (ble _ _ rfl) slT98 rfl) ?_
    refine sq_cons ⟨_, [(.t 7, iV 0)]⟩ (v_move (.inl rfl) trivial rfl (ble _ _ rfl) rfl) ?_
    refine sq_nil ?_
    refine ht_block ?_
    refine ht_rd h (fun _ => rfl) (fun t7 => tell [(.t 0, .d (.sl 5 (t0.map eVersion))), (.t 5, .d (.sl 5 (t0.map eVersion))), (.t 6, iV (t0.length : Int)), (.t 7, iV t7)]) (wk_ren _ (fun i => i) rfl ⟨rfl, rfl, rfl, rfl, trivial⟩) fun k t7 h K43 j7 => ?_
    rw [F79_l1] at h
    refine ht_seq ?_
    refine ht_region ?_
    refine sq_cons ⟨_, [(.t 8, bV (ltI t7 (t0.length : Int)))]⟩ (v_bin rfl trivial rfl (ble _ _ rfl) rfl rfl (b_lss rfl)) ?_
    refine sq_nil ?_
    refine ht_seq ?_
    refine ht_cond (b := (ltI t7 (t0.length : Int))) rfl (fun e9 => ?_) (fun e9 => ?_)
    · replace h := cpos e9 h
      refine ht_skip ?_
      refine ht_seq ?_
      refine ht_block ?_
      refine ht_seq ?_
      refine ht_region ?_
      refine sq_cons ⟨_, [(.t 9, iV t7)]⟩ (v_move (.inl rfl) trivial rfl (ble _ _ rfl) rfl) ?_
      obtain ⟨e10, h⟩ := gpos h
      refine sq_cons ⟨_, [(.t 10, .d (.dp (eVersion (rd t0 t7))))]⟩ (w_idx t0 eVersion rfl trivial rfl (ble _ _ rfl) slT98 rfl rfl e10) ?_
      refine sq_cons ⟨_, [(.t 11, .d (.agg (eVersion (rd t0 t7))))]⟩ (w_ldp (eVersion (rd t0 t7)) (eVersion (rd t0 t7)) rfl trivial rfl (ble _ _ rfl) ag84 rfl (ble _ _ rfl) rfl) ?_
      refine sq_cons _ (v_alloc (id := 4) (cs := zc84) rfl trivial rfl (ble _ _ rfl) zu84 rfl ft84 rfl) ?_
      refine sq_cons ⟨_, [(.t 3, iV t7)]⟩ (v_move (.inr rfl) trivial rfl (ble _ _ rfl) rfl) ?_
      refine sq_cons _ (v_store_box (id := 4) (off := 0) (cs := (eVersion (rd t0 t7)).map V.d) rfl trivial rfl sz84 rfl rfl rfl rfl (ones_of rfl) (ble _ _ rfl)) ?_
      refine sq_nil ?_
      refine ht_seq ?_
      refine ht_region_draw mixed ?_
      refine rg_cons ⟨_, [(.t 12, .d (.agg (eVersion (rd t0 t7))))]⟩ (w_ldb 4 0 rfl trivial rfl (ble _ _ rfl) ag84 rfl rfl (ble _ _ rfl) rfl) ?_
      obtain ⟨t13, c11, h⟩ := bpos h
      refine rg_cons ⟨_, [(.t 13, bV t13)]⟩ (w_call (ds := [(.agg (eVersion (rd t0 t7)))]) (caps := []) (l := [(.s (.bool t13))]) (s86 k (rd t0 t7) _ c11) rfl rfl rfl en86 trivial rfl (ble _ _ rfl) (.inl ⟨rfl, rfl⟩) rfl rfl) ?_
      refine rg_cons ⟨_, [(.t 14, bV (!t13))]⟩ (v_un rfl trivial rfl (ble _ _ rfl) rfl (u_not rfl)) ?_
      refine rg_cons ⟨_, [(.t 15, bV (!t13))]⟩ (v_move (.inl rfl) trivial rfl (ble _ _ rfl) rfl) ?_
      refine rg_cons ⟨_, [(.t 16, mg (!(!t13)) (iV t7))]⟩ (v_cF rfl rfl rfl (ble _ _ rfl) rfl fun e12 => (v_move (.inl rfl) ⟨_, rfl, be e12⟩ rfl (ble _ _ rfl) rfl)) ?_
      refine rg_cons ⟨_, [(.t 17, mg (!(!t13)) (bV (ltI 0 t7)))]⟩ (v_cF rfl rfl rfl (ble _ _ rfl) rfl fun e13 => (v_bin rfl ⟨_, rfl, be e13⟩ rfl (ble _ _ rfl) (gv (nF e13)) rfl (b_gtr rfl))) ?_
      refine rg_cons ⟨_, [(.t 18, mg (!(!t13)) (bV (ltI 0 t7)))]⟩ (v_cF rfl rfl rfl (ble _ _ rfl) rfl fun e14 => (v_move (.inl rfl) ⟨_, rfl, be e14⟩ rfl (ble _ _ rfl) (gv (nF e14)))) ?_
      refine rg_cons ⟨_, [(.t 19, mg ((!(!t13)) && (ltI 0 t7)) (.d (.sl 5 (t0.map eVersion))))]⟩ (v_mT rfl rfl rfl (ble _ _ rfl) rfl fun e15 e16 => (v_move (.inl rfl) ⟨_, rfl, bm e15 e16⟩ rfl (ble _ _ rfl) rfl)) ?_
      refine rg_cons ⟨_, [(.t 20, mg ((!(!t13)) && (ltI 0 t7)) (iV t7))]⟩ (v_mT rfl rfl rfl (ble _ _ rfl) rfl fun e17 e18 => (v_move (.inl rfl) ⟨_, rfl, bm e17 e18⟩ rfl (ble _ _ rfl) rfl)) ?_
      refine rg_cons ⟨_, [(.t 21, mg ((!(!t13)) && (ltI 0 t7)) (iV (IntKind.wrap .i64 (t7 - 1))))]⟩ (v_mT rfl rfl rfl (ble _ _ rfl) rfl fun e19 e20 => (v_bin rfl ⟨_, rfl, bm e19 e20⟩ rfl (ble _ _ rfl) (gv (aT e19 e20)) rfl (b_sub rfl))) ?_
      obtain ⟨e23, h⟩ := gpos h
      refine rg_cons ⟨_, [(.t 22, mg ((!(!t13)) && (ltI 0 t7)) (.d (.dp (eVersion (rd t0 (IntKind.wrap .i64 (t7 - 1)))))))]⟩ (v_mT rfl rfl rfl (ble _ _ rfl) rfl fun e21 e22 => (w_idx t0 eVersion rfl ⟨_, rfl, bm e21 e22⟩ rfl (ble _ _ rfl) slT98 (gv (aT e21 e22)) (gv (aT e21 e22)) (orT e23 (aT e21 e22)))) ?_
      refine rg_cons ⟨_, [(.t 23, mg ((!(!t13)) && (ltI 0 t7)) (.d (.dp (eVersion (rd t0 (IntKind.wrap .i64 (t7 - 1)))))))]⟩ (v_mT rfl rfl rfl (ble _ _ rfl) rfl fun e24 e25 => (v_field_dp (a0 := 0) (cs := (eVersion (rd t0 (IntKind.wrap .i64 (t7 - 1))))) rfl ⟨_, rfl, bm e24 e25⟩ rfl (ble _ _ rfl) fo84_0 (gv (aT e24 e25)))) ?_
      refine rg_cons ⟨_, [(.t 24, mg ((!(!t13)) && (ltI 0 t7)) (.d (.agg (eStamp (rd t0 (IntKind.wrap .i64 (t7 - 1))).mAt))))]⟩ (v_mT rfl rfl rfl (ble _ _ rfl) rfl fun e26 e27 => (w_ldp (eVersion (rd t0 (IntKind.wrap .i64 (t7 - 1)))) (eStamp (rd t0 (IntKind.wrap .i64 (t7 - 1))).mAt) rfl ⟨_, rfl, bm e26 e27⟩ rfl (ble _ _ rfl) ag23 (gv (aT e26 e27)) (ble _ _ rfl) rfl)) ?_
      refine rg_cons ⟨_, [(.t 25, mg ((!(!t13)) && (ltI 0 t7)) (.ptr 4 0))]⟩ (v_mT rfl rfl rfl (ble _ _ rfl) rfl fun e28 e29 => (v_field_box (off := 0) (a0 := 0) rfl ⟨_, rfl, bm e28 e29⟩ rfl (ble _ _ rfl) fo84_0 rfl)) ?_
      refine rg_cons ⟨_, [(.t 26, mg ((!(!t13)) && (ltI 0 t7)) (.d (.agg (eStamp (rd t0 t7).mAt))))]⟩ (v_mT rfl rfl rfl (ble _ _ rfl) rfl fun e30 e31 => (w_ldb 4 0 rfl ⟨_, rfl, bm e30 e31⟩ rfl (ble _ _ rfl) ag23 (gv (aT e30 e31)) rfl (ble _ _ rfl) rfl)) ?_
      obtain ⟨t27, c34, h⟩ := bpos h
      refine rg_cons ⟨_, [(.t 27, mg ((!(!t13)) && (ltI 0 t7)) (iV t27))]⟩ (v_mT rfl rfl rfl (ble _ _ rfl) rfl fun e32 e33 => (w_call (ds := [(.agg (eStamp (rd t0 (IntKind.wrap .i64 (t7 - 1))).mAt)), (.agg (eStamp (rd t0 t7).mAt))]) (caps := []) (l := [(.s (.int .i64 t27))]) (s29 k (rd t0 (IntKind.wrap .i64 (t7 - 1))).mAt (rd t0 t7).mAt _ (cpos (aT e32 e33) c34)) rfl rfl rfl en29 ⟨_, rfl, bm e32 e33⟩ rfl (ble _ _ rfl) (.inl ⟨rfl, rfl⟩) (cc (gv (aT e32 e33)) (cc (gv (aT e32 e33)) rfl)) rfl)) ?_
      refine rg_cons ⟨_, [(.t 28, mg ((!(!t13)) && (ltI 0 t7)) (bV (leI 0 t27)))]⟩ (v_mT rfl rfl rfl (ble _ _ rfl) rfl fun e35 e36 => (v_bin rfl ⟨_, rfl, bm e35 e36⟩ rfl (ble _ _ rfl) (gv (aT e35 e36)) rfl (b_geq rfl))) ?_
      refine rg_cons ⟨_, [(.t 29, mg (!(!t13)) (bV ((ltI 0 t7) && (leI 0 t27))))]⟩ (v_cF rfl rfl rfl (ble _ _ rfl) rfl fun e37 => (v_pickB rfl ⟨_, rfl, be e37⟩ rfl (ble _ _ rfl) (gv (nF e37)) (fun e38 => (gv (aT (nF e37) e38))) (fun e39 => rfl) (pA _ _))) ?_
      refine rg_cons ⟨_, [(.t 30, bV ((!t13) || ((ltI 0 t7) && (leI 0 t27))))]⟩ (v_pickB rfl trivial rfl (ble _ _ rfl) rfl (fun e40 => rfl) (fun e41 => (gv (nF e41))) (pO _ _)) ?_
      refine rg_nil ⟨by kernel_rfl, ?_⟩
      refine ht_cond (b := ((!t13) || ((ltI 0 t7) && (leI 0 t27)))) rfl (fun e42 => ?_) (fun e42 => ?_)
      · replace h := cpos e42 h
        refine ht_seq ?_
        refine ht_region ?_
        refine sq_cons ⟨_, [(.t 2, bV false)]⟩ (v_move (.inr rfl) trivial rfl (ble _ _ rfl) rfl) ?_
        refine sq_nil ?_
        refine ht_ret ?_
        cases h
        cases r5 _ rfl
        exact ret1 rfl (.tmp rfl)
      · replace h := cneg e42 h
        refine ht_skip ?_
        refine ht_region ?_
        refine sq_cons ⟨_, [(.t 31, iV (IntKind.wrap .i64 (t7 + 1)))]⟩ (v_bin rfl trivial rfl (ble _ _ rfl) rfl rfl (b_add rfl)) ?_
        refine sq_cons ⟨_, [(.t 7, iV (IntKind.wrap .i64 (t7 + 1)))]⟩ (v_move (.inl rfl) trivial rfl (ble _ _ rfl) rfl) ?_
        refine sq_nil ?_
        exact j7 _ _ h (wk_ren _ (fun i => i) rfl ⟨rfl, rfl, rfl, rfl, trivial⟩)
    · replace h := cneg e9 h
      refine ht_exit ?_
      refine tq ?_
      refine tq ?_
      refine bq_hit ?_
      cases h
      exact j4 _ _ rfl (wk_ren _ (fun i => i) rfl ⟨rfl, trivial⟩)
end Go.Proofs.Ed
