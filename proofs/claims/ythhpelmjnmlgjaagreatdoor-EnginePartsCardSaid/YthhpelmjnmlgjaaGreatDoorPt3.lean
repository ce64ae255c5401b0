/- Lemmas behind GdPtP, part 3: they hold as they stand, without a condition beyond their own. -/
import Derived.Test.YthhpelmjnmlgjaaGreatDoorPt2
import Derived.Test.YthhpelmjnmlgjaaGreatDoorProg
import Derived.KernelRfl
import Derived.Calls
import Derived.Shelf.Lay
set_option linter.unusedVariables false
set_option maxRecDepth 100000
set_option maxHeartbeats 4000000
namespace Go.Proofs.Gd
open Go Go.Awp Go.Proofs
theorem ag24 : AggT Tryz.prog 24 3 := .mk2 (by kernel_rfl) (by kernel_rfl)
theorem ag26 : AggT Tryz.prog 26 5 := .mk2 (by kernel_rfl) (by kernel_rfl)
theorem ag28 : AggT Tryz.prog 28 12 := .mk2 (by kernel_rfl) (by kernel_rfl)
theorem ag34 : AggT Tryz.prog 34 9 := .mk2 (by kernel_rfl) (by kernel_rfl)
theorem ag41 : AggT Tryz.prog 41 2 := .mk2 (by kernel_rfl) (by kernel_rfl)
theorem ag45 : AggT Tryz.prog 45 17 := .mk2 (by kernel_rfl) (by kernel_rfl)
theorem ag93 : AggT Tryz.prog 93 5 := .mk2 (by kernel_rfl) (by kernel_rfl)
theorem ag100 : AggT Tryz.prog 100 11 := .mk2 (by kernel_rfl) (by kernel_rfl)
theorem ag110 : AggT Tryz.prog 110 2 := .mk2 (by kernel_rfl) (by kernel_rfl)
theorem ag116 : AggT Tryz.prog 116 2 := .mk2 (by kernel_rfl) (by kernel_rfl)
def zc24 : List V := [.d (.s (.int .i64 0)), .d (.s (.int .i64 0)), .d (.s (.int .i64 0))]
def zc26 : List V := [.d (.sl 17 (([] : List Shard).map eShard)), .d (.s (.int .i64 0)), .d (.s (.int .i64 0)), .d (.s (.int .i64 0)), .d (.s (.int .i64 0))]
def zc28 : List V := [.d (.s (.int .i64 0)), .d (.s (.int .i64 0)), .d (.s (.int .i64 0)), .d (.s (.string (⟨#[]⟩ : ByteArray))), .d (.s (.string (⟨#[]⟩ : ByteArray))), .d (.s (.bool false)), .d (.s (.string (⟨#[]⟩ : ByteArray))), .d (.s (.int .i64 0)), .d (.s (.int .i64 0)), .d (.s (.int .i64 0)), .d (.s (.string (⟨#[]⟩ : ByteArray))), .d (.s (.int .i64 0))]
def zc34 : List V := [.d (.s (.int .i64 0)), .d (.s (.int .i64 0)), .d (.s (.int .i64 0)), .d (.s (.int .i64 0)), .d (.s (.bool false)), .d (.s (.string (⟨#[]⟩ : ByteArray))), .d (.sl 2 (([] : List Item).map eItem)), .d (.s (.string (⟨#[]⟩ : ByteArray))), .d (.s (.bool false))]
def zc41 : List V := [.d (.s (.string (⟨#[]⟩ : ByteArray))), .d (.s (.string (⟨#[]⟩ : ByteArray)))]
def zc45 : List V := [.d (.s (.int .i64 0)), .d (.s (.int .i64 0)), .d (.s (.string (⟨#[]⟩ : ByteArray))), .d (.s (.string (⟨#[]⟩ : ByteArray))), .d (.s (.int .i64 0)), .d (.sl 2 (([] : List Entry).map eEntry)), .d (.s (.int .i64 0)), .d (.s (.int .i64 0)), .d (.s (.int .i64 0)), .d (.s (.int .i64 0)), .d (.s (.int .i64 0)), .d (.s (.int .i64 0)), .d (.sl 11 (([] : List Done).map eDone)), .d (.s (.int .i64 0)), .d (.s (.int .i64 0)), .d (.s (.int .i64 0)), .d (.s (.int .i64 0))]
def zc93 : List V := [.d (.s (.int .i64 0)), .d (.s (.int .i64 0)), .d (.s (.int .i64 0)), .d (.s (.bool false)), .d (.s (.string (⟨#[]⟩ : ByteArray)))]
def zc100 : List V := [.d (.s (.int .i64 0)), .d (.s (.int .i64 0)), .d (.s (.int .i64 0)), .d (.s (.int .i64 0)), .d (.s (.int .i64 0)), .d (.s (.int .i64 0)), .d (.s (.bool false)), .d (.s (.string (⟨#[]⟩ : ByteArray))), .d (.sl 2 (([] : List Item).map eItem)), .d (.s (.string (⟨#[]⟩ : ByteArray))), .d (.s (.bool false))]
def zc110 : List V := [.d (.s (.string (⟨#[]⟩ : ByteArray))), .d (.s (.string (⟨#[]⟩ : ByteArray)))]
def zc116 : List V := [.d (.s (.string (⟨#[]⟩ : ByteArray))), .d (.sl 5 (([] : List Version).map eVersion))]
def zv24 : Value := (.agg #[.int .i64 0, .int .i64 0, .int .i64 0])
def zv26 : Value := (.agg #[.slice none 0 0, .int .i64 0, .int .i64 0, .int .i64 0, .int .i64 0])
def zv28 : Value := (.agg #[.int .i64 0, .int .i64 0, .int .i64 0, .string ⟨#[]⟩, .string ⟨#[]⟩, .bool false, .string ⟨#[]⟩, .int .i64 0, .int .i64 0, .int .i64 0, .string ⟨#[]⟩, .int .i64 0])
def zv34 : Value := (.agg #[.int .i64 0, .int .i64 0, .int .i64 0, .int .i64 0, .bool false, .string ⟨#[]⟩, .slice none 0 0, .string ⟨#[]⟩, .bool false])
def zv41 : Value := (.agg #[.string ⟨#[]⟩, .string ⟨#[]⟩])
def zv45 : Value := (.agg #[.int .i64 0, .int .i64 0, .string ⟨#[]⟩, .string ⟨#[]⟩, .int .i64 0, .slice none 0 0, .int .i64 0, .int .i64 0, .int .i64 0, .int .i64 0, .int .i64 0, .int .i64 0, .slice none 0 0, .int .i64 0, .int .i64 0, .int .i64 0, .int .i64 0])
def zv93 : Value := (.agg #[.int .i64 0, .int .i64 0, .int .i64 0, .bool false, .string ⟨#[]⟩])
def zv100 : Value := (.agg #[.int .i64 0, .int .i64 0, .int .i64 0, .int .i64 0, .int .i64 0, .int .i64 0, .bool false, .string ⟨#[]⟩, .slice none 0 0, .string ⟨#[]⟩, .bool false])
def zv110 : Value := (.agg #[.string ⟨#[]⟩, .string ⟨#[]⟩])
def zv116 : Value := (.agg #[.string ⟨#[]⟩, .slice none 0 0])
theorem eg24 : Tryz.prog.eqGuardType Tryz.prog.depth 24 = false := by kernel_rfl
theorem eg41 : Tryz.prog.eqGuardType Tryz.prog.depth 41 = false := by kernel_rfl
theorem eg93 : Tryz.prog.eqGuardType Tryz.prog.depth 93 = false := by kernel_rfl
theorem eg110 : Tryz.prog.eqGuardType Tryz.prog.depth 110 = false := by kernel_rfl
theorem elT3 : ElemT Tryz.prog 3 1 8 := .mk' (z := (.int .i64 0)) (by kernel_rfl) rfl (ble _ _ rfl)
theorem elT45 : ElemT Tryz.prog 45 17 184 := .mk' (z := (.agg #[.int .i64 0, .int .i64 0, .string ⟨#[]⟩, .string ⟨#[]⟩, .int .i64 0, .slice none 0 0, .int .i64 0, .int .i64 0, .int .i64 0, .int .i64 0, .int .i64 0, .int .i64 0, .slice none 0 0, .int .i64 0, .int .i64 0, .int .i64 0, .int .i64 0])) (by kernel_rfl) rfl (ble _ _ rfl)
theorem elT93 : ElemT Tryz.prog 93 5 48 := .mk' (z := (.agg #[.int .i64 0, .int .i64 0, .int .i64 0, .bool false, .string ⟨#[]⟩])) (by kernel_rfl) rfl (ble _ _ rfl)
theorem elT100 : ElemT Tryz.prog 100 11 120 := .mk' (z := (.agg #[.int .i64 0, .int .i64 0, .int .i64 0, .int .i64 0, .int .i64 0, .int .i64 0, .bool false, .string ⟨#[]⟩, .slice none 0 0, .string ⟨#[]⟩, .bool false])) (by kernel_rfl) rfl (ble _ _ rfl)
theorem elT110 : ElemT Tryz.prog 110 2 32 := .mk' (z := (.agg #[.string ⟨#[]⟩, .string ⟨#[]⟩])) (by kernel_rfl) rfl (ble _ _ rfl)
theorem elT116 : ElemT Tryz.prog 116 2 40 := .mk' (z := (.agg #[.string ⟨#[]⟩, .slice none 0 0])) (by kernel_rfl) rfl (ble _ _ rfl)
theorem en14 : EnT Tryz.prog 14 := enters_of Tryz.func14 (by kernel_rfl) rfl
theorem en15 : EnT Tryz.prog 15 := enters_of Tryz.func15 (by kernel_rfl) rfl
theorem en16 : EnT Tryz.prog 16 := enters_of Tryz.func16 (by kernel_rfl) rfl
theorem en18 : EnT Tryz.prog 18 := enters_of Tryz.func18 (by kernel_rfl) rfl
theorem en19 : EnT Tryz.prog 19 := enters_of Tryz.func19 (by kernel_rfl) rfl
theorem en20 : EnT Tryz.prog 20 := enters_of Tryz.func20 (by kernel_rfl) rfl
theorem en21 : EnT Tryz.prog 21 := enters_of Tryz.func21 (by kernel_rfl) rfl
theorem en22 : EnT Tryz.prog 22 := enters_of Tryz.func22 (by kernel_rfl) rfl
theorem en24 : EnT Tryz.prog 24 := enters_of Tryz.func24 (by kernel_rfl) rfl
theorem en25 : EnT Tryz.prog 25 := enters_of Tryz.func25 (by kernel_rfl) rfl
theorem en26 : EnT Tryz.prog 26 := enters_of Tryz.func26 (by kernel_rfl) rfl
theorem en27 : EnT Tryz.prog 27 := enters_of Tryz.func27 (by kernel_rfl) rfl
theorem en36 : EnT Tryz.prog 36 := enters_of Tryz.func36 (by kernel_rfl) rfl
theorem en37 : EnT Tryz.prog 37 := enters_of Tryz.func37 (by kernel_rfl) rfl
theorem en40 : EnT Tryz.prog 40 := enters_of Tryz.func40 (by kernel_rfl) rfl
theorem en41 : EnT Tryz.prog 41 := enters_of Tryz.func41 (by kernel_rfl) rfl
theorem en42 : EnT Tryz.prog 42 := enters_of Tryz.func42 (by kernel_rfl) rfl
theorem en48 : EnT Tryz.prog 48 := enters_of Tryz.func48 (by kernel_rfl) rfl
theorem en49 : EnT Tryz.prog 49 := enters_of Tryz.func49 (by kernel_rfl) rfl
theorem en50 : EnT Tryz.prog 50 := enters_of Tryz.func50 (by kernel_rfl) rfl
theorem en51 : EnT Tryz.prog 51 := enters_of Tryz.func51 (by kernel_rfl) rfl
theorem en55 : EnT Tryz.prog 55 := enters_of Tryz.func55 (by kernel_rfl) rfl
theorem en56 : EnT Tryz.prog 56 := enters_of Tryz.func56 (by kernel_rfl) rfl
theorem en57 : EnT Tryz.prog 57 := enters_of Tryz.func57 (by kernel_rfl) rfl
theorem en58 : EnT Tryz.prog 58 := enters_of Tryz.func58 (by kernel_rfl) rfl
theorem en59 : EnT Tryz.prog 59 := enters_of Tryz.func59 (by kernel_rfl) rfl
theorem en60 : EnT Tryz.prog 60 := enters_of Tryz.func60 (by kernel_rfl) rfl
theorem en61 : EnT Tryz.prog 61 := enters_of Tryz.func61 (by kernel_rfl) rfl
theorem en62 : EnT Tryz.prog 62 := enters_of Tryz.func62 (by kernel_rfl) rfl
theorem en63 : EnT Tryz.prog 63 := enters_of Tryz.func63 (by kernel_rfl) rfl
theorem en64 : EnT Tryz.prog 64 := enters_of Tryz.func64 (by kernel_rfl) rfl
theorem en65 : EnT Tryz.prog 65 := enters_of Tryz.func65 (by kernel_rfl) rfl
theorem en66 : EnT Tryz.prog 66 := enters_of Tryz.func66 (by kernel_rfl) rfl
theorem en67 : EnT Tryz.prog 67 := enters_of Tryz.func67 (by kernel_rfl) rfl
theorem en68 : EnT Tryz.prog 68 := enters_of Tryz.func68 (by kernel_rfl) rfl
theorem en71 : EnT Tryz.prog 71 := enters_of Tryz.func71 (by kernel_rfl) rfl
theorem en74 : EnT Tryz.prog 74 := enters_of Tryz.func74 (by kernel_rfl) rfl
theorem en76 : EnT Tryz.prog 76 := enters_of Tryz.func76 (by kernel_rfl) rfl
theorem en79 : EnT Tryz.prog 79 := enters_of Tryz.func79 (by kernel_rfl) rfl
theorem en80 : EnT Tryz.prog 80 := enters_of Tryz.func80 (by kernel_rfl) rfl
theorem en81 : EnT Tryz.prog 81 := enters_of Tryz.func81 (by kernel_rfl) rfl
theorem en82 : EnT Tryz.prog 82 := enters_of Tryz.func82 (by kernel_rfl) rfl
theorem en83 : EnT Tryz.prog 83 := enters_of Tryz.func83 (by kernel_rfl) rfl
theorem en84 : EnT Tryz.prog 84 := enters_of Tryz.func84 (by kernel_rfl) rfl
theorem en85 : EnT Tryz.prog 85 := enters_of Tryz.func85 (by kernel_rfl) rfl
theorem en86 : EnT Tryz.prog 86 := enters_of Tryz.func86 (by kernel_rfl) rfl
theorem en87 : EnT Tryz.prog 87 := enters_of Tryz.func87 (by kernel_rfl) rfl
theorem en88 : EnT Tryz.prog 88 := enters_of Tryz.func88 (by kernel_rfl) rfl
theorem en89 : EnT Tryz.prog 89 := enters_of Tryz.func89 (by kernel_rfl) rfl
theorem en90 : EnT Tryz.prog 90 := enters_of Tryz.func90 (by kernel_rfl) rfl
theorem en91 : EnT Tryz.prog 91 := enters_of Tryz.func91 (by kernel_rfl) rfl
theorem en92 : EnT Tryz.prog 92 := enters_of Tryz.func92 (by kernel_rfl) rfl
theorem en95 : EnT Tryz.prog 95 := enters_of Tryz.func95 (by kernel_rfl) rfl
theorem en97 : EnT Tryz.prog 97 := enters_of Tryz.func97 (by kernel_rfl) rfl
theorem en98 : EnT Tryz.prog 98 := enters_of Tryz.func98 (by kernel_rfl) rfl
theorem en99 : EnT Tryz.prog 99 := enters_of Tryz.func99 (by kernel_rfl) rfl
theorem en100 : EnT Tryz.prog 100 := enters_of Tryz.func100 (by kernel_rfl) rfl
theorem en101 : EnT Tryz.prog 101 := enters_of Tryz.func101 (by kernel_rfl) rfl
theorem en102 : EnT Tryz.prog 102 := enters_of Tryz.func102 (by kernel_rfl) rfl
theorem en103 : EnT Tryz.prog 103 := enters_of Tryz.func103 (by kernel_rfl) rfl
theorem en104 : EnT Tryz.prog 104 := enters_of Tryz.func104 (by kernel_rfl) rfl
theorem en105 : EnT Tryz.prog 105 := enters_of Tryz.func105 (by kernel_rfl) rfl
theorem en106 : EnT Tryz.prog 106 := enters_of Tryz.func106 (by kernel_rfl) rfl
theorem en107 : EnT Tryz.prog 107 := enters_of Tryz.func107 (by kernel_rfl) rfl
theorem en108 : EnT Tryz.prog 108 := enters_of Tryz.func108 (by kernel_rfl) rfl
theorem en109 : EnT Tryz.prog 109 := enters_of Tryz.func109 (by kernel_rfl) rfl
theorem en110 : EnT Tryz.prog 110 := enters_of Tryz.func110 (by kernel_rfl) rfl
theorem en111 : EnT Tryz.prog 111 := enters_of Tryz.func111 (by kernel_rfl) rfl
theorem en112 : EnT Tryz.prog 112 := enters_of Tryz.func112 (by kernel_rfl) rfl
theorem en113 : EnT Tryz.prog 113 := enters_of Tryz.func113 (by kernel_rfl) rfl
theorem en114 : EnT Tryz.prog 114 := enters_of Tryz.func114 (by kernel_rfl) rfl
theorem en115 : EnT Tryz.prog 115 := enters_of Tryz.func115 (by kernel_rfl) rfl
theorem en116 : EnT Tryz.prog 116 := enters_of Tryz.func116 (by kernel_rfl) rfl
theorem en117 : EnT Tryz.prog 117 := enters_of Tryz.func117 (by kernel_rfl) rfl
theorem en118 : EnT Tryz.prog 118 := enters_of Tryz.func118 (by kernel_rfl) rfl
theorem en119 : EnT Tryz.prog 119 := enters_of Tryz.func119 (by kernel_rfl) rfl
theorem en120 : EnT Tryz.prog 120 := enters_of Tryz.func120 (by kernel_rfl) rfl
theorem en121 : EnT Tryz.prog 121 := enters_of Tryz.func121 (by kernel_rfl) rfl
theorem en122 : EnT Tryz.prog 122 := enters_of Tryz.func122 (by kernel_rfl) rfl
theorem en123 : EnT Tryz.prog 123 := enters_of Tryz.func123 (by kernel_rfl) rfl
theorem en124 : EnT Tryz.prog 124 := enters_of Tryz.func124 (by kernel_rfl) rfl
theorem en125 : EnT Tryz.prog 125 := enters_of Tryz.func125 (by kernel_rfl) rfl
theorem en126 : EnT Tryz.prog 126 := enters_of Tryz.func126 (by kernel_rfl) rfl
theorem en127 : EnT Tryz.prog 127 := enters_of Tryz.func127 (by kernel_rfl) rfl
theorem en128 : EnT Tryz.prog 128 := enters_of Tryz.func128 (by kernel_rfl) rfl
theorem en129 : EnT Tryz.prog 129 := enters_of Tryz.func129 (by kernel_rfl) rfl
theorem en130 : EnT Tryz.prog 130 := enters_of Tryz.func130 (by kernel_rfl) rfl
theorem en131 : EnT Tryz.prog 131 := enters_of Tryz.func131 (by kernel_rfl) rfl
theorem en134 : EnT Tryz.prog 134 := enters_of Tryz.func134 (by kernel_rfl) rfl
theorem en135 : EnT Tryz.prog 135 := enters_of Tryz.func135 (by kernel_rfl) rfl
theorem en136 : EnT Tryz.prog 136 := enters_of Tryz.func136 (by kernel_rfl) rfl
theorem en137 : EnT Tryz.prog 137 := enters_of Tryz.func137 (by kernel_rfl) rfl
theorem en138 : EnT Tryz.prog 138 := enters_of Tryz.func138 (by kernel_rfl) rfl
theorem en139 : EnT Tryz.prog 139 := enters_of Tryz.func139 (by kernel_rfl) rfl
theorem en140 : EnT Tryz.prog 140 := enters_of Tryz.func140 (by kernel_rfl) rfl
theorem en141 : EnT Tryz.prog 141 := enters_of Tryz.func141 (by kernel_rfl) rfl
theorem en142 : EnT Tryz.prog 142 := enters_of Tryz.func142 (by kernel_rfl) rfl
theorem en143 : EnT Tryz.prog 143 := enters_of Tryz.func143 (by kernel_rfl) rfl
theorem en144 : EnT Tryz.prog 144 := enters_of Tryz.func144 (by kernel_rfl) rfl
theorem en145 : EnT Tryz.prog 145 := enters_of Tryz.func145 (by kernel_rfl) rfl
theorem en146 : EnT Tryz.prog 146 := enters_of Tryz.func146 (by kernel_rfl) rfl
theorem en147 : EnT Tryz.prog 147 := enters_of Tryz.func147 (by kernel_rfl) rfl
theorem en148 : EnT Tryz.prog 148 := enters_of Tryz.func148 (by kernel_rfl) rfl
theorem en149 : EnT Tryz.prog 149 := enters_of Tryz.func149 (by kernel_rfl) rfl
theorem en150 : EnT Tryz.prog 150 := enters_of Tryz.func150 (by kernel_rfl) rfl
theorem en151 : EnT Tryz.prog 151 := enters_of Tryz.func151 (by kernel_rfl) rfl
theorem en152 : EnT Tryz.prog 152 := enters_of Tryz.func152 (by kernel_rfl) rfl
theorem en153 : EnT Tryz.prog 153 := enters_of Tryz.func153 (by kernel_rfl) rfl
theorem en154 : EnT Tryz.prog 154 := enters_of Tryz.func154 (by kernel_rfl) rfl
theorem en155 : EnT Tryz.prog 155 := enters_of Tryz.func155 (by kernel_rfl) rfl
theorem en156 : EnT Tryz.prog 156 := enters_of Tryz.func156 (by kernel_rfl) rfl
theorem en157 : EnT Tryz.prog 157 := enters_of Tryz.func157 (by kernel_rfl) rfl
theorem en158 : EnT Tryz.prog 158 := enters_of Tryz.func158 (by kernel_rfl) rfl
theorem en159 : EnT Tryz.prog 159 := enters_of Tryz.func159 (by kernel_rfl) rfl
theorem en160 : EnT Tryz.prog 160 := enters_of Tryz.func160 (by kernel_rfl) rfl
theorem en161 : EnT Tryz.prog 161 := enters_of Tryz.func161 (by kernel_rfl) rfl
theorem en162 : EnT Tryz.prog 162 := enters_of Tryz.func162 (by kernel_rfl) rfl
theorem en163 : EnT Tryz.prog 163 := enters_of Tryz.func163 (by kernel_rfl) rfl
theorem en164 : EnT Tryz.prog 164 := enters_of Tryz.func164 (by kernel_rfl) rfl
theorem en166 : EnT Tryz.prog 166 := enters_of Tryz.func166 (by kernel_rfl) rfl
theorem en169 : EnT Tryz.prog 169 := enters_of Tryz.func169 (by kernel_rfl) rfl
theorem en170 : EnT Tryz.prog 170 := enters_of Tryz.func170 (by kernel_rfl) rfl
theorem en171 : EnT Tryz.prog 171 := enters_of Tryz.func171 (by kernel_rfl) rfl
theorem en172 : EnT Tryz.prog 172 := enters_of Tryz.func172 (by kernel_rfl) rfl
theorem en173 : EnT Tryz.prog 173 := enters_of Tryz.func173 (by kernel_rfl) rfl
theorem en174 : EnT Tryz.prog 174 := enters_of Tryz.func174 (by kernel_rfl) rfl
theorem en175 : EnT Tryz.prog 175 := enters_of Tryz.func175 (by kernel_rfl) rfl
theorem en176 : EnT Tryz.prog 176 := enters_of Tryz.func176 (by kernel_rfl) rfl
theorem en182 : EnT Tryz.prog 182 := enters_of Tryz.func182 (by kernel_rfl) rfl
theorem en183 : EnT Tryz.prog 183 := enters_of Tryz.func183 (by kernel_rfl) rfl
theorem eq24 (a b : Stamp) : eqP Tryz.prog 9 24 (.agg (vStamp a).toArray) (.agg (vStamp b).toArray) = some (qStamp a b) := by kernel_rfl
theorem eq41 (a b : Span) : eqP Tryz.prog 9 41 (.agg (vSpan a).toArray) (.agg (vSpan b).toArray) = some (qSpan a b) := by kernel_rfl
theorem eq93 (a b : Version) : eqP Tryz.prog 9 93 (.agg (vVersion a).toArray) (.agg (vVersion b).toArray) = some (qVersion a b) := by kernel_rfl
theorem eq110 (a b : Item) : eqP Tryz.prog 9 110 (.agg (vItem a).toArray) (.agg (vItem b).toArray) = some (qItem a b) := by kernel_rfl
theorem fo24_0 : FoT Tryz.prog 24 0 0 := field_of (by kernel_rfl)
theorem fo24_1 : FoT Tryz.prog 24 1 1 := field_of (by kernel_rfl)
theorem fo24_2 : FoT Tryz.prog 24 2 2 := field_of (by kernel_rfl)
theorem fo26_0 : FoT Tryz.prog 26 0 0 := field_of (by kernel_rfl)
theorem fo26_1 : FoT Tryz.prog 26 1 1 := field_of (by kernel_rfl)
theorem fo26_2 : FoT Tryz.prog 26 2 4 := field_of (by kernel_rfl)
theorem fo28_0 : FoT Tryz.prog 28 0 0 := field_of (by kernel_rfl)
theorem fo28_1 : FoT Tryz.prog 28 1 1 := field_of (by kernel_rfl)
theorem fo28_2 : FoT Tryz.prog 28 2 2 := field_of (by kernel_rfl)
theorem fo28_3 : FoT Tryz.prog 28 3 3 := field_of (by kernel_rfl)
theorem fo28_4 : FoT Tryz.prog 28 4 4 := field_of (by kernel_rfl)
theorem fo28_5 : FoT Tryz.prog 28 5 5 := field_of (by kernel_rfl)
theorem fo28_6 : FoT Tryz.prog 28 6 6 := field_of (by kernel_rfl)
theorem fo28_7 : FoT Tryz.prog 28 7 7 := field_of (by kernel_rfl)
theorem fo28_8 : FoT Tryz.prog 28 8 10 := field_of (by kernel_rfl)
theorem fo28_9 : FoT Tryz.prog 28 9 11 := field_of (by kernel_rfl)
theorem fo34_0 : FoT Tryz.prog 34 0 0 := field_of (by kernel_rfl)
theorem fo34_1 : FoT Tryz.prog 34 1 1 := field_of (by kernel_rfl)
theorem fo34_2 : FoT Tryz.prog 34 2 4 := field_of (by kernel_rfl)
theorem fo34_3 : FoT Tryz.prog 34 3 5 := field_of (by kernel_rfl)
theorem fo34_4 : FoT Tryz.prog 34 4 6 := field_of (by kernel_rfl)
theorem fo34_5 : FoT Tryz.prog 34 5 7 := field_of (by kernel_rfl)
theorem fo34_6 : FoT Tryz.prog 34 6 8 := field_of (by kernel_rfl)
theorem fo41_0 : FoT Tryz.prog 41 0 0 := field_of (by kernel_rfl)
theorem fo41_1 : FoT Tryz.prog 41 1 1 := field_of (by kernel_rfl)
theorem fo45_0 : FoT Tryz.prog 45 0 0 := field_of (by kernel_rfl)
theorem fo45_1 : FoT Tryz.prog 45 1 1 := field_of (by kernel_rfl)
theorem fo45_2 : FoT Tryz.prog 45 2 2 := field_of (by kernel_rfl)
theorem fo45_3 : FoT Tryz.prog 45 3 4 := field_of (by kernel_rfl)
theorem fo45_4 : FoT Tryz.prog 45 4 5 := field_of (by kernel_rfl)
theorem fo45_5 : FoT Tryz.prog 45 5 6 := field_of (by kernel_rfl)
theorem fo45_6 : FoT Tryz.prog 45 6 9 := field_of (by kernel_rfl)
theorem fo45_7 : FoT Tryz.prog 45 7 12 := field_of (by kernel_rfl)
theorem fo45_8 : FoT Tryz.prog 45 8 13 := field_of (by kernel_rfl)
theorem fo45_9 : FoT Tryz.prog 45 9 14 := field_of (by kernel_rfl)
theorem fo45_10 : FoT Tryz.prog 45 10 15 := field_of (by kernel_rfl)
theorem fo45_11 : FoT Tryz.prog 45 11 16 := field_of (by kernel_rfl)
theorem fo93_0 : FoT Tryz.prog 93 0 0 := field_of (by kernel_rfl)
theorem fo93_1 : FoT Tryz.prog 93 1 3 := field_of (by kernel_rfl)
theorem fo93_2 : FoT Tryz.prog 93 2 4 := field_of (by kernel_rfl)
theorem fo100_0 : FoT Tryz.prog 100 0 0 := field_of (by kernel_rfl)
theorem fo100_1 : FoT Tryz.prog 100 1 1 := field_of (by kernel_rfl)
theorem fo100_2 : FoT Tryz.prog 100 2 2 := field_of (by kernel_rfl)
theorem fo116_0 : FoT Tryz.prog 116 0 0 := field_of (by kernel_rfl)
theorem fo116_1 : FoT Tryz.prog 116 1 1 := field_of (by kernel_rfl)
theorem ft24 : ∀ (i : Nat) (v : Value) (c : V), zv24.cells[i]? = some v → zc24[i]? = some c → c = .d (.s v) ∨ zeroFits v c = true := fit_of rfl
theorem ft26 : ∀ (i : Nat) (v : Value) (c : V), zv26.cells[i]? = some v → zc26[i]? = some c → c = .d (.s v) ∨ zeroFits v c = true := fit_of rfl
theorem ft28 : ∀ (i : Nat) (v : Value) (c : V), zv28.cells[i]? = some v → zc28[i]? = some c → c = .d (.s v) ∨ zeroFits v c = true := fit_of rfl
theorem ft34 : ∀ (i : Nat) (v : Value) (c : V), zv34.cells[i]? = some v → zc34[i]? = some c → c = .d (.s v) ∨ zeroFits v c = true := fit_of rfl
theorem ft41 : ∀ (i : Nat) (v : Value) (c : V), zv41.cells[i]? = some v → zc41[i]? = some c → c = .d (.s v) ∨ zeroFits v c = true := fit_of rfl
theorem ft45 : ∀ (i : Nat) (v : Value) (c : V), zv45.cells[i]? = some v → zc45[i]? = some c → c = .d (.s v) ∨ zeroFits v c = true := fit_of rfl
theorem ft93 : ∀ (i : Nat) (v : Value) (c : V), zv93.cells[i]? = some v → zc93[i]? = some c → c = .d (.s v) ∨ zeroFits v c = true := fit_of rfl
theorem ft100 : ∀ (i : Nat) (v : Value) (c : V), zv100.cells[i]? = some v → zc100[i]? = some c → c = .d (.s v) ∨ zeroFits v c = true := fit_of rfl
theorem ft110 : ∀ (i : Nat) (v : Value) (c : V), zv110.cells[i]? = some v → zc110[i]? = some c → c = .d (.s v) ∨ zeroFits v c = true := fit_of rfl
theorem ft116 : ∀ (i : Nat) (v : Value) (c : V), zv116.cells[i]? = some v → zc116[i]? = some c → c = .d (.s v) ∨ zeroFits v c = true := fit_of rfl
theorem mixed : Tryz.prog.follows .mixedOrders = true := by kernel_rfl
theorem onT3 : OneT Tryz.prog 3 := .mk' (by kernel_rfl : Tryz.prog.underlying 3 = some (.int .i64)) rfl (by kernel_rfl)
theorem onT4 : OneT Tryz.prog 4 := .mk' (by kernel_rfl : Tryz.prog.underlying 4 = some (.bool)) rfl (by kernel_rfl)
theorem onT9 : OneT Tryz.prog 9 := .mk' (by kernel_rfl : Tryz.prog.underlying 9 = some (.string)) rfl (by kernel_rfl)
theorem onT22 : OneT Tryz.prog 22 := .mk' (by kernel_rfl : Tryz.prog.underlying 22 = some (.slice 45)) rfl (by kernel_rfl)
theorem onT31 : OneT Tryz.prog 31 := .mk' (by kernel_rfl : Tryz.prog.underlying 31 = some (.int .i64)) rfl (by kernel_rfl)
theorem onT32 : OneT Tryz.prog 32 := .mk' (by kernel_rfl : Tryz.prog.underlying 32 = some (.slice 110)) rfl (by kernel_rfl)
theorem onT42 : OneT Tryz.prog 42 := .mk' (by kernel_rfl : Tryz.prog.underlying 42 = some (.slice 116)) rfl (by kernel_rfl)
theorem onT43 : OneT Tryz.prog 43 := .mk' (by kernel_rfl : Tryz.prog.underlying 43 = some (.slice 100)) rfl (by kernel_rfl)
theorem onT96 : OneT Tryz.prog 96 := .mk' (by kernel_rfl : Tryz.prog.underlying 96 = some (.slice 93)) rfl (by kernel_rfl)
theorem slT22 : SliceT Tryz.prog 22 45 17 := .mk' (by kernel_rfl) (by kernel_rfl)
theorem slT32 : SliceT Tryz.prog 32 110 2 := .mk' (by kernel_rfl) (by kernel_rfl)
theorem slT42 : SliceT Tryz.prog 42 116 2 := .mk' (by kernel_rfl) (by kernel_rfl)
theorem slT43 : SliceT Tryz.prog 43 100 11 := .mk' (by kernel_rfl) (by kernel_rfl)
theorem slT96 : SliceT Tryz.prog 96 93 5 := .mk' (by kernel_rfl) (by kernel_rfl)
theorem slT148 : SliceT Tryz.prog 148 3 1 := .mk' (by kernel_rfl) (by kernel_rfl)
theorem sz3 : ∀ w, (sizeOf 3).run Tryz.prog w = .ok 1 w := run_size (by kernel_rfl)
theorem sz4 : ∀ w, (sizeOf 4).run Tryz.prog w = .ok 1 w := run_size (by kernel_rfl)
theorem sz9 : ∀ w, (sizeOf 9).run Tryz.prog w = .ok 1 w := run_size (by kernel_rfl)
theorem sz22 : ∀ w, (sizeOf 22).run Tryz.prog w = .ok 1 w := run_size (by kernel_rfl)
theorem sz24 : ∀ w, (sizeOf 24).run Tryz.prog w = .ok 3 w := run_size (by kernel_rfl)
theorem sz26 : ∀ w, (sizeOf 26).run Tryz.prog w = .ok 5 w := run_size (by kernel_rfl)
theorem sz31 : ∀ w, (sizeOf 31).run Tryz.prog w = .ok 1 w := run_size (by kernel_rfl)
theorem sz32 : ∀ w, (sizeOf 32).run Tryz.prog w = .ok 1 w := run_size (by kernel_rfl)
theorem sz34 : ∀ w, (sizeOf 34).run Tryz.prog w = .ok 9 w := run_size (by kernel_rfl)
theorem sz41 : ∀ w, (sizeOf 41).run Tryz.prog w = .ok 2 w := run_size (by kernel_rfl)
theorem sz42 : ∀ w, (sizeOf 42).run Tryz.prog w = .ok 1 w := run_size (by kernel_rfl)
theorem sz43 : ∀ w, (sizeOf 43).run Tryz.prog w = .ok 1 w := run_size (by kernel_rfl)
theorem sz45 : ∀ w, (sizeOf 45).run Tryz.prog w = .ok 17 w := run_size (by kernel_rfl)
theorem sz93 : ∀ w, (sizeOf 93).run Tryz.prog w = .ok 5 w := run_size (by kernel_rfl)
theorem sz96 : ∀ w, (sizeOf 96).run Tryz.prog w = .ok 1 w := run_size (by kernel_rfl)
theorem sz100 : ∀ w, (sizeOf 100).run Tryz.prog w = .ok 11 w := run_size (by kernel_rfl)
theorem sz116 : ∀ w, (sizeOf 116).run Tryz.prog w = .ok 2 w := run_size (by kernel_rfl)
theorem und3 : Tryz.prog.underlying 3 = some (.int .i64) := by kernel_rfl
theorem und4 : Tryz.prog.underlying 4 = some (.bool) := by kernel_rfl
theorem und5 : Tryz.prog.underlying 5 = some (.int .u8) := by kernel_rfl
theorem und9 : Tryz.prog.underlying 9 = some (.string) := by kernel_rfl
theorem und21 : Tryz.prog.underlying 21 = some (.int .i32) := by kernel_rfl
theorem und22 : Tryz.prog.underlying 22 = some (.slice 45) := by kernel_rfl
theorem und32 : Tryz.prog.underlying 32 = some (.slice 110) := by kernel_rfl
theorem und42 : Tryz.prog.underlying 42 = some (.slice 116) := by kernel_rfl
theorem und43 : Tryz.prog.underlying 43 = some (.slice 100) := by kernel_rfl
theorem und78 : Tryz.prog.underlying 78 = some (.int .u64) := by kernel_rfl
theorem und96 : Tryz.prog.underlying 96 = some (.slice 93) := by kernel_rfl
theorem zr3 : ∀ w, (zeroValue 3).run Tryz.prog w = .ok (.int .i64 0) w := zero_of (by kernel_rfl)
theorem zr45 : ∀ w, (zeroValue 45).run Tryz.prog w = .ok (.agg #[.int .i64 0, .int .i64 0, .string ⟨#[]⟩, .string ⟨#[]⟩, .int .i64 0, .slice none 0 0, .int .i64 0, .int .i64 0, .int .i64 0, .int .i64 0, .int .i64 0, .int .i64 0, .slice none 0 0, .int .i64 0, .int .i64 0, .int .i64 0, .int .i64 0]) w := zero_of (by kernel_rfl)
theorem zr93 : ∀ w, (zeroValue 93).run Tryz.prog w = .ok (.agg #[.int .i64 0, .int .i64 0, .int .i64 0, .bool false, .string ⟨#[]⟩]) w := zero_of (by kernel_rfl)
theorem zr100 : ∀ w, (zeroValue 100).run Tryz.prog w = .ok (.agg #[.int .i64 0, .int .i64 0, .int .i64 0, .int .i64 0, .int .i64 0, .int .i64 0, .bool false, .string ⟨#[]⟩, .slice none 0 0, .string ⟨#[]⟩, .bool false]) w := zero_of (by kernel_rfl)
theorem zr110 : ∀ w, (zeroValue 110).run Tryz.prog w = .ok (.agg #[.string ⟨#[]⟩, .string ⟨#[]⟩]) w := zero_of (by kernel_rfl)
theorem zr116 : ∀ w, (zeroValue 116).run Tryz.prog w = .ok (.agg #[.string ⟨#[]⟩, .slice none 0 0]) w := zero_of (by kernel_rfl)
theorem zu24 : ∀ w, (zeroValue 24).run Tryz.prog w = .ok zv24 w := zero_of (by kernel_rfl)
theorem zu26 : ∀ w, (zeroValue 26).run Tryz.prog w = .ok zv26 w := zero_of (by kernel_rfl)
theorem zu28 : ∀ w, (zeroValue 28).run Tryz.prog w = .ok zv28 w := zero_of (by kernel_rfl)
theorem zu34 : ∀ w, (zeroValue 34).run Tryz.prog w = .ok zv34 w := zero_of (by kernel_rfl)
theorem zu41 : ∀ w, (zeroValue 41).run Tryz.prog w = .ok zv41 w := zero_of (by kernel_rfl)
theorem zu45 : ∀ w, (zeroValue 45).run Tryz.prog w = .ok zv45 w := zero_of (by kernel_rfl)
theorem zu93 : ∀ w, (zeroValue 93).run Tryz.prog w = .ok zv93 w := zero_of (by kernel_rfl)
theorem zu100 : ∀ w, (zeroValue 100).run Tryz.prog w = .ok zv100 w := zero_of (by kernel_rfl)
theorem zu110 : ∀ w, (zeroValue 110).run Tryz.prog w = .ok zv110 w := zero_of (by kernel_rfl)
theorem zu116 : ∀ w, (zeroValue 116).run Tryz.prog w = .ok zv116 w := zero_of (by kernel_rfl)
theorem zw24 : BuildT Tryz.prog 24 zv24 #[(0, 1), (1, 1), (2, 1)] := .mk2 (pl := [(0, 1), (1, 1), (2, 1)]) zu24 (by kernel_rfl)
theorem zw26 : BuildT Tryz.prog 26 zv26 #[(0, 1), (1, 3), (4, 1)] := .mk2 (pl := [(0, 1), (1, 3), (4, 1)]) zu26 (by kernel_rfl)
theorem zw28 : BuildT Tryz.prog 28 zv28 #[(0, 1), (1, 1), (2, 1), (3, 1), (4, 1), (5, 1), (6, 1), (7, 3), (10, 1), (11, 1)] := .mk2 (pl := [(0, 1), (1, 1), (2, 1), (3, 1), (4, 1), (5, 1), (6, 1), (7, 3), (10, 1), (11, 1)]) zu28 (by kernel_rfl)
theorem zw34 : BuildT Tryz.prog 34 zv34 #[(0, 1), (1, 3), (4, 1), (5, 1), (6, 1), (7, 1), (8, 1)] := .mk2 (pl := [(0, 1), (1, 3), (4, 1), (5, 1), (6, 1), (7, 1), (8, 1)]) zu34 (by kernel_rfl)
theorem zw41 : BuildT Tryz.prog 41 zv41 #[(0, 1), (1, 1)] := .mk2 (pl := [(0, 1), (1, 1)]) zu41 (by kernel_rfl)
theorem zw45 : BuildT Tryz.prog 45 zv45 #[(0, 1), (1, 1), (2, 2), (4, 1), (5, 1), (6, 3), (9, 3), (12, 1), (13, 1), (14, 1), (15, 1), (16, 1)] := .mk2 (pl := [(0, 1), (1, 1), (2, 2), (4, 1), (5, 1), (6, 3), (9, 3), (12, 1), (13, 1), (14, 1), (15, 1), (16, 1)]) zu45 (by kernel_rfl)
theorem zw93 : BuildT Tryz.prog 93 zv93 #[(0, 3), (3, 1), (4, 1)] := .mk2 (pl := [(0, 3), (3, 1), (4, 1)]) zu93 (by kernel_rfl)
theorem zw100 : BuildT Tryz.prog 100 zv100 #[(0, 1), (1, 1), (2, 9)] := .mk2 (pl := [(0, 1), (1, 1), (2, 9)]) zu100 (by kernel_rfl)
theorem zw110 : BuildT Tryz.prog 110 zv110 #[(0, 1), (1, 1)] := .mk2 (pl := [(0, 1), (1, 1)]) zu110 (by kernel_rfl)
theorem zw116 : BuildT Tryz.prog 116 zv116 #[(0, 1), (1, 1)] := .mk2 (pl := [(0, 1), (1, 1)]) zu116 (by kernel_rfl)
theorem s91 (k : Nat) (t0 : List Entry) (r : Bool) (h : F91 k t0 = some r) : Awp.Spec Tryz.prog amb 91 [(.sl 2 (t0.map eEntry))] (.ds [(.s (.bool r))]) := by
 rw [F91] at h
 refine spec_of Tryz.func91 rfl (ble _ _ rfl) fun w0 ok0 lt0 hA => ?_
 refine sr ?_
 refine sM 2 (bV false) rfl rfl ?_
 refine sq_nil ?_
 refine ht_seq ?_
 refine sr ?_
 refine sM 4 (.d (.sl 2 (t0.map eEntry))) rfl rfl ?_
 refine sT 5 (iV (t0.length : Int)) rfl (w_len t0 eEntry rfl rfl · · · slT42 rfl) ?_
 refine sT 6 (bV (ltI 80 (t0.length : Int))) rfl (vb rfl rfl rfl (b_gtr rfl)) ?_
 refine sq_nil ?_
 refine ht_cond rfl (fun e1 => ?_) (fun e1 => ?_)
 ·replace h := cpos e1 h
  refine sr ?_
  refine sM 2 (bV false) rfl rfl ?_
  refine sz ?_
  cases h
  exact ret1 rfl (.tmp rfl)
 replace h := cneg e1 h
 refine ht_skip ?_
 refine ht_gj (go_id' h) (fun _ => tell []) (fun _ h => ?_) (fun v2 K3 h j5 r6 => ?_)
 ·refine sr ?_
  refine sM 2 (bV true) rfl rfl ?_
  refine sz ?_
  cases h
  exact ret1 rfl (.tmp rfl)
 refine sr ?_
 refine sM 3 (iV 0) rfl rfl ?_
 refine sq_nil ?_
 refine ht_block ?_
 refine ht_rd h (fun _ => rfl) (fun t3 => tell [(.t 0, .d (.sl 2 (t0.map eEntry))), (.t 3, iV t3)]) (wi rfl rfl) fun k t3 h K23 j8 => ?_
 rw [F91_l1] at h
 refine ht_seq ?_
 refine sr ?_
 refine sM 7 (iV t3) rfl rfl ?_
 refine sM 8 (.d (.sl 2 (t0.map eEntry))) rfl rfl ?_
 refine sT 9 (iV (t0.length : Int)) rfl (w_len t0 eEntry rfl rfl · · · slT42 rfl) ?_
 refine sT 10 (bV (ltI t3 (t0.length : Int))) rfl (vb rfl rfl rfl (b_lss rfl)) ?_
 refine sq_nil ?_
 refine ht_cond rfl (fun e10 => ?_) (fun e10 => ?_)
 ·replace h := cpos e10 h
  refine ht_skip ?_
  refine ht_seq ?_
  refine ht_block ?_
  refine sr ?_
  refine sM 13 (.d (.sl 2 (t0.map eEntry))) rfl rfl ?_
  refine sM 14 (iV t3) rfl rfl ?_
  obtain ⟨e11, h⟩ := gpos h
  refine sT 15 (.d (.dp (eEntry (rd t0 t3)))) rfl (w_idx t0 eEntry rfl · · · slT42 rfl rfl e11) ?_
  refine sD 16 (eEntry (rd t0 t3)) fo116_1 rfl rfl rfl ?_
  refine sT 17 (.d (.sl 5 ((rd t0 t3).mChain.map eVersion))) rfl (vl rfl onT96 rfl rfl) ?_
  refine sT 18 (iV ((rd t0 t3).mChain.length : Int)) rfl (w_len (rd t0 t3).mChain eVersion rfl rfl · · · slT96 rfl) ?_
  refine sT 19 (bV (ltI 80 ((rd t0 t3).mChain.length : Int))) rfl (vb rfl rfl rfl (b_gtr rfl)) ?_
  refine sM 20 (bV (ltI 80 ((rd t0 t3).mChain.length : Int))) rfl rfl ?_
  refine sF 21 (.d (.sl 2 (t0.map eEntry))) rfl rfl (fun e12 => (vm rfl rfl)) ?_
  refine sF 22 (iV t3) rfl rfl (fun e13 => (vm rfl rfl)) ?_
  obtain ⟨e15, h⟩ := gpos h
  refine sF 23 (.d (.dp (eEntry (rd t0 t3)))) rfl rfl (fun e14 => (w_idx t0 eEntry rfl · · · slT42 (gv (nF e14)) (gv (nF e14)) (orT e15 (nF e14)))) ?_
  refine sF 24 (.d (.dp (eEntry (rd t0 t3)))) rfl rfl (fun e16 => (vD (eEntry (rd t0 t3)) fo116_0 · · · rfl (gv (nF e16)))) ?_
  refine sF 25 (sV (rd t0 t3).mKey) rfl rfl (fun e17 => (vl rfl onT9 (gv (nF e17)) rfl)) ?_
  refine sF 26 (iV ((rd t0 t3).mKey.size : Int)) rfl rfl (fun e18 => (v_len_str rfl rfl · · · und9 (gv (nF e18)))) ?_
  refine sF 27 (bV (ltI 100 ((rd t0 t3).mKey.size : Int))) rfl rfl (fun e19 => (vb rfl (gv (nF e19)) rfl (b_gtr rfl))) ?_
  refine sT 28 (bV ((ltI 80 ((rd t0 t3).mChain.length : Int)) || (ltI 100 ((rd t0 t3).mKey.size : Int)))) rfl (vp rfl rfl (fun e20 => rfl) (fun e21 => (gv (nF e21))) (pO _ _)) ?_
  refine sq_nil ?_
  refine ht_cond rfl (fun e22 => ?_) (fun e22 => ?_)
  ·replace h := cpos e22 h
   refine sr ?_
   refine sM 2 (bV false) rfl rfl ?_
   refine sz ?_
   cases h
   cases r6 _ rfl
   exact ret1 rfl (.tmp rfl)
  replace h := cneg e22 h
  refine ht_skip ?_
  refine ht_region ?_
  refine sM 11 (iV t3) rfl rfl ?_
  refine sT 12 (iV (IntKind.wrap .i64 (t3 + 1))) rfl (vb rfl rfl rfl (b_add rfl)) ?_
  refine sM 3 (iV (IntKind.wrap .i64 (t3 + 1))) rfl rfl ?_
  refine sq_nil ?_
  exact j8 _ _ h (wi rfl rfl)
 replace h := cneg e10 h
 refine ht_exit ?_
 refine tq ?_
 refine tq ?_
 refine bq_hit ?_
 cases h
 exact j5 _ _ rfl (wi rfl rfl)
theorem s92 (k : Nat) (t0 : List Done) (r : Bool) (h : F92 k t0 = some r) : Awp.Spec Tryz.prog amb 92 [(.sl 11 (t0.map eDone))] (.ds [(.s (.bool r))]) := by
 rw [F92] at h
 refine spec_of Tryz.func92 rfl (ble _ _ rfl) fun w0 ok0 lt0 hA => ?_
 refine sr ?_
 refine sM 2 (bV false) rfl rfl ?_
 refine sq_nil ?_
 refine ht_seq ?_
 refine sr ?_
 refine sM 4 (.d (.sl 11 (t0.map eDone))) rfl rfl ?_
 refine sT 5 (iV (t0.length : Int)) rfl (w_len t0 eDone rfl rfl · · · slT43 rfl) ?_
 refine sT 6 (bV (ltI 40 (t0.length : Int))) rfl (vb rfl rfl rfl (b_gtr rfl)) ?_
 refine sq_nil ?_
 refine ht_cond rfl (fun e1 => ?_) (fun e1 => ?_)
 ·replace h := cpos e1 h
  refine sr ?_
  refine sM 2 (bV false) rfl rfl ?_
  refine sz ?_
  cases h
  exact ret1 rfl (.tmp rfl)
 replace h := cneg e1 h
 refine ht_skip ?_
 refine ht_gj (go_id' h) (fun _ => tell []) (fun _ h => ?_) (fun v2 K3 h j5 r6 => ?_)
 ·refine sr ?_
  refine sM 2 (bV true) rfl rfl ?_
  refine sz ?_
  cases h
  exact ret1 rfl (.tmp rfl)
 refine sr ?_
 refine sM 3 (iV 0) rfl rfl ?_
 refine sq_nil ?_
 refine ht_block ?_
 refine ht_rd h (fun _ => rfl) (fun t3 => tell [(.t 0, .d (.sl 11 (t0.map eDone))), (.t 3, iV t3)]) (wi rfl rfl) fun k t3 h K13 j8 => ?_
 rw [F92_l1] at h
 refine ht_seq ?_
 refine sr ?_
 refine sM 7 (iV t3) rfl rfl ?_
 refine sM 8 (.d (.sl 11 (t0.map eDone))) rfl rfl ?_
 refine sT 9 (iV (t0.length : Int)) rfl (w_len t0 eDone rfl rfl · · · slT43 rfl) ?_
 refine sT 10 (bV (ltI t3 (t0.length : Int))) rfl (vb rfl rfl rfl (b_lss rfl)) ?_
 refine sq_nil ?_
 refine ht_cond rfl (fun e10 => ?_) (fun e10 => ?_)
 ·replace h := cpos e10 h
  refine ht_skip ?_
  refine ht_seq ?_
  refine ht_block ?_
  refine sr ?_
  refine sM 13 (.d (.sl 11 (t0.map eDone))) rfl rfl ?_
  refine sM 14 (iV t3) rfl rfl ?_
  obtain ⟨e11, h⟩ := gpos h
  refine sT 15 (.d (.dp (eDone (rd t0 t3)))) rfl (w_idx t0 eDone rfl · · · slT43 rfl rfl e11) ?_
  refine sD 16 (eDone (rd t0 t3)) fo100_2 rfl rfl rfl ?_
  refine sD 17 (List.drop 2 (eDone (rd t0 t3))) fo34_4 rfl rfl rfl ?_
  refine sT 18 (.d (.sl 2 ((rd t0 t3).mAnswer.mItems.map eItem))) rfl (vl rfl onT32 rfl rfl) ?_
  refine sT 19 (iV ((rd t0 t3).mAnswer.mItems.length : Int)) rfl (w_len (rd t0 t3).mAnswer.mItems eItem rfl rfl · · · slT32 rfl) ?_
  refine sT 20 (bV (ltI 100 ((rd t0 t3).mAnswer.mItems.length : Int))) rfl (vb rfl rfl rfl (b_gtr rfl)) ?_
  refine sq_nil ?_
  refine ht_cond rfl (fun e12 => ?_) (fun e12 => ?_)
  ·replace h := cpos e12 h
   refine sr ?_
   refine sM 2 (bV false) rfl rfl ?_
   refine sz ?_
   cases h
   cases r6 _ rfl
   exact ret1 rfl (.tmp rfl)
  replace h := cneg e12 h
  refine ht_skip ?_
  refine ht_region ?_
  refine sM 11 (iV t3) rfl rfl ?_
  refine sT 12 (iV (IntKind.wrap .i64 (t3 + 1))) rfl (vb rfl rfl rfl (b_add rfl)) ?_
  refine sM 3 (iV (IntKind.wrap .i64 (t3 + 1))) rfl rfl ?_
  refine sq_nil ?_
  exact j8 _ _ h (wi rfl rfl)
 replace h := cneg e10 h
 refine ht_exit ?_
 refine tq ?_
 refine tq ?_
 refine bq_hit ?_
 cases h
 exact j5 _ _ rfl (wi rfl rfl)
theorem s27 (k : Nat) (t0 : Shard) (r : Bool) (h : F27 k t0 = some r) : Awp.Spec Tryz.prog amb 27 [(.agg (eShard t0))] (.ds [(.s (.bool r))]) := by
 rw [F27] at h
 refine spec_of Tryz.func27 rfl (ble _ _ rfl) fun w0 ok0 lt0 hA => ?_
 refine sr ?_
 refine sT 1 (.d (.dp (eShard t0))) rfl (v_box_d (cs := (eShard t0)) rfl · · · rfl rfl (ones_of rfl)) ?_
 refine sM 2 (bV false) rfl rfl ?_
 refine sq_nil ?_
 refine sr ?_
 refine sD 3 (eShard t0) fo45_4 rfl rfl rfl ?_
 refine sT 4 (.d (.sl 2 (t0.mEntries.map eEntry))) rfl (vl rfl onT42 rfl rfl) ?_
 obtain ⟨t5, c1, h⟩ := bpos h
 refine sC 5 (bV t5) (s91 k t0.mEntries _ c1) en91 rfl rfl rfl rfl ?_
 refine sM 6 (bV t5) rfl rfl ?_
 refine sG 7 (.d (.dp (List.drop 12 (eShard t0)))) rfl rfl (fun e2 => (vD (eShard t0) fo45_7 · · · rfl rfl)) ?_
 refine sG 8 (.d (.sl 11 (t0.mDone.map eDone))) rfl rfl (fun e3 => (vl rfl onT43 (gv e3) rfl)) ?_
 obtain ⟨t9, c5, h⟩ := bpos h
 refine sG 9 (bV t9) rfl rfl (fun e4 => (vC (s92 k t0.mDone _ (cpos e4 c5)) en92 · · · rfl (cc (gv e4) rfl) rfl)) ?_
 refine sT 10 (bV (t5 && t9)) rfl (vp rfl rfl (fun e6 => (gv e6)) (fun e7 => rfl) (pA _ _)) ?_
 refine sM 11 (bV (t5 && t9)) rfl rfl ?_
 refine sG 12 (.d (.dp (List.drop 2 (eShard t0)))) rfl rfl (fun e8 => (vD (eShard t0) fo45_2 · · · rfl rfl)) ?_
 refine sG 13 (.d (.dp (List.drop 2 (eShard t0)))) rfl rfl (fun e9 => (vD (List.drop 2 (eShard t0)) fo41_0 · · · rfl (gv e9))) ?_
 refine sG 14 (sV t0.mSpan.mLo) rfl rfl (fun e10 => (vl rfl onT9 (gv e10) rfl)) ?_
 refine sG 15 (iV (t0.mSpan.mLo.size : Int)) rfl rfl (fun e11 => (v_len_str rfl rfl · · · und9 (gv e11))) ?_
 refine sG 16 (bV (ltI (t0.mSpan.mLo.size : Int) 100)) rfl rfl (fun e12 => (vb rfl (gv e12) rfl (b_lss rfl))) ?_
 refine sT 17 (bV ((t5 && t9) && (ltI (t0.mSpan.mLo.size : Int) 100))) rfl (vp rfl rfl (fun e13 => (gv e13)) (fun e14 => rfl) (pA _ _)) ?_
 refine sM 18 (bV ((t5 && t9) && (ltI (t0.mSpan.mLo.size : Int) 100))) rfl rfl ?_
 refine sG 19 (.d (.dp (List.drop 2 (eShard t0)))) rfl rfl (fun e15 => (vD (eShard t0) fo45_2 · · · rfl rfl)) ?_
 refine sG 20 (.d (.dp (List.drop 3 (eShard t0)))) rfl rfl (fun e16 => (vD (List.drop 2 (eShard t0)) fo41_1 · · · rfl (gv e16))) ?_
 refine sG 21 (sV t0.mSpan.mHi) rfl rfl (fun e17 => (vl rfl onT9 (gv e17) rfl)) ?_
 refine sG 22 (iV (t0.mSpan.mHi.size : Int)) rfl rfl (fun e18 => (v_len_str rfl rfl · · · und9 (gv e18))) ?_
 refine sG 23 (bV (ltI (t0.mSpan.mHi.size : Int) 100)) rfl rfl (fun e19 => (vb rfl (gv e19) rfl (b_lss rfl))) ?_
 refine sT 24 (bV (((t5 && t9) && (ltI (t0.mSpan.mLo.size : Int) 100)) && (ltI (t0.mSpan.mHi.size : Int) 100))) rfl (vp rfl rfl (fun e20 => (gv e20)) (fun e21 => rfl) (pA _ _)) ?_
 refine sM 2 (bV (((t5 && t9) && (ltI (t0.mSpan.mLo.size : Int) 100)) && (ltI (t0.mSpan.mHi.size : Int) 100))) rfl rfl ?_
 refine sz ?_
 cases h
 exact ret1 rfl (.tmp rfl)
theorem s14 (k : Nat) (t0 : Cell) (r : Bool) (h : F14 k t0 = some r) : Awp.Spec Tryz.prog amb 14 [(.agg (eCell t0))] (.ds [(.s (.bool r))]) := by
 rw [F14] at h
 refine spec_of Tryz.func14 rfl (ble _ _ rfl) fun w0 ok0 lt0 hA => ?_
 refine sr ?_
 refine sT 1 (.d (.dp (eCell t0))) rfl (v_box_d (cs := (eCell t0)) rfl · · · rfl rfl (ones_of rfl)) ?_
 refine sM 2 (bV false) rfl rfl ?_
 refine sq_nil ?_
 refine ht_seq ?_
 refine sr ?_
 refine sD 4 (eCell t0) fo26_0 rfl rfl rfl ?_
 refine sT 5 (.d (.sl 17 (t0.mShards.map eShard))) rfl (vl rfl onT22 rfl rfl) ?_
 refine sT 6 (iV (t0.mShards.length : Int)) rfl (w_len t0.mShards eShard rfl rfl · · · slT22 rfl) ?_
 refine sT 7 (bV (ltI 12 (t0.mShards.length : Int))) rfl (vb rfl rfl rfl (b_gtr rfl)) ?_
 refine sq_nil ?_
 refine ht_cond rfl (fun e1 => ?_) (fun e1 => ?_)
 ·replace h := cpos e1 h
  refine sr ?_
  refine sM 2 (bV false) rfl rfl ?_
  refine sz ?_
  cases h
  exact ret1 rfl (.tmp rfl)
 replace h := cneg e1 h
 refine ht_skip ?_
 refine ht_gj (go_id' h) (fun _ => tell []) (fun _ h => ?_) (fun v2 K3 h j5 r6 => ?_)
 ·refine sr ?_
  refine sM 2 (bV true) rfl rfl ?_
  refine sz ?_
  cases h
  exact ret1 rfl (.tmp rfl)
 refine sr ?_
 refine sM 3 (iV 0) rfl rfl ?_
 refine sq_nil ?_
 refine ht_block ?_
 refine ht_rd h (fun _ => rfl) (fun t3 => tell [(.t 1, .d (.dp (eCell t0))), (.t 3, iV t3)]) (wi rfl rfl) fun k t3 h K14 j8 => ?_
 rw [F14_l1] at h
 refine ht_seq ?_
 refine sr ?_
 refine sM 8 (iV t3) rfl rfl ?_
 refine sD 9 (eCell t0) fo26_0 rfl rfl rfl ?_
 refine sT 10 (.d (.sl 17 (t0.mShards.map eShard))) rfl (vl rfl onT22 rfl rfl) ?_
 refine sT 11 (iV (t0.mShards.length : Int)) rfl (w_len t0.mShards eShard rfl rfl · · · slT22 rfl) ?_
 refine sT 12 (bV (ltI t3 (t0.mShards.length : Int))) rfl (vb rfl rfl rfl (b_lss rfl)) ?_
 refine sq_nil ?_
 refine ht_cond rfl (fun e10 => ?_) (fun e10 => ?_)
 ·replace h := cpos e10 h
  refine ht_skip ?_
  refine ht_seq ?_
  refine ht_block ?_
  refine sr ?_
  refine sD 15 (eCell t0) fo26_0 rfl rfl rfl ?_
  refine sT 16 (.d (.sl 17 (t0.mShards.map eShard))) rfl (vl rfl onT22 rfl rfl) ?_
  refine sM 17 (iV t3) rfl rfl ?_
  obtain ⟨e11, h⟩ := gpos h
  refine sT 18 (.d (.dp (eShard (rd t0.mShards t3)))) rfl (w_idx t0.mShards eShard rfl · · · slT22 rfl rfl e11) ?_
  refine sP 19 (eShard (rd t0.mShards t3)) (eShard (rd t0.mShards t3)) ag45 rfl rfl rfl rfl rfl ?_
  obtain ⟨t20, c12, h⟩ := bpos h
  refine sC 20 (bV t20) (s27 k (rd t0.mShards t3) _ c12) en27 rfl rfl rfl rfl ?_
  refine sT 21 (bV (!t20)) rfl (vu rfl rfl (u_not rfl)) ?_
  refine sq_nil ?_
  refine ht_cond rfl (fun e13 => ?_) (fun e13 => ?_)
  ·replace h := cpos e13 h
   refine sr ?_
   refine sM 2 (bV false) rfl rfl ?_
   refine sz ?_
   cases h
   cases r6 _ rfl
   exact ret1 rfl (.tmp rfl)
  replace h := cneg e13 h
  refine ht_skip ?_
  refine ht_region ?_
  refine sM 13 (iV t3) rfl rfl ?_
  refine sT 14 (iV (IntKind.wrap .i64 (t3 + 1))) rfl (vb rfl rfl rfl (b_add rfl)) ?_
  refine sM 3 (iV (IntKind.wrap .i64 (t3 + 1))) rfl rfl ?_
  refine sq_nil ?_
  exact j8 _ _ h (wi rfl rfl)
 replace h := cneg e10 h
 refine ht_exit ?_
 refine tq ?_
 refine tq ?_
 refine bq_hit ?_
 cases h
 exact j5 _ _ rfl (wi rfl rfl)
theorem s56 (k : Nat) (t0 : Int) (r : Stamp) (h : F56 k t0 = some r) : Awp.Spec Tryz.prog amb 56 [(.s (.int .i64 t0))] (.ds [(.agg (eStamp r))]) := by
 rw [F56] at h
 refine spec_of Tryz.func56 rfl (ble _ _ rfl) fun w0 ok0 lt0 hA => ?_
 refine sr ?_
 refine sq_cons _ (v_alloc (id := 2) (cs := zc24) rfl trivial rfl (ble _ _ rfl) zu24 rfl ft24 rfl) ?_
 refine sq_nil ?_
 refine sr ?_
 refine sM 3 (iV t0) rfl rfl ?_
 refine sT 4 (.d (.agg (eStamp (⟨t0, 0, 0⟩ : Stamp)))) rfl (w_bld zc24 ((eStamp (⟨t0, 0, 0⟩ : Stamp)).map V.d) [(0, iV t0)] rfl · · · zw24 rfl ft24 rfl rfl rfl rfl) ?_
 refine sS 2 0 ((eStamp (⟨t0, 0, 0⟩ : Stamp)).map V.d) sz24 rfl rfl rfl rfl rfl (ones_of rfl) rfl ?_
 refine sz ?_
 cases h
 exact ret1 rfl (.cell rfl rfl ag24 (ble _ _ rfl) rfl)
theorem s121 (k : Nat) (t0 : Int) (t1 : Int) (r : Bool) (h : F121 k t0 t1 = some r) : Awp.Spec Tryz.prog amb 121 [(.s (.int .i64 t0)), (.dp [(.s (.int .i64 t1))])] (.ds [(.s (.bool r))]) := by
 rw [F121] at h
 refine spec_of Tryz.func121 rfl (ble _ _ rfl) fun w0 ok0 lt0 hA => ?_
 refine sr ?_
 refine sM 3 (bV false) rfl rfl ?_
 refine sq_nil ?_
 refine sr ?_
 refine sM 4 (iV t0) rfl rfl ?_
 refine sT 5 (iV t1) rfl (vl rfl onT3 rfl rfl) ?_
 refine sT 6 (bV (ltI t0 t1)) rfl (vb rfl rfl rfl (b_lss rfl)) ?_
 refine sM 7 (bV (ltI t0 t1)) rfl rfl ?_
 refine sF 8 (iV t0) rfl rfl (fun e1 => (vm rfl rfl)) ?_
 refine sF 9 (bV (ltI 1099511627776 t0)) rfl rfl (fun e2 => (vb rfl (gv (nF e2)) rfl (b_gtr rfl))) ?_
 refine sT 10 (bV ((ltI t0 t1) || (ltI 1099511627776 t0))) rfl (vp rfl rfl (fun e3 => rfl) (fun e4 => (gv (nF e4))) (pO _ _)) ?_
 refine sM 3 (bV ((ltI t0 t1) || (ltI 1099511627776 t0))) rfl rfl ?_
 refine sz ?_
 cases h
 exact ret1 rfl (.tmp rfl)
theorem s152_121 (k : Nat) (t0 : List Int) (t1u0 : Int) (r : Int) (h : F152_121 k t0 t1u0 = some r) : Awp.Spec Tryz.prog amb 152 [(.sl 1 (t0.map (eI .i64))), (.fn 121 [(.dp [(.s (.int .i64 t1u0))])])] (.ds [(.s (.int .i64 r))]) := by
 rw [F152_121] at h
 refine spec_of Tryz.func152 rfl (ble _ _ rfl) fun w0 ok0 lt0 hA => ?_
 refine sr ?_
 refine sM 4 (iV 0) rfl rfl ?_
 refine sq_nil ?_
 refine ht_gj (go_id' h) (fun _ => tell []) (fun _ h => ?_) (fun v1 K2 h j4 r5 => ?_)
 ·refine sr ?_
  refine sM 4 (iV (-1)) rfl rfl ?_
  refine sz ?_
  cases h
  exact ret1 rfl (.tmp rfl)
 refine sr ?_
 refine sM 6 (.d (.sl 1 (t0.map (eI .i64)))) rfl rfl ?_
 refine sT 7 (iV (t0.length : Int)) rfl (w_len t0 (eI .i64) rfl rfl · · · slT148 rfl) ?_
 refine sM 8 (iV 0) rfl rfl ?_
 refine sq_nil ?_
 refine ht_block ?_
 refine ht_rd h (fun _ => rfl) (fun t8 => tell [(.t 0, .d (.sl 1 (t0.map (eI .i64)))), (.t 1, .d (.fn 121 [(.dp [(.s (.int .i64 t1u0))])])), (.t 7, iV (t0.length : Int)), (.t 8, iV t8)]) (wi rfl rfl) fun k t8 h K13 j7 => ?_
 rw [F152_121_l1] at h
 refine sr ?_
 refine sT 9 (bV (ltI t8 (t0.length : Int))) rfl (vb rfl rfl rfl (b_lss rfl)) ?_
 refine sq_nil ?_
 refine ht_seq ?_
 refine ht_cond rfl (fun e9 => ?_) (fun e9 => ?_)
 ·replace h := cpos e9 h
  refine ht_skip ?_
  refine ht_seq ?_
  refine ht_block ?_
  refine sr ?_
  refine sM 10 (iV t8) rfl rfl ?_
  refine sM 5 (iV t8) rfl rfl ?_
  refine sq_nil ?_
  refine sr ?_
  refine sM 11 (.d (.fn 121 [(.dp [(.s (.int .i64 t1u0))])])) rfl rfl ?_
  refine sM 12 (.d (.sl 1 (t0.map (eI .i64)))) rfl rfl ?_
  refine sM 13 (iV t8) rfl rfl ?_
  obtain ⟨e10, h⟩ := gpos h
  refine sT 14 (.d (.dp [(.s (.int .i64 (rd t0 t8)))])) rfl (w_idx t0 (eI .i64) rfl · · · slT148 rfl rfl e10) ?_
  refine sT 15 (iV (rd t0 t8)) rfl (vl rfl onT3 rfl rfl) ?_
  obtain ⟨t16, c11, h⟩ := bpos h
  refine sT 16 (bV t16) rfl (w_call (ds := [(.s (.int .i64 (rd t0 t8)))]) (caps := [(.dp [(.s (.int .i64 t1u0))])]) (l := [(.s (.bool t16))]) (s121 k (rd t0 t8) t1u0 _ c11) rfl rfl rfl en121 · · · (.inr rfl) rfl rfl) ?_
  refine sq_nil ?_
  refine ht_cond rfl (fun e12 => ?_) (fun e12 => ?_)
  ·replace h := cpos e12 h
   refine sr ?_
   refine sM 17 (iV t8) rfl rfl ?_
   refine sM 4 (iV t8) rfl rfl ?_
   refine sz ?_
   cases h
   cases r5 _ rfl
   exact ret1 rfl (.tmp rfl)
  replace h := cneg e12 h
  refine ht_skip ?_
  refine ht_region ?_
  refine sT 18 (iV (IntKind.wrap .i64 (t8 + 1))) rfl (vb rfl rfl rfl (b_add rfl)) ?_
  refine sM 8 (iV (IntKind.wrap .i64 (t8 + 1))) rfl rfl ?_
  refine sq_nil ?_
  exact j7 _ _ h (wi rfl rfl)
 replace h := cneg e9 h
 refine ht_exit ?_
 refine tq ?_
 refine tq ?_
 refine bq_hit ?_
 cases h
 exact j4 _ _ rfl (wi rfl rfl)
theorem s120_121 (k : Nat) (t0 : List Int) (t1u0 : Int) (r : Bool) (h : F120_121 k t0 t1u0 = some r) : Awp.Spec Tryz.prog amb 120 [(.sl 1 (t0.map (eI .i64))), (.fn 121 [(.dp [(.s (.int .i64 t1u0))])])] (.ds [(.s (.bool r))]) := by
 rw [F120_121] at h
 refine spec_of Tryz.func120 rfl (ble _ _ rfl) fun w0 ok0 lt0 hA => ?_
 refine sr ?_
 refine sM 4 (bV false) rfl rfl ?_
 refine sq_nil ?_
 refine sr ?_
 refine sM 5 (.d (.sl 1 (t0.map (eI .i64)))) rfl rfl ?_
 refine sM 6 (.d (.fn 121 [(.dp [(.s (.int .i64 t1u0))])])) rfl rfl ?_
 obtain ⟨t7, c1, h⟩ := bpos h
 refine sC 7 (iV t7) (s152_121 k t0 t1u0 _ c1) en152 rfl rfl rfl rfl ?_
 refine sT 8 (bV (leI 0 t7)) rfl (vb rfl rfl rfl (b_geq rfl)) ?_
 refine sM 4 (bV (leI 0 t7)) rfl rfl ?_
 refine sz ?_
 cases h
 exact ret1 rfl (.tmp rfl)
theorem s57 (k : Nat) (t0 : Int) (t1 : List Int) (r : Bool) (h : F57 k t0 t1 = some r) : Awp.Spec Tryz.prog amb 57 [(.s (.int .i64 t0)), (.sl 1 (t1.map (eI .i64)))] (.ds [(.s (.bool r))]) := by
 rw [F57] at h
 refine spec_of Tryz.func57 rfl (ble _ _ rfl) fun w0 ok0 lt0 hA => ?_
 refine sr ?_
 refine sT 2 (.d (.dp [(.s (.int .i64 t0))])) rfl (v_box_d (cs := [(.s (.int .i64 t0))]) rfl · · · rfl rfl (ones_of rfl)) ?_
 refine sM 4 (bV false) rfl rfl ?_
 refine sq_nil ?_
 refine sr ?_
 refine sM 5 (.d (.sl 1 (t1.map (eI .i64)))) rfl rfl ?_
 refine sT 6 (.d (.fn 121 [(.dp [(.s (.int .i64 t0))])])) rfl (v_func_d (ds := [(.dp [(.s (.int .i64 t0))])]) rfl · · · rfl) ?_
 obtain ⟨t7, c1, h⟩ := bpos h
 refine sC 7 (bV t7) (s120_121 k t1 t0 _ c1) en120 rfl rfl rfl rfl ?_
 refine sT 8 (bV (!t7)) rfl (vu rfl rfl (u_not rfl)) ?_
 refine sM 4 (bV (!t7)) rfl rfl ?_
 refine sz ?_
 cases h
 exact ret1 rfl (.tmp rfl)
theorem s153 (k : Nat) (t0 : ByteArray) (r : Int × Int) (h : F153 k t0 = some r) : Awp.Spec Tryz.prog amb 153 [(.s (.string t0))] (.ds [(.s (.int .i32 r.1)), (.s (.int .i64 r.2))]) := by
 rw [F153] at h
 refine spec_of Tryz.func153 rfl (ble _ _ rfl) fun w0 ok0 lt0 hA => ?_
 refine sr ?_
 refine sM 2 (nV .i32 0) rfl rfl ?_
 refine sM 3 (iV 0) rfl rfl ?_
 refine sq_nil ?_
 refine ht_seq ?_
 refine sr ?_
 refine sM 4 (sV t0) rfl rfl ?_
 refine sT 5 (bV (!strEq t0 (⟨#[]⟩ : ByteArray))) rfl (vb rfl rfl rfl (b_neS rfl)) ?_
 refine sM 6 (bV (!strEq t0 (⟨#[]⟩ : ByteArray))) rfl rfl ?_
 refine sG 7 (sV t0) rfl rfl (fun e1 => (vm rfl rfl)) ?_
 obtain ⟨e3, h⟩ := gpos h
 refine sG 8 (nV .u8 (bt t0 0)) rfl rfl (fun e2 => (v_index rfl · · · (gv e2) rfl (i_str und9 (orT e3 e2) rfl))) ?_
 refine sG 9 (bV (ltI (bt t0 0) 128)) rfl rfl (fun e4 => (vb rfl (gv e4) rfl (b_lss rfl))) ?_
 refine sT 10 (bV ((!strEq t0 (⟨#[]⟩ : ByteArray)) && (ltI (bt t0 0) 128))) rfl (vp rfl rfl (fun e5 => (gv e5)) (fun e6 => rfl) (pA _ _)) ?_
 refine sq_nil ?_
 refine ht_cond rfl (fun e7 => ?_) (fun e7 => ?_)
 ·replace h := cpos e7 h
  refine sr ?_
  refine sM 11 (sV t0) rfl rfl ?_
  obtain ⟨e8, h⟩ := gpos h
  refine sT 12 (nV .u8 (bt t0 0)) rfl (v_index rfl · · · rfl rfl (i_str und9 e8 rfl)) ?_
  refine sT 13 (nV .i32 (IntKind.wrap .i32 (bt t0 0))) rfl (v_conv rfl · · · rfl (c_int und5 und21 rfl)) ?_
  refine sM 2 (nV .i32 (IntKind.wrap .i32 (bt t0 0))) rfl rfl ?_
  refine sM 3 (iV 1) rfl rfl ?_
  refine sz ?_
  cases h
  exact ret2 rfl (.tmp rfl) (.tmp rfl)
 replace h := cneg e7 h
 refine ht_region ?_
 refine sM 15 (sV t0) rfl rfl ?_
 obtain ⟨⟨t16a, t16b⟩, c9, h⟩ := bpos h
 refine sC 16 (.tup [nV .i32 t16a, iV t16b]) (s174 k t0 _ c9) en174 rfl rfl rfl rfl ?_
 refine sM 14 (.tup [nV .i32 t16a, iV t16b]) rfl rfl ?_
 refine sT 17 (nV .i32 t16a) rfl (ve rfl rfl rfl) ?_
 refine sT 18 (iV t16b) rfl (ve rfl rfl rfl) ?_
 refine sM 2 (nV .i32 t16a) rfl rfl ?_
 refine sM 3 (iV t16b) rfl rfl ?_
 refine sz ?_
 cases h
 exact ret2 rfl (.tmp rfl) (.tmp rfl)
theorem s154 (k : Nat) (t0 : Int) (t1 : Int) (r : Bool) (h : F154 k t0 t1 = some r) : Awp.Spec Tryz.prog amb 154 [(.s (.int .i32 t0)), (.s (.int .i64 t1))] (.ds [(.s (.bool r))]) := by
 rw [F154] at h
 refine spec_of Tryz.func154 rfl (ble _ _ rfl) fun w0 ok0 lt0 hA => ?_
 refine sr ?_
 refine sM 4 (bV false) rfl rfl ?_
 refine sq_nil ?_
 refine sr ?_
 refine sM 5 (nV .i32 t0) rfl rfl ?_
 refine sT 6 (bV (leI 33 t0)) rfl (vb rfl rfl rfl (b_geq rfl)) ?_
 refine sM 7 (bV (leI 33 t0)) rfl rfl ?_
 refine sG 8 (nV .i32 t0) rfl rfl (fun e1 => (vm rfl rfl)) ?_
 refine sG 9 (bV (ltI t0 127)) rfl rfl (fun e2 => (vb rfl (gv e2) rfl (b_lss rfl))) ?_
 refine sG 10 (bV (ltI t0 127)) rfl rfl (fun e3 => (vm rfl (gv e3))) ?_
 refine sH 11 (nV .i32 t0) rfl rfl (fun e4 e5 => (vm rfl rfl)) ?_
 refine sH 12 (bV (ltI 159 t0)) rfl rfl (fun e6 e7 => (vb rfl (gv (aT e6 (nF e7))) rfl (b_gtr rfl))) ?_
 refine sG 13 (bV ((ltI t0 127) || (ltI 159 t0))) rfl rfl (fun e8 => (vp rfl (gv e8) (fun e9 => rfl) (fun e10 => (gv (aT e8 (nF e10)))) (pO _ _))) ?_
 refine sT 14 (bV ((leI 33 t0) && ((ltI t0 127) || (ltI 159 t0)))) rfl (vp rfl rfl (fun e11 => (gv e11)) (fun e12 => rfl) (pA _ _)) ?_
 refine sM 15 (bV ((leI 33 t0) && ((ltI t0 127) || (ltI 159 t0)))) rfl rfl ?_
 refine sG 16 (nV .i32 t0) rfl rfl (fun e13 => (vm rfl rfl)) ?_
 refine sG 17 (bV (!eqI t0 65533)) rfl rfl (fun e14 => (vb rfl (gv e14) rfl (b_neq rfl))) ?_
 refine sG 18 (bV (!eqI t0 65533)) rfl rfl (fun e15 => (vm rfl (gv e15))) ?_
 refine sH 19 (iV t1) rfl rfl (fun e16 e17 => (vm rfl rfl)) ?_
 refine sH 20 (bV (eqI t1 3)) rfl rfl (fun e18 e19 => (vb rfl (gv (aT e18 (nF e19))) rfl (b_eql rfl))) ?_
 refine sG 21 (bV ((!eqI t0 65533) || (eqI t1 3))) rfl rfl (fun e20 => (vp rfl (gv e20) (fun e21 => rfl) (fun e22 => (gv (aT e20 (nF e22)))) (pO _ _))) ?_
 refine sT 22 (bV (((leI 33 t0) && ((ltI t0 127) || (ltI 159 t0))) && ((!eqI t0 65533) || (eqI t1 3)))) rfl (vp rfl rfl (fun e23 => (gv e23)) (fun e24 => rfl) (pA _ _)) ?_
 refine sM 4 (bV (((leI 33 t0) && ((ltI t0 127) || (ltI 159 t0))) && ((!eqI t0 65533) || (eqI t1 3)))) rfl rfl ?_
 refine sz ?_
 cases h
 exact ret1 rfl (.tmp rfl)
theorem s122 (k : Nat) (t0 : ByteArray) (r : Bool) (h : F122 k t0 = some r) : Awp.Spec Tryz.prog amb 122 [(.s (.string t0))] (.ds [(.s (.bool r))]) := by
 rw [F122] at h
 refine spec_of Tryz.func122 rfl (ble _ _ rfl) fun w0 ok0 lt0 hA => ?_
 refine sr ?_
 refine sM 2 (bV false) rfl rfl ?_
 refine sq_nil ?_
 refine ht_gj (go_id' h) (fun _ => tell [(.t 0, sV t0)]) (fun _ h => ?_) (fun v1 K2 h j4 r5 => ?_)
 ·refine sr ?_
  refine sM 24 (sV t0) rfl rfl ?_
  refine sT 25 (iV (t0.size : Int)) rfl (v_len_str rfl rfl · · · und9 rfl) ?_
  refine sT 26 (bV (leI 1 (t0.size : Int))) rfl (vb rfl rfl rfl (b_geq rfl)) ?_
  refine sM 27 (bV (leI 1 (t0.size : Int))) rfl rfl ?_
  refine sG 28 (sV t0) rfl rfl (fun e15 => (vm rfl rfl)) ?_
  refine sG 29 (iV (t0.size : Int)) rfl rfl (fun e16 => (v_len_str rfl rfl · · · und9 (gv e16))) ?_
  refine sG 30 (bV (leI (t0.size : Int) 16)) rfl rfl (fun e17 => (vb rfl (gv e17) rfl (b_leq rfl))) ?_
  refine sT 31 (bV ((leI 1 (t0.size : Int)) && (leI (t0.size : Int) 16))) rfl (vp rfl rfl (fun e18 => (gv e18)) (fun e19 => rfl) (pA _ _)) ?_
  refine sM 2 (bV ((leI 1 (t0.size : Int)) && (leI (t0.size : Int) 16))) rfl rfl ?_
  refine sz ?_
  cases h
  exact ret1 rfl (.tmp rfl)
 refine sr ?_
 refine sM 7 (sV t0) rfl rfl ?_
 refine sq_cons ⟨_, [(.b 8, .iter t0 0), (.t 8, .ptr 8 0)]⟩ (v_range (id := 8) rfl trivial rfl (ble _ _ rfl) und9 rfl rfl) ?_
 refine sq_nil ?_
 refine ht_block ?_
 refine ht_rd h (fun _ => rfl) (fun t8p => tell [(.b 8, .iter t0 t8p), (.t 0, sV t0), (.t 8, .ptr 8 0)]) (wi rfl rfl) fun k t8p h K14 j7 => ?_
 rw [F122_l1] at h
 refine sr ?_
 refine sq_cons ⟨_, [(.b 8, .iter t0 (nxp t0 t8p)), (.t 9, nxV t0 t8p)]⟩ (v_next rfl trivial rfl (ble _ _ rfl) rfl rfl) ?_
 refine sT 10 (bV (nxc t0 t8p)) rfl (v_nx0 rfl · · · rfl) ?_
 refine sq_nil ?_
 refine ht_seq ?_
 refine ht_cond rfl (fun e9 => ?_) (fun e9 => ?_)
 ·replace h := cpos e9 h
  refine ht_weak (wk_eq (.t 9) (.tup [bV true, iV ((t8p : Nat) : Int), nV .i32 (nxr t0 t8p)]) (nxV_t e9)) ?_
  refine ht_weak (wk_eq (.b 8) (.iter t0 (nxw t0 t8p)) (nxp_t e9)) ?_
  refine ht_skip ?_
  refine ht_block ?_
  refine sr ?_
  refine sT 11 (iV ((t8p : Nat) : Int)) rfl (ve rfl rfl rfl) ?_
  refine sT 12 (nV .i32 (nxr t0 t8p)) rfl (ve rfl rfl rfl) ?_
  refine sM 3 (iV ((t8p : Nat) : Int)) rfl rfl ?_
  refine sM 4 (nV .i32 (nxr t0 t8p)) rfl rfl ?_
  refine sq_nil ?_
  refine sr ?_
  refine sM 14 (sV t0) rfl rfl ?_
  refine sM 15 (iV ((t8p : Nat) : Int)) rfl rfl ?_
  obtain ⟨e10, h⟩ := gpos h
  refine sT 16 (sV (t0.extract ((t8p : Nat) : Int).toNat (t0.size : Int).toNat)) rfl (w_cut_str t0 ((t8p : Nat) : Int) (t0.size : Int) rfl · · · und9 rfl (.inr ⟨_, _, rfl, rfl⟩) (.inl ⟨rfl, rfl⟩) e10) ?_
  obtain ⟨⟨t17a, t17b⟩, c11, h⟩ := bpos h
  refine sC 17 (.tup [nV .i32 t17a, iV t17b]) (s153 k (t0.extract ((t8p : Nat) : Int).toNat (t0.size : Int).toNat) _ c11) en153 rfl rfl rfl rfl ?_
  refine sM 13 (.tup [nV .i32 t17a, iV t17b]) rfl rfl ?_
  refine sT 18 (nV .i32 t17a) rfl (ve rfl rfl rfl) ?_
  refine sT 19 (iV t17b) rfl (ve rfl rfl rfl) ?_
  refine sM 5 (nV .i32 t17a) rfl rfl ?_
  refine sM 6 (iV t17b) rfl rfl ?_
  refine sq_nil ?_
  refine sr ?_
  refine sM 20 (nV .i32 (nxr t0 t8p)) rfl rfl ?_
  refine sM 21 (iV t17b) rfl rfl ?_
  obtain ⟨t22, c12, h⟩ := bpos h
  refine sC 22 (bV t22) (s154 k (nxr t0 t8p) t17b _ c12) en154 rfl rfl rfl rfl ?_
  refine sT 23 (bV (!t22)) rfl (vu rfl rfl (u_not rfl)) ?_
  refine sq_nil ?_
  refine ht_cond rfl (fun e13 => ?_) (fun e13 => ?_)
  ·replace h := cpos e13 h
   refine sr ?_
   refine sM 2 (bV false) rfl rfl ?_
   refine sz ?_
   cases h
   cases r5 _ rfl
   exact ret1 rfl (.tmp rfl)
  replace h := cneg e13 h
  refine ht_skip ?_
  exact j7 _ _ h (wi rfl rfl)
 replace h := cneg e9 h
 refine ht_exit ?_
 refine tq ?_
 refine tq ?_
 refine bq_hit ?_
 cases h
 exact j4 _ _ rfl (wi rfl rfl)
theorem s124 (k : Nat) (t0 : ByteArray) (t1 : ByteArray) (r : Int) (h : F124 k t0 t1 = some r) : Awp.Spec Tryz.prog amb 124 [(.s (.string t0)), (.s (.string t1))] (.ds [(.s (.int .i64 r))]) := by
 rw [F124] at h
 refine spec_of Tryz.func124 rfl (ble _ _ rfl) fun w0 ok0 lt0 hA => ?_
 refine sr ?_
 refine sM 4 (iV 0) rfl rfl ?_
 refine sq_nil ?_
 refine ht_gj (go_id' h) (fun (t0_1, t1_1) => tell [(.t 0, sV t0_1), (.t 1, sV t1_1)]) (fun v1 h => ?_) (fun v1 K2 h j4 r5 => ?_)
 ·obtain ⟨t0_1, t1_1⟩ := v1
  refine ht_seq ?_
  refine ht_block ?_
  refine sr ?_
  refine sM 40 (sV t0_1) rfl rfl ?_
  refine sT 41 (bV (!strEq t0_1 (⟨#[]⟩ : ByteArray))) rfl (vb rfl rfl rfl (b_neS rfl)) ?_
  refine sM 39 (bV (!strEq t0_1 (⟨#[]⟩ : ByteArray))) rfl rfl ?_
  refine sq_nil ?_
  refine ht_cond rfl (fun e21 => ?_) (fun e21 => ?_)
  ·replace h := cpos e21 h
   refine sr ?_
   refine sM 4 (iV 1) rfl rfl ?_
   refine sz ?_
   cases h
   exact ret1 rfl (.tmp rfl)
  replace h := cneg e21 h
  refine sr ?_
  refine sM 43 (sV t1_1) rfl rfl ?_
  refine sT 44 (bV (!strEq t1_1 (⟨#[]⟩ : ByteArray))) rfl (vb rfl rfl rfl (b_neS rfl)) ?_
  refine sM 42 (bV (!strEq t1_1 (⟨#[]⟩ : ByteArray))) rfl rfl ?_
  refine sq_nil ?_
  refine ht_cond rfl (fun e22 => ?_) (fun e22 => ?_)
  ·replace h := cpos e22 h
   refine sr ?_
   refine sM 4 (iV (-1)) rfl rfl ?_
   refine sz ?_
   cases h
   exact ret1 rfl (.tmp rfl)
  replace h := cneg e22 h
  refine ht_skip ?_
  refine sr ?_
  refine sM 4 (iV 0) rfl rfl ?_
  refine sz ?_
  cases h
  exact ret1 rfl (.tmp rfl)
 refine ht_block ?_
 refine ht_rd h (fun _ => rfl) (fun (t0_2, t1_2) => tell [(.t 0, sV t0_2), (.t 1, sV t1_2)]) (wi rfl rfl) fun k v8 h K20 j7 => ?_
 obtain ⟨t0_2, t1_2⟩ := v8
 rw [F124_l1] at h
 refine ht_seq ?_
 refine sr ?_
 refine sM 9 (sV t0_2) rfl rfl ?_
 refine sT 10 (bV (!strEq t0_2 (⟨#[]⟩ : ByteArray))) rfl (vb rfl rfl rfl (b_neS rfl)) ?_
 refine sM 11 (bV (!strEq t0_2 (⟨#[]⟩ : ByteArray))) rfl rfl ?_
 refine sG 12 (sV t1_2) rfl rfl (fun e9 => (vm rfl rfl)) ?_
 refine sG 13 (bV (!strEq t1_2 (⟨#[]⟩ : ByteArray))) rfl rfl (fun e10 => (vb rfl (gv e10) rfl (b_neS rfl))) ?_
 refine sT 14 (bV ((!strEq t0_2 (⟨#[]⟩ : ByteArray)) && (!strEq t1_2 (⟨#[]⟩ : ByteArray)))) rfl (vp rfl rfl (fun e11 => (gv e11)) (fun e12 => rfl) (pA _ _)) ?_
 refine sq_nil ?_
 refine ht_cond rfl (fun e13 => ?_) (fun e13 => ?_)
 ·replace h := cpos e13 h
  refine ht_skip ?_
  refine ht_block ?_
  refine sr ?_
  refine sM 16 (sV t0_2) rfl rfl ?_
  obtain ⟨⟨t17a, t17b⟩, c14, h⟩ := bpos h
  refine sC 17 (.tup [nV .i32 t17a, iV t17b]) (s153 k t0_2 _ c14) en153 rfl rfl rfl rfl ?_
  refine sM 15 (.tup [nV .i32 t17a, iV t17b]) rfl rfl ?_
  refine sT 18 (nV .i32 t17a) rfl (ve rfl rfl rfl) ?_
  refine sT 19 (iV t17b) rfl (ve rfl rfl rfl) ?_
  refine sM 5 (nV .i32 t17a) rfl rfl ?_
  refine sM 6 (iV t17b) rfl rfl ?_
  refine sq_nil ?_
  refine sr ?_
  refine sM 21 (sV t1_2) rfl rfl ?_
  obtain ⟨⟨t22a, t22b⟩, c15, h⟩ := bpos h
  refine sC 22 (.tup [nV .i32 t22a, iV t22b]) (s153 k t1_2 _ c15) en153 rfl rfl rfl rfl ?_
  refine sM 20 (.tup [nV .i32 t22a, iV t22b]) rfl rfl ?_
  refine sT 23 (nV .i32 t22a) rfl (ve rfl rfl rfl) ?_
  refine sT 24 (iV t22b) rfl (ve rfl rfl rfl) ?_
  refine sM 7 (nV .i32 t22a) rfl rfl ?_
  refine sM 8 (iV t22b) rfl rfl ?_
  refine sq_nil ?_
  refine ht_seq ?_
  refine ht_block ?_
  refine sr ?_
  refine sM 26 (nV .i32 t17a) rfl rfl ?_
  refine sM 27 (nV .i32 t22a) rfl rfl ?_
  refine sT 28 (bV (ltI t17a t22a)) rfl (vb rfl rfl rfl (b_lss rfl)) ?_
  refine sM 25 (bV (ltI t17a t22a)) rfl rfl ?_
  refine sq_nil ?_
  refine ht_cond rfl (fun e16 => ?_) (fun e16 => ?_)
  ·replace h := cpos e16 h
   refine sr ?_
   refine sM 4 (iV (-1)) rfl rfl ?_
   refine sz ?_
   cases h
   cases r5 _ rfl
   exact ret1 rfl (.tmp rfl)
  replace h := cneg e16 h
  refine sr ?_
  refine sM 30 (nV .i32 t17a) rfl rfl ?_
  refine sM 31 (nV .i32 t22a) rfl rfl ?_
  refine sT 32 (bV (ltI t22a t17a)) rfl (vb rfl rfl rfl (b_gtr rfl)) ?_
  refine sM 29 (bV (ltI t22a t17a)) rfl rfl ?_
  refine sq_nil ?_
  refine ht_cond rfl (fun e17 => ?_) (fun e17 => ?_)
  ·replace h := cpos e17 h
   refine sr ?_
   refine sM 4 (iV 1) rfl rfl ?_
   refine sz ?_
   cases h
   cases r5 _ rfl
   exact ret1 rfl (.tmp rfl)
  replace h := cneg e17 h
  refine ht_skip ?_
  refine ht_region_draw mixed ?_
  refine rM 33 (sV t0_2) rfl rfl ?_
  refine rM 34 (iV t17b) rfl rfl ?_
  obtain ⟨e18, h⟩ := gpos h
  refine rT 35 (sV (t0_2.extract t17b.toNat (t0_2.size : Int).toNat)) rfl (w_cut_str t0_2 t17b (t0_2.size : Int) rfl · · · und9 rfl (.inr ⟨_, _, rfl, rfl⟩) (.inl ⟨rfl, rfl⟩) e18) ?_
  refine rM 36 (sV t1_2) rfl rfl ?_
  refine rM 37 (iV t22b) rfl rfl ?_
  obtain ⟨e19, h⟩ := gpos h
  refine rT 38 (sV (t1_2.extract t22b.toNat (t1_2.size : Int).toNat)) rfl (w_cut_str t1_2 t22b (t1_2.size : Int) rfl · · · und9 rfl (.inr ⟨_, _, rfl, rfl⟩) (.inl ⟨rfl, rfl⟩) e19) ?_
  refine rM 0 (sV (t0_2.extract t17b.toNat (t0_2.size : Int).toNat)) rfl rfl ?_
  refine rM 1 (sV (t1_2.extract t22b.toNat (t1_2.size : Int).toNat)) rfl rfl ?_
  refine rg_nil ⟨by kernel_rfl, ?_⟩
  exact j7 _ _ h (wi rfl rfl)
 replace h := cneg e13 h
 refine ht_exit ?_
 refine tq ?_
 refine tq ?_
 refine bq_hit ?_
 cases h
 exact j4 _ _ rfl (wi rfl rfl)
theorem s80 (k : Nat) (t0 : Span) (r : Bool) (h : F80 k t0 = some r) : Awp.Spec Tryz.prog amb 80 [(.agg (eSpan t0))] (.ds [(.s (.bool r))]) := by
 rw [F80] at h
 refine spec_of Tryz.func80 rfl (ble _ _ rfl) fun w0 ok0 lt0 hA => ?_
 refine sr ?_
 refine sT 1 (.d (.dp (eSpan t0))) rfl (v_box_d (cs := (eSpan t0)) rfl · · · rfl rfl (ones_of rfl)) ?_
 refine sM 2 (bV false) rfl rfl ?_
 refine sq_nil ?_
 refine ht_seq ?_
 refine sr ?_
 refine sD 3 (eSpan t0) fo41_0 rfl rfl rfl ?_
 refine sT 4 (sV t0.mLo) rfl (vl rfl onT9 rfl rfl) ?_
 refine sT 5 (bV (!strEq t0.mLo (⟨#[]⟩ : ByteArray))) rfl (vb rfl rfl rfl (b_neS rfl)) ?_
 refine sM 6 (bV (!strEq t0.mLo (⟨#[]⟩ : ByteArray))) rfl rfl ?_
 refine sG 7 (.d (.dp (eSpan t0))) rfl rfl (fun e1 => (vD (eSpan t0) fo41_0 · · · rfl rfl)) ?_
 refine sG 8 (sV t0.mLo) rfl rfl (fun e2 => (vl rfl onT9 (gv e2) rfl)) ?_
 obtain ⟨t9, c4, h⟩ := bpos h
 refine sG 9 (bV t9) rfl rfl (fun e3 => (vC (s122 k t0.mLo _ (cpos e3 c4)) en122 · · · rfl (cc (gv e3) rfl) rfl)) ?_
 refine sG 10 (bV (!t9)) rfl rfl (fun e5 => (vu rfl (gv e5) (u_not rfl))) ?_
 refine sT 11 (bV ((!strEq t0.mLo (⟨#[]⟩ : ByteArray)) && (!t9))) rfl (vp rfl rfl (fun e6 => (gv e6)) (fun e7 => rfl) (pA _ _)) ?_
 refine sq_nil ?_
 refine ht_cond rfl (fun e8 => ?_) (fun e8 => ?_)
 ·replace h := cpos e8 h
  refine sr ?_
  refine sM 2 (bV false) rfl rfl ?_
  refine sz ?_
  cases h
  exact ret1 rfl (.tmp rfl)
 replace h := cneg e8 h
 refine ht_skip ?_
 refine sr ?_
 refine sD 12 (eSpan t0) fo41_1 rfl rfl rfl ?_
 refine sT 13 (sV t0.mHi) rfl (vl rfl onT9 rfl rfl) ?_
 refine sT 14 (bV (strEq t0.mHi (⟨#[]⟩ : ByteArray))) rfl (vb rfl rfl rfl (b_eqS rfl)) ?_
 refine sM 15 (bV (strEq t0.mHi (⟨#[]⟩ : ByteArray))) rfl rfl ?_
 refine sF 16 (.d (.dp (List.drop 1 (eSpan t0)))) rfl rfl (fun e9 => (vD (eSpan t0) fo41_1 · · · rfl rfl)) ?_
 refine sF 17 (sV t0.mHi) rfl rfl (fun e10 => (vl rfl onT9 (gv (nF e10)) rfl)) ?_
 obtain ⟨t18, c12, h⟩ := bpos h
 refine sF 18 (bV t18) rfl rfl (fun e11 => (vC (s122 k t0.mHi _ (cpos (nF e11) c12)) en122 · · · rfl (cc (gv (nF e11)) rfl) rfl)) ?_
 refine sF 19 (bV t18) rfl rfl (fun e13 => (vm rfl (gv (nF e13)))) ?_
 refine sI 20 (.d (.dp (eSpan t0))) rfl rfl (fun e14 e15 => (vD (eSpan t0) fo41_0 · · · rfl rfl)) ?_
 refine sI 21 (sV t0.mLo) rfl rfl (fun e16 e17 => (vl rfl onT9 (gv (aT e16 e17)) rfl)) ?_
 refine sI 22 (.d (.dp (List.drop 1 (eSpan t0)))) rfl rfl (fun e18 e19 => (vD (eSpan t0) fo41_1 · · · rfl rfl)) ?_
 refine sI 23 (sV t0.mHi) rfl rfl (fun e20 e21 => (vl rfl onT9 (gv (aT e20 e21)) rfl)) ?_
 obtain ⟨t24, c24, h⟩ := bpos h
 refine sI 24 (iV t24) rfl rfl (fun e22 e23 => (vC (s124 k t0.mLo t0.mHi _ (cpos (aT e22 e23) c24)) en124 · · · rfl (cc (gv (aT e22 e23)) (cc (gv (aT e22 e23)) rfl)) rfl)) ?_
 refine sI 25 (bV (ltI t24 0)) rfl rfl (fun e25 e26 => (vb rfl (gv (aT e25 e26)) rfl (b_lss rfl))) ?_
 refine sF 26 (bV (t18 && (ltI t24 0))) rfl rfl (fun e27 => (vp rfl (gv (nF e27)) (fun e28 => (gv (aT (nF e27) e28))) (fun e29 => rfl) (pA _ _))) ?_
 refine sT 27 (bV ((strEq t0.mHi (⟨#[]⟩ : ByteArray)) || (t18 && (ltI t24 0)))) rfl (vp rfl rfl (fun e30 => rfl) (fun e31 => (gv (nF e31))) (pO _ _)) ?_
 refine sM 2 (bV ((strEq t0.mHi (⟨#[]⟩ : ByteArray)) || (t18 && (ltI t24 0)))) rfl rfl ?_
 refine sz ?_
 cases h
 exact ret1 rfl (.tmp rfl)
theorem s100 (k : Nat) (t0 : Int) (t1 : Int) (r : Bool) (h : F100 k t0 t1 = some r) : Awp.Spec Tryz.prog amb 100 [(.s (.int .i64 t0)), (.s (.int .i64 t1))] (.ds [(.s (.bool r))]) := by
 rw [F100] at h
 refine spec_of Tryz.func100 rfl (ble _ _ rfl) fun w0 ok0 lt0 hA => ?_
 refine sr ?_
 refine sM 4 (bV false) rfl rfl ?_
 refine sq_nil ?_
 refine sr ?_
 refine sM 5 (iV t0) rfl rfl ?_
 refine sT 6 (bV (leI 0 t0)) rfl (vb rfl rfl rfl (b_geq rfl)) ?_
 refine sM 7 (bV (leI 0 t0)) rfl rfl ?_
 refine sG 8 (iV t0) rfl rfl (fun e1 => (vm rfl rfl)) ?_
 refine sG 9 (iV t1) rfl rfl (fun e2 => (vm rfl rfl)) ?_
 refine sG 10 (bV (leI t0 t1)) rfl rfl (fun e3 => (vb rfl (gv e3) (gv e3) (b_leq rfl))) ?_
 refine sT 11 (bV ((leI 0 t0) && (leI t0 t1))) rfl (vp rfl rfl (fun e4 => (gv e4)) (fun e5 => rfl) (pA _ _)) ?_
 refine sM 4 (bV ((leI 0 t0) && (leI t0 t1))) rfl rfl ?_
 refine sz ?_
 cases h
 exact ret1 rfl (.tmp rfl)
theorem s36 (k : Nat) (t0 : Stamp) (r : Bool) (h : F36 k t0 = some r) : Awp.Spec Tryz.prog amb 36 [(.agg (eStamp t0))] (.ds [(.s (.bool r))]) := by
 rw [F36] at h
 refine spec_of Tryz.func36 rfl (ble _ _ rfl) fun w0 ok0 lt0 hA => ?_
 refine sr ?_
 refine sT 1 (.d (.dp (eStamp t0))) rfl (v_box_d (cs := (eStamp t0)) rfl · · · rfl rfl (ones_of rfl)) ?_
 refine sM 2 (bV false) rfl rfl ?_
 refine sq_nil ?_
 refine sr ?_
 refine sD 3 (eStamp t0) fo24_0 rfl rfl rfl ?_
 refine sT 4 (iV t0.mWall) rfl (vl rfl onT3 rfl rfl) ?_
 obtain ⟨t5, c1, h⟩ := bpos h
 refine sC 5 (bV t5) (s100 k t0.mWall 1099511627776 _ c1) en100 rfl rfl rfl rfl ?_
 refine sM 6 (bV t5) rfl rfl ?_
 refine sG 7 (.d (.dp (List.drop 1 (eStamp t0)))) rfl rfl (fun e2 => (vD (eStamp t0) fo24_1 · · · rfl rfl)) ?_
 refine sG 8 (iV t0.mTick) rfl rfl (fun e3 => (vl rfl onT3 (gv e3) rfl)) ?_
 obtain ⟨t9, c5, h⟩ := bpos h
 refine sG 9 (bV t9) rfl rfl (fun e4 => (vC (s100 k t0.mTick 1048576 _ (cpos e4 c5)) en100 · · · rfl (cc (gv e4) (cc rfl rfl)) rfl)) ?_
 refine sT 10 (bV (t5 && t9)) rfl (vp rfl rfl (fun e6 => (gv e6)) (fun e7 => rfl) (pA _ _)) ?_
 refine sM 11 (bV (t5 && t9)) rfl rfl ?_
 refine sG 12 (.d (.dp (List.drop 2 (eStamp t0)))) rfl rfl (fun e8 => (vD (eStamp t0) fo24_2 · · · rfl rfl)) ?_
 refine sG 13 (iV t0.mNode) rfl rfl (fun e9 => (vl rfl onT3 (gv e9) rfl)) ?_
 obtain ⟨t14, c11, h⟩ := bpos h
 refine sG 14 (bV t14) rfl rfl (fun e10 => (vC (s100 k t0.mNode 255 _ (cpos e10 c11)) en100 · · · rfl (cc (gv e10) (cc rfl rfl)) rfl)) ?_
 refine sT 15 (bV ((t5 && t9) && t14)) rfl (vp rfl rfl (fun e12 => (gv e12)) (fun e13 => rfl) (pA _ _)) ?_
 refine sM 2 (bV ((t5 && t9) && t14)) rfl rfl ?_
 refine sz ?_
 cases h
 exact ret1 rfl (.tmp rfl)
theorem s166 (k : Nat) (t0 : Version) (r : Bool) (h : F166 k t0 = some r) : Awp.Spec Tryz.prog amb 166 [(.agg (eVersion t0))] (.ds [(.s (.bool r))]) := by
 rw [F166] at h
 refine spec_of Tryz.func166 rfl (ble _ _ rfl) fun w0 ok0 lt0 hA => ?_
 refine sr ?_
 refine sT 1 (.d (.dp (eVersion t0))) rfl (v_box_d (cs := (eVersion t0)) rfl · · · rfl rfl (ones_of rfl)) ?_
 refine sM 2 (bV false) rfl rfl ?_
 refine sq_nil ?_
 refine sr ?_
 refine sD 3 (eVersion t0) fo93_0 rfl rfl rfl ?_
 refine sP 4 (eVersion t0) (eStamp t0.mAt) ag24 rfl rfl rfl rfl rfl ?_
 obtain ⟨t5, c1, h⟩ := bpos h
 refine sC 5 (bV t5) (s36 k t0.mAt _ c1) en36 rfl rfl rfl rfl ?_
 refine sM 6 (bV t5) rfl rfl ?_
 refine sG 7 (.d (.dp (List.drop 4 (eVersion t0)))) rfl rfl (fun e2 => (vD (eVersion t0) fo93_2 · · · rfl rfl)) ?_
 refine sG 8 (sV t0.mValue) rfl rfl (fun e3 => (vl rfl onT9 (gv e3) rfl)) ?_
 refine sG 9 (iV (t0.mValue.size : Int)) rfl rfl (fun e4 => (v_len_str rfl rfl · · · und9 (gv e4))) ?_
 refine sG 10 (bV (leI (t0.mValue.size : Int) 16)) rfl rfl (fun e5 => (vb rfl (gv e5) rfl (b_leq rfl))) ?_
 refine sT 11 (bV (t5 && (leI (t0.mValue.size : Int) 16))) rfl (vp rfl rfl (fun e6 => (gv e6)) (fun e7 => rfl) (pA _ _)) ?_
 refine sM 12 (bV (t5 && (leI (t0.mValue.size : Int) 16))) rfl rfl ?_
 refine sG 13 (.d (.dp (List.drop 3 (eVersion t0)))) rfl rfl (fun e8 => (vD (eVersion t0) fo93_1 · · · rfl rfl)) ?_
 refine sG 14 (bV t0.mGone) rfl rfl (fun e9 => (vl rfl onT4 (gv e9) rfl)) ?_
 refine sG 15 (bV (!t0.mGone)) rfl rfl (fun e10 => (vu rfl (gv e10) (u_not rfl))) ?_
 refine sG 16 (bV (!t0.mGone)) rfl rfl (fun e11 => (vm rfl (gv e11))) ?_
 refine sH 17 (.d (.dp (List.drop 4 (eVersion t0)))) rfl rfl (fun e12 e13 => (vD (eVersion t0) fo93_2 · · · rfl rfl)) ?_
 refine sH 18 (sV t0.mValue) rfl rfl (fun e14 e15 => (vl rfl onT9 (gv (aT e14 (nF e15))) rfl)) ?_
 refine sH 19 (bV (strEq t0.mValue (⟨#[]⟩ : ByteArray))) rfl rfl (fun e16 e17 => (vb rfl (gv (aT e16 (nF e17))) rfl (b_eqS rfl))) ?_
 refine sG 20 (bV ((!t0.mGone) || (strEq t0.mValue (⟨#[]⟩ : ByteArray)))) rfl rfl (fun e18 => (vp rfl (gv e18) (fun e19 => rfl) (fun e20 => (gv (aT e18 (nF e20)))) (pO _ _))) ?_
 refine sT 21 (bV ((t5 && (leI (t0.mValue.size : Int) 16)) && ((!t0.mGone) || (strEq t0.mValue (⟨#[]⟩ : ByteArray))))) rfl (vp rfl rfl (fun e21 => (gv e21)) (fun e22 => rfl) (pA _ _)) ?_
 refine sM 2 (bV ((t5 && (leI (t0.mValue.size : Int) 16)) && ((!t0.mGone) || (strEq t0.mValue (⟨#[]⟩ : ByteArray))))) rfl rfl ?_
 refine sz ?_
 cases h
 exact ret1 rfl (.tmp rfl)
theorem s146 (k : Nat) (t0 : Int) (r : Bool) (h : F146 k t0 = some r) : Awp.Spec Tryz.prog amb 146 [(.s (.int .i64 t0))] (.ds [(.s (.bool r))]) := by
 rw [F146] at h
 refine spec_of Tryz.func146 rfl (ble _ _ rfl) fun w0 ok0 lt0 hA => ?_
 refine sr ?_
 refine sM 2 (bV false) rfl rfl ?_
 refine sq_nil ?_
 refine sr ?_
 refine sM 3 (iV t0) rfl rfl ?_
 refine sM 4 (iV t0) rfl rfl ?_
 refine sT 5 (bV (!eqI t0 t0)) rfl (vb rfl rfl rfl (b_neq rfl)) ?_
 refine sM 2 (bV (!eqI t0 t0)) rfl rfl ?_
 refine sz ?_
 cases h
 exact ret1 rfl (.tmp rfl)
theorem s104 (k : Nat) (t0 : Int) (t1 : Int) (r : Int) (h : F104 k t0 t1 = some r) : Awp.Spec Tryz.prog amb 104 [(.s (.int .i64 t0)), (.s (.int .i64 t1))] (.ds [(.s (.int .i64 r))]) := by
 rw [F104] at h
 refine spec_of Tryz.func104 rfl (ble _ _ rfl) fun w0 ok0 lt0 hA => ?_
 refine sr ?_
 refine sM 4 (iV 0) rfl rfl ?_
 refine sq_nil ?_
 refine sr ?_
 refine sM 7 (iV t0) rfl rfl ?_
 obtain ⟨t8, c1, h⟩ := bpos h
 refine sC 8 (bV t8) (s146 k t0 _ c1) en146 rfl rfl rfl rfl ?_
 refine sM 5 (bV t8) rfl rfl ?_
 refine sq_nil ?_
 refine sr ?_
 refine sM 9 (iV t1) rfl rfl ?_
 obtain ⟨t10, c2, h⟩ := bpos h
 refine sC 10 (bV t10) (s146 k t1 _ c2) en146 rfl rfl rfl rfl ?_
 refine sM 6 (bV t10) rfl rfl ?_
 refine sq_nil ?_
 refine ht_seq ?_
 refine sr ?_
 refine sM 11 (bV t8) rfl rfl ?_
 refine sq_nil ?_
 refine ht_cond rfl (fun e3 => ?_) (fun e3 => ?_)
 ·replace h := cpos e3 h
  refine ht_seq ?_
  refine sr ?_
  refine sM 12 (bV t10) rfl rfl ?_
  refine sq_nil ?_
  refine ht_cond rfl (fun e4 => ?_) (fun e4 => ?_)
  ·replace h := cpos e4 h
   refine sr ?_
   refine sM 4 (iV 0) rfl rfl ?_
   refine sz ?_
   cases h
   exact ret1 rfl (.tmp rfl)
  replace h := cneg e4 h
  refine ht_skip ?_
  refine sr ?_
  refine sM 4 (iV (-1)) rfl rfl ?_
  refine sz ?_
  cases h
  exact ret1 rfl (.tmp rfl)
 replace h := cneg e3 h
 refine ht_skip ?_
 refine ht_seq ?_
 refine sr ?_
 refine sM 13 (bV t10) rfl rfl ?_
 refine sq_nil ?_
 refine ht_cond rfl (fun e5 => ?_) (fun e5 => ?_)
 ·replace h := cpos e5 h
  refine sr ?_
  refine sM 4 (iV 1) rfl rfl ?_
  refine sz ?_
  cases h
  exact ret1 rfl (.tmp rfl)
 replace h := cneg e5 h
 refine ht_skip ?_
 refine ht_seq ?_
 refine sr ?_
 refine sM 14 (iV t0) rfl rfl ?_
 refine sM 15 (iV t1) rfl rfl ?_
 refine sT 16 (bV (ltI t0 t1)) rfl (vb rfl rfl rfl (b_lss rfl)) ?_
 refine sq_nil ?_
 refine ht_cond rfl (fun e6 => ?_) (fun e6 => ?_)
 ·replace h := cpos e6 h
  refine sr ?_
  refine sM 4 (iV (-1)) rfl rfl ?_
  refine sz ?_
  cases h
  exact ret1 rfl (.tmp rfl)
 replace h := cneg e6 h
 refine ht_skip ?_
 refine ht_seq ?_
 refine sr ?_
 refine sM 17 (iV t0) rfl rfl ?_
 refine sM 18 (iV t1) rfl rfl ?_
 refine sT 19 (bV (ltI t1 t0)) rfl (vb rfl rfl rfl (b_gtr rfl)) ?_
 refine sq_nil ?_
 refine ht_cond rfl (fun e7 => ?_) (fun e7 => ?_)
 ·replace h := cpos e7 h
  refine sr ?_
  refine sM 4 (iV 1) rfl rfl ?_
  refine sz ?_
  cases h
  exact ret1 rfl (.tmp rfl)
 replace h := cneg e7 h
 refine ht_skip ?_
 refine sr ?_
 refine sM 4 (iV 0) rfl rfl ?_
 refine sz ?_
 cases h
 exact ret1 rfl (.tmp rfl)
theorem s103 (k : Nat) (t0 : List Int) (r : Int) (h : F103 k t0 = some r) : Awp.Spec Tryz.prog amb 103 [(.sl 1 (t0.map (eI .i64)))] (.ds [(.s (.int .i64 r))]) := by
 rw [F103] at h
 refine spec_of Tryz.func103 rfl (ble _ _ rfl) fun w0 ok0 lt0 hA => ?_
 refine sr ?_
 refine sM 2 (iV 0) rfl rfl ?_
 refine sq_nil ?_
 refine sr ?_
 refine sM 3 (iV 0) rfl rfl ?_
 refine sq_nil ?_
 refine ht_gj (go_id' h) (fun _ => tell [(.t 3, iV 0)]) (fun _ h => ?_) (fun v1 K2 h j4 r5 => ?_)
 ·refine sr ?_
  refine sM 17 (iV 0) rfl rfl ?_
  refine sM 2 (iV 0) rfl rfl ?_
  refine sz ?_
  cases h
  exact ret1 rfl (.tmp rfl)
 refine sr ?_
 refine sM 6 (.d (.sl 1 (t0.map (eI .i64)))) rfl rfl ?_
 refine sT 7 (iV (t0.length : Int)) rfl (w_len t0 (eI .i64) rfl rfl · · · slT148 rfl) ?_
 refine sM 8 (iV 0) rfl rfl ?_
 refine sq_nil ?_
 refine ht_block ?_
 refine ht_rd h (fun _ => rfl) (fun t8 => tell [(.t 3, iV 0), (.t 6, .d (.sl 1 (t0.map (eI .i64)))), (.t 7, iV (t0.length : Int)), (.t 8, iV t8)]) (wi rfl rfl) fun k t8 h K12 j7 => ?_
 rw [F103_l1] at h
 refine sr ?_
 refine sT 9 (bV (ltI t8 (t0.length : Int))) rfl (vb rfl rfl rfl (b_lss rfl)) ?_
 refine sq_nil ?_
 refine ht_seq ?_
 refine ht_cond rfl (fun e9 => ?_) (fun e9 => ?_)
 ·replace h := cpos e9 h
  refine ht_skip ?_
  refine ht_seq ?_
  refine ht_block ?_
  refine sr ?_
  obtain ⟨e10, h⟩ := gpos h
  refine sT 10 (.d (.dp [(.s (.int .i64 (rd t0 t8)))])) rfl (w_idx t0 (eI .i64) rfl · · · slT148 rfl rfl e10) ?_
  refine sT 11 (iV (rd t0 t8)) rfl (vl rfl onT3 rfl rfl) ?_
  refine sM 5 (iV (rd t0 t8)) rfl rfl ?_
  refine sq_nil ?_
  refine sr ?_
  refine sM 12 (iV (rd t0 t8)) rfl rfl ?_
  refine sM 13 (iV 0) rfl rfl ?_
  refine sT 14 (bV (!eqI (rd t0 t8) 0)) rfl (vb rfl rfl rfl (b_neq rfl)) ?_
  refine sq_nil ?_
  refine ht_cond rfl (fun e11 => ?_) (fun e11 => ?_)
  ·replace h := cpos e11 h
   refine sr ?_
   refine sM 15 (iV (rd t0 t8)) rfl rfl ?_
   refine sM 2 (iV (rd t0 t8)) rfl rfl ?_
   refine sz ?_
   cases h
   cases r5 _ rfl
   exact ret1 rfl (.tmp rfl)
  replace h := cneg e11 h
  refine ht_skip ?_
  refine ht_region ?_
  refine sT 16 (iV (IntKind.wrap .i64 (t8 + 1))) rfl (vb rfl rfl rfl (b_add rfl)) ?_
  refine sM 8 (iV (IntKind.wrap .i64 (t8 + 1))) rfl rfl ?_
  refine sq_nil ?_
  exact j7 _ _ h (wi rfl rfl)
 replace h := cneg e9 h
 refine ht_exit ?_
 refine tq ?_
 refine tq ?_
 refine bq_hit ?_
 cases h
 exact j4 _ _ rfl (wi rfl rfl)
theorem s42 (k : Nat) (t0 : Stamp) (t1 : Stamp) (r : Int) (h : F42 k t0 t1 = some r) : Awp.Spec Tryz.prog amb 42 [(.agg (eStamp t0)), (.agg (eStamp t1))] (.ds [(.s (.int .i64 r))]) := by
 rw [F42] at h
 refine spec_of Tryz.func42 rfl (ble _ _ rfl) fun w0 ok0 lt0 hA => ?_
 refine sr ?_
 refine sT 2 (.d (.dp (eStamp t0))) rfl (v_box_d (cs := (eStamp t0)) rfl · · · rfl rfl (ones_of rfl)) ?_
 refine sT 3 (.d (.dp (eStamp t1))) rfl (v_box_d (cs := (eStamp t1)) rfl · · · rfl rfl (ones_of rfl)) ?_
 refine sM 4 (iV 0) rfl rfl ?_
 refine sq_nil ?_
 refine ht_seq ?_
 refine ht_region_draw mixed ?_
 refine rD 5 (eStamp t0) fo24_0 rfl rfl rfl ?_
 refine rT 6 (iV t0.mWall) rfl (vl rfl onT3 rfl rfl) ?_
 refine rD 7 (eStamp t1) fo24_0 rfl rfl rfl ?_
 refine rT 8 (iV t1.mWall) rfl (vl rfl onT3 rfl rfl) ?_
 obtain ⟨t9, c1, h⟩ := bpos h
 refine rC 9 (iV t9) (s104 k t0.mWall t1.mWall _ c1) en104 rfl rfl rfl rfl ?_
 refine rD 10 (eStamp t0) fo24_1 rfl rfl rfl ?_
 refine rT 11 (iV t0.mTick) rfl (vl rfl onT3 rfl rfl) ?_
 refine rD 12 (eStamp t1) fo24_1 rfl rfl rfl ?_
 refine rT 13 (iV t1.mTick) rfl (vl rfl onT3 rfl rfl) ?_
 obtain ⟨t14, c2, h⟩ := bpos h
 refine rC 14 (iV t14) (s104 k t0.mTick t1.mTick _ c2) en104 rfl rfl rfl rfl ?_
 refine rD 15 (eStamp t0) fo24_2 rfl rfl rfl ?_
 refine rT 16 (iV t0.mNode) rfl (vl rfl onT3 rfl rfl) ?_
 refine rD 17 (eStamp t1) fo24_2 rfl rfl rfl ?_
 refine rT 18 (iV t1.mNode) rfl (vl rfl onT3 rfl rfl) ?_
 obtain ⟨t19, c3, h⟩ := bpos h
 refine rC 19 (iV t19) (s104 k t0.mNode t1.mNode _ c3) en104 rfl rfl rfl rfl ?_
 refine rT 20 (.d (.sl 1 (([t9, t14, t19]).map (eI .i64)))) rfl (w_bsl_d [(0, iV t9), (1, iV t14), (2, iV t19)] [t9, t14, t19] (eI .i64) rfl · · · slT148 zr3 (encI .i64) (ble _ _ rfl) rfl (by kernel_rfl) rfl rfl (by kernel_rfl)) ?_
 obtain ⟨t21, c4, h⟩ := bpos h
 refine rC 21 (iV t21) (s103 k ([t9, t14, t19]) _ c4) en103 rfl rfl rfl rfl ?_
 refine rM 4 (iV t21) rfl rfl ?_
 refine rg_nil ⟨by kernel_rfl, ?_⟩
 refine ht_ret ?_
 cases h
 exact ret1 rfl (.tmp rfl)
theorem s136 (k : Nat) (t0 : List Version) (r : Bool) (h : F136 k t0 = some r) : Awp.Spec Tryz.prog amb 136 [(.sl 5 (t0.map eVersion))] (.ds [(.s (.bool r))]) := by
 rw [F136] at h
 refine spec_of Tryz.func136 rfl (ble _ _ rfl) fun w0 ok0 lt0 hA => ?_
 refine sr ?_
 refine sM 2 (bV false) rfl rfl ?_
 refine sq_nil ?_
 refine ht_gj (go_id' h) (fun _ => tell [(.t 0, .d (.sl 5 (t0.map eVersion)))]) (fun _ h => ?_) (fun v1 K2 h j4 r5 => ?_)
 ·refine sr ?_
  refine sM 32 (.d (.sl 5 (t0.map eVersion))) rfl rfl ?_
  refine sT 33 (iV (t0.length : Int)) rfl (w_len t0 eVersion rfl rfl · · · slT96 rfl) ?_
  refine sT 34 (bV (leI (t0.length : Int) 64)) rfl (vb rfl rfl rfl (b_leq rfl)) ?_
  refine sM 2 (bV (leI (t0.length : Int) 64)) rfl rfl ?_
  refine sz ?_
  cases h
  exact ret1 rfl (.tmp rfl)
 refine sr ?_
 refine sM 5 (.d (.sl 5 (t0.map eVersion))) rfl rfl ?_
 refine sT 6 (iV (t0.length : Int)) rfl (w_len t0 eVersion rfl rfl · · · slT96 rfl) ?_
 refine sM 7 (iV 0) rfl rfl ?_
 refine sq_nil ?_
 refine ht_block ?_
 refine ht_rd h (fun _ => rfl) (fun t7 => tell [(.t 0, .d (.sl 5 (t0.map eVersion))), (.t 5, .d (.sl 5 (t0.map eVersion))), (.t 6, iV (t0.length : Int)), (.t 7, iV t7)]) (wi rfl rfl) fun k t7 h K43 j7 => ?_
 rw [F136_l1] at h
 refine sr ?_
 refine sT 8 (bV (ltI t7 (t0.length : Int))) rfl (vb rfl rfl rfl (b_lss rfl)) ?_
 refine sq_nil ?_
 refine ht_seq ?_
 refine ht_cond rfl (fun e9 => ?_) (fun e9 => ?_)
 ·replace h := cpos e9 h
  refine ht_skip ?_
  refine ht_seq ?_
  refine ht_block ?_
  refine sr ?_
  refine sM 9 (iV t7) rfl rfl ?_
  obtain ⟨e10, h⟩ := gpos h
  refine sT 10 (.d (.dp (eVersion (rd t0 t7)))) rfl (w_idx t0 eVersion rfl · · · slT96 rfl rfl e10) ?_
  refine sP 11 (eVersion (rd t0 t7)) (eVersion (rd t0 t7)) ag93 rfl rfl rfl rfl rfl ?_
  refine sq_cons _ (v_alloc (id := 4) (cs := zc93) rfl trivial rfl (ble _ _ rfl) zu93 rfl ft93 rfl) ?_
  refine sM 3 (iV t7) rfl rfl ?_
  refine sS 4 0 ((eVersion (rd t0 t7)).map V.d) sz93 rfl rfl rfl rfl rfl (ones_of rfl) rfl ?_
  refine sq_nil ?_
  refine ht_seq ?_
  refine ht_region_draw mixed ?_
  refine rT 12 (.d (.agg (eVersion (rd t0 t7)))) rfl (w_ldb 4 0 rfl · · · ag93 rfl rfl (ble _ _ rfl) rfl) ?_
  obtain ⟨t13, c11, h⟩ := bpos h
  refine rC 13 (bV t13) (s166 k (rd t0 t7) _ c11) en166 rfl rfl rfl rfl ?_
  refine rT 14 (bV (!t13)) rfl (vu rfl rfl (u_not rfl)) ?_
  refine rM 15 (bV (!t13)) rfl rfl ?_
  refine rF 16 (iV t7) rfl rfl (fun e12 => (vm rfl rfl)) ?_
  refine rF 17 (bV (ltI 0 t7)) rfl rfl (fun e13 => (vb rfl (gv (nF e13)) rfl (b_gtr rfl))) ?_
  refine rF 18 (bV (ltI 0 t7)) rfl rfl (fun e14 => (vm rfl (gv (nF e14)))) ?_
  refine rI 19 (.d (.sl 5 (t0.map eVersion))) rfl rfl (fun e15 e16 => (vm rfl rfl)) ?_
  refine rI 20 (iV t7) rfl rfl (fun e17 e18 => (vm rfl rfl)) ?_
  refine rI 21 (iV (IntKind.wrap .i64 (t7 - 1))) rfl rfl (fun e19 e20 => (vb rfl (gv (aT e19 e20)) rfl (b_sub rfl))) ?_
  obtain ⟨e23, h⟩ := gpos h
  refine rI 22 (.d (.dp (eVersion (rd t0 (IntKind.wrap .i64 (t7 - 1)))))) rfl rfl (fun e21 e22 => (w_idx t0 eVersion rfl · · · slT96 (gv (aT e21 e22)) (gv (aT e21 e22)) (orT e23 (aT e21 e22)))) ?_
  refine rI 23 (.d (.dp (eVersion (rd t0 (IntKind.wrap .i64 (t7 - 1)))))) rfl rfl (fun e24 e25 => (vD (eVersion (rd t0 (IntKind.wrap .i64 (t7 - 1)))) fo93_0 · · · rfl (gv (aT e24 e25)))) ?_
  refine rI 24 (.d (.agg (eStamp (rd t0 (IntKind.wrap .i64 (t7 - 1))).mAt))) rfl rfl (fun e26 e27 => (w_ldp (eVersion (rd t0 (IntKind.wrap .i64 (t7 - 1)))) (eStamp (rd t0 (IntKind.wrap .i64 (t7 - 1))).mAt) rfl · · · ag24 (gv (aT e26 e27)) (ble _ _ rfl) rfl)) ?_
  refine rI 25 (.ptr 4 0) rfl rfl (fun e28 e29 => (v_field_box (off := 0) (a0 := 0) rfl · · · fo93_0 rfl)) ?_
  refine rI 26 (.d (.agg (eStamp (rd t0 t7).mAt))) rfl rfl (fun e30 e31 => (w_ldb 4 0 rfl · · · ag24 (gv (aT e30 e31)) rfl (ble _ _ rfl) rfl)) ?_
  obtain ⟨t27, c34, h⟩ := bpos h
  refine rI 27 (iV t27) rfl rfl (fun e32 e33 => (vC (s42 k (rd t0 (IntKind.wrap .i64 (t7 - 1))).mAt (rd t0 t7).mAt _ (cpos (aT e32 e33) c34)) en42 · · · rfl (cc (gv (aT e32 e33)) (cc (gv (aT e32 e33)) rfl)) rfl)) ?_
  refine rI 28 (bV (leI 0 t27)) rfl rfl (fun e35 e36 => (vb rfl (gv (aT e35 e36)) rfl (b_geq rfl))) ?_
  refine rF 29 (bV ((ltI 0 t7) && (leI 0 t27))) rfl rfl (fun e37 => (vp rfl (gv (nF e37)) (fun e38 => (gv (aT (nF e37) e38))) (fun e39 => rfl) (pA _ _))) ?_
  refine rT 30 (bV ((!t13) || ((ltI 0 t7) && (leI 0 t27)))) rfl (vp rfl rfl (fun e40 => rfl) (fun e41 => (gv (nF e41))) (pO _ _)) ?_
  refine rg_nil ⟨by kernel_rfl, ?_⟩
  refine ht_cond rfl (fun e42 => ?_) (fun e42 => ?_)
  ·replace h := cpos e42 h
   refine sr ?_
   refine sM 2 (bV false) rfl rfl ?_
   refine sz ?_
   cases h
   cases r5 _ rfl
   exact ret1 rfl (.tmp rfl)
  replace h := cneg e42 h
  refine ht_skip ?_
  refine ht_region ?_
  refine sT 31 (iV (IntKind.wrap .i64 (t7 + 1))) rfl (vb rfl rfl rfl (b_add rfl)) ?_
  refine sM 7 (iV (IntKind.wrap .i64 (t7 + 1))) rfl rfl ?_
  refine sq_nil ?_
  exact j7 _ _ h (wi rfl rfl)
 replace h := cneg e9 h
 refine ht_exit ?_
 refine tq ?_
 refine tq ?_
 refine bq_hit ?_
 cases h
 exact j4 _ _ rfl (wi rfl rfl)
theorem s81 (k : Nat) (t0 : List Entry) (r : Bool) (h : F81 k t0 = some r) : Awp.Spec Tryz.prog amb 81 [(.sl 2 (t0.map eEntry))] (.ds [(.s (.bool r))]) := by
 rw [F81] at h
 refine spec_of Tryz.func81 rfl (ble _ _ rfl) fun w0 ok0 lt0 hA => ?_
 refine sr ?_
 refine sM 2 (bV false) rfl rfl ?_
 refine sq_nil ?_
 refine ht_gj (go_id' h) (fun _ => tell [(.t 0, .d (.sl 2 (t0.map eEntry)))]) (fun _ h => ?_) (fun v1 K2 h j4 r5 => ?_)
 ·refine sr ?_
  refine sM 45 (.d (.sl 2 (t0.map eEntry))) rfl rfl ?_
  refine sT 46 (iV (t0.length : Int)) rfl (w_len t0 eEntry rfl rfl · · · slT42 rfl) ?_
  refine sT 47 (bV (leI (t0.length : Int) 64)) rfl (vb rfl rfl rfl (b_leq rfl)) ?_
  refine sM 2 (bV (leI (t0.length : Int) 64)) rfl rfl ?_
  refine sz ?_
  cases h
  exact ret1 rfl (.tmp rfl)
 refine sr ?_
 refine sM 5 (.d (.sl 2 (t0.map eEntry))) rfl rfl ?_
 refine sT 6 (iV (t0.length : Int)) rfl (w_len t0 eEntry rfl rfl · · · slT42 rfl) ?_
 refine sM 7 (iV 0) rfl rfl ?_
 refine sq_nil ?_
 refine ht_block ?_
 refine ht_rd h (fun _ => rfl) (fun t7 => tell [(.t 0, .d (.sl 2 (t0.map eEntry))), (.t 5, .d (.sl 2 (t0.map eEntry))), (.t 6, iV (t0.length : Int)), (.t 7, iV t7)]) (wi rfl rfl) fun k t7 h K56 j7 => ?_
 rw [F81_l1] at h
 refine sr ?_
 refine sT 8 (bV (ltI t7 (t0.length : Int))) rfl (vb rfl rfl rfl (b_lss rfl)) ?_
 refine sq_nil ?_
 refine ht_seq ?_
 refine ht_cond rfl (fun e9 => ?_) (fun e9 => ?_)
 ·replace h := cpos e9 h
  refine ht_skip ?_
  refine ht_seq ?_
  refine ht_block ?_
  refine sr ?_
  refine sM 9 (iV t7) rfl rfl ?_
  obtain ⟨e10, h⟩ := gpos h
  refine sT 10 (.d (.dp (eEntry (rd t0 t7)))) rfl (w_idx t0 eEntry rfl · · · slT42 rfl rfl e10) ?_
  refine sP 11 (eEntry (rd t0 t7)) (eEntry (rd t0 t7)) ag116 rfl rfl rfl rfl rfl ?_
  refine sq_cons _ (v_alloc (id := 4) (cs := zc116) rfl trivial rfl (ble _ _ rfl) zu116 rfl ft116 rfl) ?_
  refine sM 3 (iV t7) rfl rfl ?_
  refine sS 4 0 ((eEntry (rd t0 t7)).map V.d) sz116 rfl rfl rfl rfl rfl (ones_of rfl) rfl ?_
  refine sq_nil ?_
  refine ht_seq ?_
  refine ht_region_draw mixed ?_
  refine rT 12 (.ptr 4 0) rfl (v_field_box (off := 0) (a0 := 0) rfl · · · fo116_0 rfl) ?_
  refine rT 13 (sV (rd t0 t7).mKey) rfl (v_load_box1 (id := 4) (off := 0) rfl · · · onT9 rfl rfl (ble _ _ rfl) rfl) ?_
  obtain ⟨t14, c11, h⟩ := bpos h
  refine rC 14 (bV t14) (s122 k (rd t0 t7).mKey _ c11) en122 rfl rfl rfl rfl ?_
  refine rT 15 (bV (!t14)) rfl (vu rfl rfl (u_not rfl)) ?_
  refine rM 16 (bV (!t14)) rfl rfl ?_
  refine rF 17 (.ptr 4 1) rfl rfl (fun e12 => (v_field_box (off := 0) (a0 := 1) rfl · · · fo116_1 rfl)) ?_
  refine rF 18 (.d (.sl 5 ((rd t0 t7).mChain.map eVersion))) rfl rfl (fun e13 => (v_load_box1 (id := 4) (off := 1) rfl · · · onT96 (gv (nF e13)) rfl (ble _ _ rfl) rfl)) ?_
  obtain ⟨t19, c15, h⟩ := bpos h
  refine rF 19 (bV t19) rfl rfl (fun e14 => (vC (s136 k (rd t0 t7).mChain _ (cpos (nF e14) c15)) en136 · · · rfl (cc (gv (nF e14)) rfl) rfl)) ?_
  refine rF 20 (bV (!t19)) rfl rfl (fun e16 => (vu rfl (gv (nF e16)) (u_not rfl))) ?_
  refine rT 21 (bV ((!t14) || (!t19))) rfl (vp rfl rfl (fun e17 => rfl) (fun e18 => (gv (nF e18))) (pO _ _)) ?_
  refine rM 22 (bV ((!t14) || (!t19))) rfl rfl ?_
  refine rF 23 (.ptr 4 1) rfl rfl (fun e19 => (v_field_box (off := 0) (a0 := 1) rfl · · · fo116_1 rfl)) ?_
  refine rF 24 (.d (.sl 5 ((rd t0 t7).mChain.map eVersion))) rfl rfl (fun e20 => (v_load_box1 (id := 4) (off := 1) rfl · · · onT96 (gv (nF e20)) rfl (ble _ _ rfl) rfl)) ?_
  refine rF 25 (iV ((rd t0 t7).mChain.length : Int)) rfl rfl (fun e21 => (w_len (rd t0 t7).mChain eVersion rfl rfl · · · slT96 (gv (nF e21)))) ?_
  refine rF 26 (bV (eqI ((rd t0 t7).mChain.length : Int) 0)) rfl rfl (fun e22 => (vb rfl (gv (nF e22)) rfl (b_eql rfl))) ?_
  refine rT 27 (bV (((!t14) || (!t19)) || (eqI ((rd t0 t7).mChain.length : Int) 0))) rfl (vp rfl rfl (fun e23 => rfl) (fun e24 => (gv (nF e24))) (pO _ _)) ?_
  refine rM 28 (bV (((!t14) || (!t19)) || (eqI ((rd t0 t7).mChain.length : Int) 0))) rfl rfl ?_
  refine rF 29 (iV t7) rfl rfl (fun e25 => (vm rfl rfl)) ?_
  refine rF 30 (bV (ltI 0 t7)) rfl rfl (fun e26 => (vb rfl (gv (nF e26)) rfl (b_gtr rfl))) ?_
  refine rF 31 (bV (ltI 0 t7)) rfl rfl (fun e27 => (vm rfl (gv (nF e27)))) ?_
  refine rI 32 (.d (.sl 2 (t0.map eEntry))) rfl rfl (fun e28 e29 => (vm rfl rfl)) ?_
  refine rI 33 (iV t7) rfl rfl (fun e30 e31 => (vm rfl rfl)) ?_
  refine rI 34 (iV (IntKind.wrap .i64 (t7 - 1))) rfl rfl (fun e32 e33 => (vb rfl (gv (aT e32 e33)) rfl (b_sub rfl))) ?_
  obtain ⟨e36, h⟩ := gpos h
  refine rI 35 (.d (.dp (eEntry (rd t0 (IntKind.wrap .i64 (t7 - 1)))))) rfl rfl (fun e34 e35 => (w_idx t0 eEntry rfl · · · slT42 (gv (aT e34 e35)) (gv (aT e34 e35)) (orT e36 (aT e34 e35)))) ?_
  refine rI 36 (.d (.dp (eEntry (rd t0 (IntKind.wrap .i64 (t7 - 1)))))) rfl rfl (fun e37 e38 => (vD (eEntry (rd t0 (IntKind.wrap .i64 (t7 - 1)))) fo116_0 · · · rfl (gv (aT e37 e38)))) ?_
  refine rI 37 (sV (rd t0 (IntKind.wrap .i64 (t7 - 1))).mKey) rfl rfl (fun e39 e40 => (vl rfl onT9 (gv (aT e39 e40)) rfl)) ?_
  refine rI 38 (.ptr 4 0) rfl rfl (fun e41 e42 => (v_field_box (off := 0) (a0 := 0) rfl · · · fo116_0 rfl)) ?_
  refine rI 39 (sV (rd t0 t7).mKey) rfl rfl (fun e43 e44 => (v_load_box1 (id := 4) (off := 0) rfl · · · onT9 (gv (aT e43 e44)) rfl (ble _ _ rfl) rfl)) ?_
  obtain ⟨t40, c47, h⟩ := bpos h
  refine rI 40 (iV t40) rfl rfl (fun e45 e46 => (vC (s124 k (rd t0 (IntKind.wrap .i64 (t7 - 1))).mKey (rd t0 t7).mKey _ (cpos (aT e45 e46) c47)) en124 · · · rfl (cc (gv (aT e45 e46)) (cc (gv (aT e45 e46)) rfl)) rfl)) ?_
  refine rI 41 (bV (leI 0 t40)) rfl rfl (fun e48 e49 => (vb rfl (gv (aT e48 e49)) rfl (b_geq rfl))) ?_
  refine rF 42 (bV ((ltI 0 t7) && (leI 0 t40))) rfl rfl (fun e50 => (vp rfl (gv (nF e50)) (fun e51 => (gv (aT (nF e50) e51))) (fun e52 => rfl) (pA _ _))) ?_
  refine rT 43 (bV ((((!t14) || (!t19)) || (eqI ((rd t0 t7).mChain.length : Int) 0)) || ((ltI 0 t7) && (leI 0 t40)))) rfl (vp rfl rfl (fun e53 => rfl) (fun e54 => (gv (nF e54))) (pO _ _)) ?_
  refine rg_nil ⟨by kernel_rfl, ?_⟩
  refine ht_cond rfl (fun e55 => ?_) (fun e55 => ?_)
  ·replace h := cpos e55 h
   refine sr ?_
   refine sM 2 (bV false) rfl rfl ?_
   refine sz ?_
   cases h
   cases r5 _ rfl
   exact ret1 rfl (.tmp rfl)
  replace h := cneg e55 h
  refine ht_skip ?_
  refine ht_region ?_
  refine sT 44 (iV (IntKind.wrap .i64 (t7 + 1))) rfl (vb rfl rfl rfl (b_add rfl)) ?_
  refine sM 7 (iV (IntKind.wrap .i64 (t7 + 1))) rfl rfl ?_
  refine sq_nil ?_
  exact j7 _ _ h (wi rfl rfl)
 replace h := cneg e9 h
 refine ht_exit ?_
 refine tq ?_
 refine tq ?_
 refine bq_hit ?_
 cases h
 exact j4 _ _ rfl (wi rfl rfl)
theorem s137 (k : Nat) (t0 : Int) (r : Bool) (h : F137 k t0 = some r) : Awp.Spec Tryz.prog amb 137 [(.s (.int .i64 t0))] (.ds [(.s (.bool r))]) := by
 rw [F137] at h
 refine spec_of Tryz.func137 rfl (ble _ _ rfl) fun w0 ok0 lt0 hA => ?_
 refine sr ?_
 refine sM 2 (bV false) rfl rfl ?_
 refine sq_nil ?_
 refine sr ?_
 refine sM 3 (iV t0) rfl rfl ?_
 refine sT 4 (bV (leI 1 t0)) rfl (vb rfl rfl rfl (b_geq rfl)) ?_
 refine sM 5 (bV (leI 1 t0)) rfl rfl ?_
 refine sG 6 (iV t0) rfl rfl (fun e1 => (vm rfl rfl)) ?_
 refine sG 7 (bV (leI t0 1099511627776)) rfl rfl (fun e2 => (vb rfl (gv e2) rfl (b_leq rfl))) ?_
 refine sT 8 (bV ((leI 1 t0) && (leI t0 1099511627776))) rfl (vp rfl rfl (fun e3 => (gv e3)) (fun e4 => rfl) (pA _ _)) ?_
 refine sM 2 (bV ((leI 1 t0) && (leI t0 1099511627776))) rfl rfl ?_
 refine sz ?_
 cases h
 exact ret1 rfl (.tmp rfl)
theorem s138 (k : Nat) (t0 : Answer) (r : Bool) (h : F138 k t0 = some r) : Awp.Spec Tryz.prog amb 138 [(.agg (eAnswer t0))] (.ds [(.s (.bool r))]) := by
 rw [F138] at h
 refine spec_of Tryz.func138 rfl (ble _ _ rfl) fun w0 ok0 lt0 hA => ?_
 refine sr ?_
 refine sT 1 (.d (.dp (eAnswer t0))) rfl (v_box_d (cs := (eAnswer t0)) rfl · · · rfl rfl (ones_of rfl)) ?_
 refine sM 2 (bV false) rfl rfl ?_
 refine sq_nil ?_
 refine sr ?_
 refine sD 3 (eAnswer t0) fo34_0 rfl rfl rfl ?_
 refine sT 4 (iV t0.mErr) rfl (vl rfl onT31 rfl rfl) ?_
 refine sT 5 (bV (leI 0 t0.mErr)) rfl (vb rfl rfl rfl (b_geq rfl)) ?_
 refine sM 6 (bV (leI 0 t0.mErr)) rfl rfl ?_
 refine sG 7 (.d (.dp (eAnswer t0))) rfl rfl (fun e1 => (vD (eAnswer t0) fo34_0 · · · rfl rfl)) ?_
 refine sG 8 (iV t0.mErr) rfl rfl (fun e2 => (vl rfl onT31 (gv e2) rfl)) ?_
 refine sG 9 (bV (leI t0.mErr 16)) rfl rfl (fun e3 => (vb rfl (gv e3) rfl (b_leq rfl))) ?_
 refine sT 10 (bV ((leI 0 t0.mErr) && (leI t0.mErr 16))) rfl (vp rfl rfl (fun e4 => (gv e4)) (fun e5 => rfl) (pA _ _)) ?_
 refine sM 11 (bV ((leI 0 t0.mErr) && (leI t0.mErr 16))) rfl rfl ?_
 refine sG 12 (.d (.dp (List.drop 1 (eAnswer t0)))) rfl rfl (fun e6 => (vD (eAnswer t0) fo34_1 · · · rfl rfl)) ?_
 refine sG 13 (.d (.agg (eStamp t0.mAt))) rfl rfl (fun e7 => (w_ldp (List.drop 1 (eAnswer t0)) (eStamp t0.mAt) rfl · · · ag24 (gv e7) (ble _ _ rfl) rfl)) ?_
 obtain ⟨t14, c9, h⟩ := bpos h
 refine sG 14 (bV t14) rfl rfl (fun e8 => (vC (s36 k t0.mAt _ (cpos e8 c9)) en36 · · · rfl (cc (gv e8) rfl) rfl)) ?_
 refine sT 15 (bV (((leI 0 t0.mErr) && (leI t0.mErr 16)) && t14)) rfl (vp rfl rfl (fun e10 => (gv e10)) (fun e11 => rfl) (pA _ _)) ?_
 refine sM 16 (bV (((leI 0 t0.mErr) && (leI t0.mErr 16)) && t14)) rfl rfl ?_
 refine sG 17 (.d (.dp (List.drop 5 (eAnswer t0)))) rfl rfl (fun e12 => (vD (eAnswer t0) fo34_3 · · · rfl rfl)) ?_
 refine sG 18 (sV t0.mValue) rfl rfl (fun e13 => (vl rfl onT9 (gv e13) rfl)) ?_
 refine sG 19 (iV (t0.mValue.size : Int)) rfl rfl (fun e14 => (v_len_str rfl rfl · · · und9 (gv e14))) ?_
 refine sG 20 (bV (leI (t0.mValue.size : Int) 16)) rfl rfl (fun e15 => (vb rfl (gv e15) rfl (b_leq rfl))) ?_
 refine sT 21 (bV ((((leI 0 t0.mErr) && (leI t0.mErr 16)) && t14) && (leI (t0.mValue.size : Int) 16))) rfl (vp rfl rfl (fun e16 => (gv e16)) (fun e17 => rfl) (pA _ _)) ?_
 refine sM 22 (bV ((((leI 0 t0.mErr) && (leI t0.mErr 16)) && t14) && (leI (t0.mValue.size : Int) 16))) rfl rfl ?_
 refine sG 23 (.d (.dp (List.drop 6 (eAnswer t0)))) rfl rfl (fun e18 => (vD (eAnswer t0) fo34_4 · · · rfl rfl)) ?_
 refine sG 24 (.d (.sl 2 (t0.mItems.map eItem))) rfl rfl (fun e19 => (vl rfl onT32 (gv e19) rfl)) ?_
 refine sG 25 (iV (t0.mItems.length : Int)) rfl rfl (fun e20 => (w_len t0.mItems eItem rfl rfl · · · slT32 (gv e20))) ?_
 refine sG 26 (bV (eqI (t0.mItems.length : Int) 0)) rfl rfl (fun e21 => (vb rfl (gv e21) rfl (b_eql rfl))) ?_
 refine sT 27 (bV (((((leI 0 t0.mErr) && (leI t0.mErr 16)) && t14) && (leI (t0.mValue.size : Int) 16)) && (eqI (t0.mItems.length : Int) 0))) rfl (vp rfl rfl (fun e22 => (gv e22)) (fun e23 => rfl) (pA _ _)) ?_
 refine sM 28 (bV (((((leI 0 t0.mErr) && (leI t0.mErr 16)) && t14) && (leI (t0.mValue.size : Int) 16)) && (eqI (t0.mItems.length : Int) 0))) rfl rfl ?_
 refine sG 29 (.d (.dp (List.drop 7 (eAnswer t0)))) rfl rfl (fun e24 => (vD (eAnswer t0) fo34_5 · · · rfl rfl)) ?_
 refine sG 30 (sV t0.mNext) rfl rfl (fun e25 => (vl rfl onT9 (gv e25) rfl)) ?_
 refine sG 31 (bV (strEq t0.mNext (⟨#[]⟩ : ByteArray))) rfl rfl (fun e26 => (vb rfl (gv e26) rfl (b_eqS rfl))) ?_
 refine sT 32 (bV ((((((leI 0 t0.mErr) && (leI t0.mErr 16)) && t14) && (leI (t0.mValue.size : Int) 16)) && (eqI (t0.mItems.length : Int) 0)) && (strEq t0.mNext (⟨#[]⟩ : ByteArray)))) rfl (vp rfl rfl (fun e27 => (gv e27)) (fun e28 => rfl) (pA _ _)) ?_
 refine sM 33 (bV ((((((leI 0 t0.mErr) && (leI t0.mErr 16)) && t14) && (leI (t0.mValue.size : Int) 16)) && (eqI (t0.mItems.length : Int) 0)) && (strEq t0.mNext (⟨#[]⟩ : ByteArray)))) rfl rfl ?_
 refine sG 34 (.d (.dp (List.drop 8 (eAnswer t0)))) rfl rfl (fun e29 => (vD (eAnswer t0) fo34_6 · · · rfl rfl)) ?_
 refine sG 35 (bV t0.mMore) rfl rfl (fun e30 => (vl rfl onT4 (gv e30) rfl)) ?_
 refine sG 36 (bV (!t0.mMore)) rfl rfl (fun e31 => (vu rfl (gv e31) (u_not rfl))) ?_
 refine sT 37 (bV (((((((leI 0 t0.mErr) && (leI t0.mErr 16)) && t14) && (leI (t0.mValue.size : Int) 16)) && (eqI (t0.mItems.length : Int) 0)) && (strEq t0.mNext (⟨#[]⟩ : ByteArray))) && (!t0.mMore))) rfl (vp rfl rfl (fun e32 => (gv e32)) (fun e33 => rfl) (pA _ _)) ?_
 refine sM 2 (bV (((((((leI 0 t0.mErr) && (leI t0.mErr 16)) && t14) && (leI (t0.mValue.size : Int) 16)) && (eqI (t0.mItems.length : Int) 0)) && (strEq t0.mNext (⟨#[]⟩ : ByteArray))) && (!t0.mMore))) rfl rfl ?_
 refine sz ?_
 cases h
 exact ret1 rfl (.tmp rfl)
theorem s82 (k : Nat) (t0 : List Done) (r : Bool) (h : F82 k t0 = some r) : Awp.Spec Tryz.prog amb 82 [(.sl 11 (t0.map eDone))] (.ds [(.s (.bool r))]) := by
 rw [F82] at h
 refine spec_of Tryz.func82 rfl (ble _ _ rfl) fun w0 ok0 lt0 hA => ?_
 refine sr ?_
 refine sM 2 (bV false) rfl rfl ?_
 refine sq_nil ?_
 refine sr ?_
 refine sM 3 (iV 0) rfl rfl ?_
 refine sq_nil ?_
 refine ht_gj (go_id' h) (fun _ => tell [(.t 0, .d (.sl 11 (t0.map eDone)))]) (fun _ h => ?_) (fun v1 K2 h j4 r5 => ?_)
 ·refine sr ?_
  refine sM 37 (.d (.sl 11 (t0.map eDone))) rfl rfl ?_
  refine sT 38 (iV (t0.length : Int)) rfl (w_len t0 eDone rfl rfl · · · slT43 rfl) ?_
  refine sT 39 (bV (leI (t0.length : Int) 8)) rfl (vb rfl rfl rfl (b_leq rfl)) ?_
  refine sM 2 (bV (leI (t0.length : Int) 8)) rfl rfl ?_
  refine sz ?_
  cases h
  exact ret1 rfl (.tmp rfl)
 refine sr ?_
 refine sM 6 (.d (.sl 11 (t0.map eDone))) rfl rfl ?_
 refine sT 7 (iV (t0.length : Int)) rfl (w_len t0 eDone rfl rfl · · · slT43 rfl) ?_
 refine sM 8 (iV 0) rfl rfl ?_
 refine sq_nil ?_
 refine ht_block ?_
 refine ht_rd h (fun _ => rfl) (fun (t3, t8) => tell [(.t 0, .d (.sl 11 (t0.map eDone))), (.t 3, iV t3), (.t 6, .d (.sl 11 (t0.map eDone))), (.t 7, iV (t0.length : Int)), (.t 8, iV t8)]) (wi rfl rfl) fun k v8 h K33 j7 => ?_
 obtain ⟨t3, t8⟩ := v8
 rw [F82_l1] at h
 refine sr ?_
 refine sT 9 (bV (ltI t8 (t0.length : Int))) rfl (vb rfl rfl rfl (b_lss rfl)) ?_
 refine sq_nil ?_
 refine ht_seq ?_
 refine ht_cond rfl (fun e9 => ?_) (fun e9 => ?_)
 ·replace h := cpos e9 h
  refine ht_skip ?_
  refine ht_seq ?_
  refine ht_block ?_
  refine sr ?_
  obtain ⟨e10, h⟩ := gpos h
  refine sT 10 (.d (.dp (eDone (rd t0 t8)))) rfl (w_idx t0 eDone rfl · · · slT43 rfl rfl e10) ?_
  refine sP 11 (eDone (rd t0 t8)) (eDone (rd t0 t8)) ag100 rfl rfl rfl rfl rfl ?_
  refine sq_cons _ (v_alloc (id := 5) (cs := zc100) rfl trivial rfl (ble _ _ rfl) zu100 rfl ft100 rfl) ?_
  refine sS 5 0 ((eDone (rd t0 t8)).map V.d) sz100 rfl rfl rfl rfl rfl (ones_of rfl) rfl ?_
  refine sq_nil ?_
  refine ht_seq ?_
  refine sr ?_
  refine sT 12 (.ptr 5 0) rfl (v_field_box (off := 0) (a0 := 0) rfl · · · fo100_0 rfl) ?_
  refine sT 13 (iV (rd t0 t8).mClient) rfl (v_load_box1 (id := 5) (off := 0) rfl · · · onT3 rfl rfl (ble _ _ rfl) rfl) ?_
  refine sM 14 (iV t3) rfl rfl ?_
  refine sT 15 (bV (leI (rd t0 t8).mClient t3)) rfl (vb rfl rfl rfl (b_leq rfl)) ?_
  refine sM 16 (bV (leI (rd t0 t8).mClient t3)) rfl rfl ?_
  refine sF 17 (.ptr 5 0) rfl rfl (fun e11 => (v_field_box (off := 0) (a0 := 0) rfl · · · fo100_0 rfl)) ?_
  refine sF 18 (iV (rd t0 t8).mClient) rfl rfl (fun e12 => (v_load_box1 (id := 5) (off := 0) rfl · · · onT3 (gv (nF e12)) rfl (ble _ _ rfl) rfl)) ?_
  obtain ⟨t19, c14, h⟩ := bpos h
  refine sF 19 (bV t19) rfl rfl (fun e13 => (vC (s137 k (rd t0 t8).mClient _ (cpos (nF e13) c14)) en137 · · · rfl (cc (gv (nF e13)) rfl) rfl)) ?_
  refine sF 20 (bV (!t19)) rfl rfl (fun e15 => (vu rfl (gv (nF e15)) (u_not rfl))) ?_
  refine sT 21 (bV ((leI (rd t0 t8).mClient t3) || (!t19))) rfl (vp rfl rfl (fun e16 => rfl) (fun e17 => (gv (nF e17))) (pO _ _)) ?_
  refine sM 22 (bV ((leI (rd t0 t8).mClient t3) || (!t19))) rfl rfl ?_
  refine sF 23 (.ptr 5 1) rfl rfl (fun e18 => (v_field_box (off := 0) (a0 := 1) rfl · · · fo100_1 rfl)) ?_
  refine sF 24 (iV (rd t0 t8).mReq) rfl rfl (fun e19 => (v_load_box1 (id := 5) (off := 1) rfl · · · onT3 (gv (nF e19)) rfl (ble _ _ rfl) rfl)) ?_
  obtain ⟨t25, c21, h⟩ := bpos h
  refine sF 25 (bV t25) rfl rfl (fun e20 => (vC (s137 k (rd t0 t8).mReq _ (cpos (nF e20) c21)) en137 · · · rfl (cc (gv (nF e20)) rfl) rfl)) ?_
  refine sF 26 (bV (!t25)) rfl rfl (fun e22 => (vu rfl (gv (nF e22)) (u_not rfl))) ?_
  refine sT 27 (bV (((leI (rd t0 t8).mClient t3) || (!t19)) || (!t25))) rfl (vp rfl rfl (fun e23 => rfl) (fun e24 => (gv (nF e24))) (pO _ _)) ?_
  refine sM 28 (bV (((leI (rd t0 t8).mClient t3) || (!t19)) || (!t25))) rfl rfl ?_
  refine sF 29 (.ptr 5 2) rfl rfl (fun e25 => (v_field_box (off := 0) (a0 := 2) rfl · · · fo100_2 rfl)) ?_
  refine sF 30 (.d (.agg (eAnswer (rd t0 t8).mAnswer))) rfl rfl (fun e26 => (w_ldb 5 2 rfl · · · ag34 (gv (nF e26)) rfl (ble _ _ rfl) rfl)) ?_
  obtain ⟨t31, c28, h⟩ := bpos h
  refine sF 31 (bV t31) rfl rfl (fun e27 => (vC (s138 k (rd t0 t8).mAnswer _ (cpos (nF e27) c28)) en138 · · · rfl (cc (gv (nF e27)) rfl) rfl)) ?_
  refine sF 32 (bV (!t31)) rfl rfl (fun e29 => (vu rfl (gv (nF e29)) (u_not rfl))) ?_
  refine sT 33 (bV ((((leI (rd t0 t8).mClient t3) || (!t19)) || (!t25)) || (!t31))) rfl (vp rfl rfl (fun e30 => rfl) (fun e31 => (gv (nF e31))) (pO _ _)) ?_
  refine sq_nil ?_
  refine ht_cond rfl (fun e32 => ?_) (fun e32 => ?_)
  ·replace h := cpos e32 h
   refine sr ?_
   refine sM 2 (bV false) rfl rfl ?_
   refine sz ?_
   cases h
   cases r5 _ rfl
   exact ret1 rfl (.tmp rfl)
  replace h := cneg e32 h
  refine ht_skip ?_
  refine ht_region ?_
  refine sT 34 (.ptr 5 0) rfl (v_field_box (off := 0) (a0 := 0) rfl · · · fo100_0 rfl) ?_
  refine sT 35 (iV (rd t0 t8).mClient) rfl (v_load_box1 (id := 5) (off := 0) rfl · · · onT3 rfl rfl (ble _ _ rfl) rfl) ?_
  refine sM 3 (iV (rd t0 t8).mClient) rfl rfl ?_
  refine sq_nil ?_
  refine ht_region ?_
  refine sT 36 (iV (IntKind.wrap .i64 (t8 + 1))) rfl (vb rfl rfl rfl (b_add rfl)) ?_
  refine sM 8 (iV (IntKind.wrap .i64 (t8 + 1))) rfl rfl ?_
  refine sq_nil ?_
  exact j7 _ _ h (wi rfl rfl)
 replace h := cneg e9 h
 refine ht_exit ?_
 refine tq ?_
 refine tq ?_
 refine bq_hit ?_
 cases h
 exact j4 _ _ rfl (wi rfl rfl)
theorem s61 (k : Nat) (t0 : Span) (t1 : ByteArray) (r : Bool) (h : F61 k t0 t1 = some r) : Awp.Spec Tryz.prog amb 61 [(.agg (eSpan t0)), (.s (.string t1))] (.ds [(.s (.bool r))]) := by
 rw [F61] at h
 refine spec_of Tryz.func61 rfl (ble _ _ rfl) fun w0 ok0 lt0 hA => ?_
 refine sr ?_
 refine sT 2 (.d (.dp (eSpan t0))) rfl (v_box_d (cs := (eSpan t0)) rfl · · · rfl rfl (ones_of rfl)) ?_
 refine sM 4 (bV false) rfl rfl ?_
 refine sq_nil ?_
 refine sr ?_
 refine sP 5 (eSpan t0) (eSpan t0) ag41 rfl rfl rfl rfl rfl ?_
 obtain ⟨t6, c1, h⟩ := bpos h
 refine sC 6 (bV t6) (s80 k t0 _ c1) en80 rfl rfl rfl rfl ?_
 refine sM 7 (bV t6) rfl rfl ?_
 refine sG 8 (sV t1) rfl rfl (fun e2 => (vm rfl rfl)) ?_
 obtain ⟨t9, c4, h⟩ := bpos h
 refine sG 9 (bV t9) rfl rfl (fun e3 => (vC (s122 k t1 _ (cpos e3 c4)) en122 · · · rfl (cc (gv e3) rfl) rfl)) ?_
 refine sT 10 (bV (t6 && t9)) rfl (vp rfl rfl (fun e5 => (gv e5)) (fun e6 => rfl) (pA _ _)) ?_
 refine sM 11 (bV (t6 && t9)) rfl rfl ?_
 refine sG 12 (.d (.dp (eSpan t0))) rfl rfl (fun e7 => (vD (eSpan t0) fo41_0 · · · rfl rfl)) ?_
 refine sG 13 (sV t0.mLo) rfl rfl (fun e8 => (vl rfl onT9 (gv e8) rfl)) ?_
 refine sG 14 (sV t1) rfl rfl (fun e9 => (vm rfl rfl)) ?_
 obtain ⟨t15, c11, h⟩ := bpos h
 refine sG 15 (iV t15) rfl rfl (fun e10 => (vC (s124 k t0.mLo t1 _ (cpos e10 c11)) en124 · · · rfl (cc (gv e10) (cc (gv e10) rfl)) rfl)) ?_
 refine sG 16 (bV (leI t15 0)) rfl rfl (fun e12 => (vb rfl (gv e12) rfl (b_leq rfl))) ?_
 refine sT 17 (bV ((t6 && t9) && (leI t15 0))) rfl (vp rfl rfl (fun e13 => (gv e13)) (fun e14 => rfl) (pA _ _)) ?_
 refine sM 18 (bV ((t6 && t9) && (leI t15 0))) rfl rfl ?_
 refine sG 19 (.d (.dp (List.drop 1 (eSpan t0)))) rfl rfl (fun e15 => (vD (eSpan t0) fo41_1 · · · rfl rfl)) ?_
 refine sG 20 (sV t0.mHi) rfl rfl (fun e16 => (vl rfl onT9 (gv e16) rfl)) ?_
 refine sG 21 (bV (strEq t0.mHi (⟨#[]⟩ : ByteArray))) rfl rfl (fun e17 => (vb rfl (gv e17) rfl (b_eqS rfl))) ?_
 refine sG 22 (bV (strEq t0.mHi (⟨#[]⟩ : ByteArray))) rfl rfl (fun e18 => (vm rfl (gv e18))) ?_
 refine sH 23 (sV t1) rfl rfl (fun e19 e20 => (vm rfl rfl)) ?_
 refine sH 24 (.d (.dp (List.drop 1 (eSpan t0)))) rfl rfl (fun e21 e22 => (vD (eSpan t0) fo41_1 · · · rfl rfl)) ?_
 refine sH 25 (sV t0.mHi) rfl rfl (fun e23 e24 => (vl rfl onT9 (gv (aT e23 (nF e24))) rfl)) ?_
 obtain ⟨t26, c27, h⟩ := bpos h
 refine sH 26 (iV t26) rfl rfl (fun e25 e26 => (vC (s124 k t1 t0.mHi _ (cpos (aT e25 (nF e26)) c27)) en124 · · · rfl (cc (gv (aT e25 (nF e26))) (cc (gv (aT e25 (nF e26))) rfl)) rfl)) ?_
 refine sH 27 (bV (ltI t26 0)) rfl rfl (fun e28 e29 => (vb rfl (gv (aT e28 (nF e29))) rfl (b_lss rfl))) ?_
 refine sG 28 (bV ((strEq t0.mHi (⟨#[]⟩ : ByteArray)) || (ltI t26 0))) rfl rfl (fun e30 => (vp rfl (gv e30) (fun e31 => rfl) (fun e32 => (gv (aT e30 (nF e32)))) (pO _ _))) ?_
 refine sT 29 (bV (((t6 && t9) && (leI t15 0)) && ((strEq t0.mHi (⟨#[]⟩ : ByteArray)) || (ltI t26 0)))) rfl (vp rfl rfl (fun e33 => (gv e33)) (fun e34 => rfl) (pA _ _)) ?_
 refine sM 4 (bV (((t6 && t9) && (leI t15 0)) && ((strEq t0.mHi (⟨#[]⟩ : ByteArray)) || (ltI t26 0)))) rfl rfl ?_
 refine sz ?_
 cases h
 exact ret1 rfl (.tmp rfl)
theorem s84 (k : Nat) (t0 : Entry) (t1 : Shard) (r : Bool) (h : F84 k t0 t1 = some r) : Awp.Spec Tryz.prog amb 84 [(.agg (eEntry t0)), (.dp (eShard t1))] (.ds [(.s (.bool r))]) := by
 rw [F84] at h
 refine spec_of Tryz.func84 rfl (ble _ _ rfl) fun w0 ok0 lt0 hA => ?_
 refine sr ?_
 refine sT 2 (.d (.dp (eEntry t0))) rfl (v_box_d (cs := (eEntry t0)) rfl · · · rfl rfl (ones_of rfl)) ?_
 refine sM 3 (bV false) rfl rfl ?_
 refine sq_nil ?_
 refine sr ?_
 refine sD 4 (eShard t1) fo45_2 rfl rfl rfl ?_
 refine sP 5 (List.drop 2 (eShard t1)) (eSpan t1.mSpan) ag41 rfl rfl rfl rfl rfl ?_
 refine sD 6 (eEntry t0) fo116_0 rfl rfl rfl ?_
 refine sT 7 (sV t0.mKey) rfl (vl rfl onT9 rfl rfl) ?_
 obtain ⟨t8, c1, h⟩ := bpos h
 refine sC 8 (bV t8) (s61 k t1.mSpan t0.mKey _ c1) en61 rfl rfl rfl rfl ?_
 refine sT 9 (bV (!t8)) rfl (vu rfl rfl (u_not rfl)) ?_
 refine sM 3 (bV (!t8)) rfl rfl ?_
 refine sz ?_
 cases h
 exact ret1 rfl (.tmp rfl)
theorem s139_84 (k : Nat) (t0 : List Entry) (t1u0 : Shard) (r : Int) (h : F139_84 k t0 t1u0 = some r) : Awp.Spec Tryz.prog amb 139 [(.sl 2 (t0.map eEntry)), (.fn 84 [(.dp (eShard t1u0))])] (.ds [(.s (.int .i64 r))]) := by
 rw [F139_84] at h
 refine spec_of Tryz.func139 rfl (ble _ _ rfl) fun w0 ok0 lt0 hA => ?_
 refine sr ?_
 refine sM 4 (iV 0) rfl rfl ?_
 refine sq_nil ?_
 refine ht_gj (go_id' h) (fun _ => tell []) (fun _ h => ?_) (fun v1 K2 h j4 r5 => ?_)
 ·refine sr ?_
  refine sM 4 (iV (-1)) rfl rfl ?_
  refine sz ?_
  cases h
  exact ret1 rfl (.tmp rfl)
 refine sr ?_
 refine sM 6 (.d (.sl 2 (t0.map eEntry))) rfl rfl ?_
 refine sT 7 (iV (t0.length : Int)) rfl (w_len t0 eEntry rfl rfl · · · slT42 rfl) ?_
 refine sM 8 (iV 0) rfl rfl ?_
 refine sq_nil ?_
 refine ht_block ?_
 refine ht_rd h (fun _ => rfl) (fun t8 => tell [(.t 0, .d (.sl 2 (t0.map eEntry))), (.t 1, .d (.fn 84 [(.dp (eShard t1u0))])), (.t 7, iV (t0.length : Int)), (.t 8, iV t8)]) (wi rfl rfl) fun k t8 h K13 j7 => ?_
 rw [F139_84_l1] at h
 refine sr ?_
 refine sT 9 (bV (ltI t8 (t0.length : Int))) rfl (vb rfl rfl rfl (b_lss rfl)) ?_
 refine sq_nil ?_
 refine ht_seq ?_
 refine ht_cond rfl (fun e9 => ?_) (fun e9 => ?_)
 ·replace h := cpos e9 h
  refine ht_skip ?_
  refine ht_seq ?_
  refine ht_block ?_
  refine sr ?_
  refine sM 10 (iV t8) rfl rfl ?_
  refine sM 5 (iV t8) rfl rfl ?_
  refine sq_nil ?_
  refine sr ?_
  refine sM 11 (.d (.fn 84 [(.dp (eShard t1u0))])) rfl rfl ?_
  refine sM 12 (.d (.sl 2 (t0.map eEntry))) rfl rfl ?_
  refine sM 13 (iV t8) rfl rfl ?_
  obtain ⟨e10, h⟩ := gpos h
  refine sT 14 (.d (.dp (eEntry (rd t0 t8)))) rfl (w_idx t0 eEntry rfl · · · slT42 rfl rfl e10) ?_
  refine sP 15 (eEntry (rd t0 t8)) (eEntry (rd t0 t8)) ag116 rfl rfl rfl rfl rfl ?_
  obtain ⟨t16, c11, h⟩ := bpos h
  refine sT 16 (bV t16) rfl (w_call (ds := [(.agg (eEntry (rd t0 t8)))]) (caps := [(.dp (eShard t1u0))]) (l := [(.s (.bool t16))]) (s84 k (rd t0 t8) t1u0 _ c11) rfl rfl rfl en84 · · · (.inr rfl) rfl rfl) ?_
  refine sq_nil ?_
  refine ht_cond rfl (fun e12 => ?_) (fun e12 => ?_)
  ·replace h := cpos e12 h
   refine sr ?_
   refine sM 17 (iV t8) rfl rfl ?_
   refine sM 4 (iV t8) rfl rfl ?_
   refine sz ?_
   cases h
   cases r5 _ rfl
   exact ret1 rfl (.tmp rfl)
  replace h := cneg e12 h
  refine ht_skip ?_
  refine ht_region ?_
  refine sT 18 (iV (IntKind.wrap .i64 (t8 + 1))) rfl (vb rfl rfl rfl (b_add rfl)) ?_
  refine sM 8 (iV (IntKind.wrap .i64 (t8 + 1))) rfl rfl ?_
  refine sq_nil ?_
  exact j7 _ _ h (wi rfl rfl)
 replace h := cneg e9 h
 refine ht_exit ?_
 refine tq ?_
 refine tq ?_
 refine bq_hit ?_
 cases h
 exact j4 _ _ rfl (wi rfl rfl)
theorem s83_84 (k : Nat) (t0 : List Entry) (t1u0 : Shard) (r : Bool) (h : F83_84 k t0 t1u0 = some r) : Awp.Spec Tryz.prog amb 83 [(.sl 2 (t0.map eEntry)), (.fn 84 [(.dp (eShard t1u0))])] (.ds [(.s (.bool r))]) := by
 rw [F83_84] at h
 refine spec_of Tryz.func83 rfl (ble _ _ rfl) fun w0 ok0 lt0 hA => ?_
 refine sr ?_
 refine sM 4 (bV false) rfl rfl ?_
 refine sq_nil ?_
 refine sr ?_
 refine sM 5 (.d (.sl 2 (t0.map eEntry))) rfl rfl ?_
 refine sM 6 (.d (.fn 84 [(.dp (eShard t1u0))])) rfl rfl ?_
 obtain ⟨t7, c1, h⟩ := bpos h
 refine sC 7 (iV t7) (s139_84 k t0 t1u0 _ c1) en139 rfl rfl rfl rfl ?_
 refine sT 8 (bV (leI 0 t7)) rfl (vb rfl rfl rfl (b_geq rfl)) ?_
 refine sM 4 (bV (leI 0 t7)) rfl rfl ?_
 refine sz ?_
 cases h
 exact ret1 rfl (.tmp rfl)
theorem s20 (k : Nat) (t0 : Shard) (r : Bool) (h : F20 k t0 = some r) : Awp.Spec Tryz.prog amb 20 [(.agg (eShard t0))] (.ds [(.s (.bool r))]) := by
 rw [F20] at h
 refine spec_of Tryz.func20 rfl (ble _ _ rfl) fun w0 ok0 lt0 hA => ?_
 refine sr ?_
 refine sT 1 (.d (.dp (eShard t0))) rfl (v_box_d (cs := (eShard t0)) rfl · · · rfl rfl (ones_of rfl)) ?_
 refine sM 2 (bV false) rfl rfl ?_
 refine sq_nil ?_
 refine ht_seq ?_
 refine sr ?_
 refine sD 3 (eShard t0) fo45_0 rfl rfl rfl ?_
 refine sT 4 (iV t0.mID) rfl (vl rfl onT3 rfl rfl) ?_
 refine sD 5 (eShard t0) fo45_1 rfl rfl rfl ?_
 refine sT 6 (iV t0.mEpoch) rfl (vl rfl onT3 rfl rfl) ?_
 refine sT 7 (.d (.sl 1 (([t0.mID, t0.mEpoch]).map (eI .i64)))) rfl (w_bsl_d [(0, iV t0.mID), (1, iV t0.mEpoch)] [t0.mID, t0.mEpoch] (eI .i64) rfl · · · slT148 zr3 (encI .i64) (ble _ _ rfl) rfl (by kernel_rfl) rfl rfl (by kernel_rfl)) ?_
 obtain ⟨t8, c1, h⟩ := bpos h
 refine sC 8 (bV t8) (s57 k 1 ([t0.mID, t0.mEpoch]) _ c1) en57 rfl rfl rfl rfl ?_
 refine sT 9 (bV (!t8)) rfl (vu rfl rfl (u_not rfl)) ?_
 refine sM 10 (bV (!t8)) rfl rfl ?_
 refine sF 11 (.d (.dp (List.drop 13 (eShard t0)))) rfl rfl (fun e2 => (vD (eShard t0) fo45_8 · · · rfl rfl)) ?_
 refine sF 12 (iV t0.mHold) rfl rfl (fun e3 => (vl rfl onT3 (gv (nF e3)) rfl)) ?_
 refine sF 13 (.d (.dp (List.drop 14 (eShard t0)))) rfl rfl (fun e4 => (vD (eShard t0) fo45_9 · · · rfl rfl)) ?_
 refine sF 14 (iV t0.mSeen) rfl rfl (fun e5 => (vl rfl onT3 (gv (nF e5)) rfl)) ?_
 refine sF 15 (.d (.dp (List.drop 15 (eShard t0)))) rfl rfl (fun e6 => (vD (eShard t0) fo45_10 · · · rfl rfl)) ?_
 refine sF 16 (iV t0.mMove) rfl rfl (fun e7 => (vl rfl onT3 (gv (nF e7)) rfl)) ?_
 refine sF 17 (.d (.dp (List.drop 16 (eShard t0)))) rfl rfl (fun e8 => (vD (eShard t0) fo45_11 · · · rfl rfl)) ?_
 refine sF 18 (iV t0.mClosed) rfl rfl (fun e9 => (vl rfl onT3 (gv (nF e9)) rfl)) ?_
 refine sF 19 (.d (.sl 1 (([t0.mHold, t0.mSeen, t0.mMove, t0.mClosed]).map (eI .i64)))) rfl rfl (fun e10 => (w_bsl_d [(0, iV t0.mHold), (1, iV t0.mSeen), (2, iV t0.mMove), (3, iV t0.mClosed)] [t0.mHold, t0.mSeen, t0.mMove, t0.mClosed] (eI .i64) rfl · · · slT148 zr3 (encI .i64) (ble _ _ rfl) (cc (pr (gv (nF e10))) (cc (pr (gv (nF e10))) (cc (pr (gv (nF e10))) (cc (pr (gv (nF e10))) rfl)))) (by kernel_rfl) rfl rfl (by kernel_rfl))) ?_
 obtain ⟨t20, c12, h⟩ := bpos h
 refine sF 20 (bV t20) rfl rfl (fun e11 => (vC (s57 k 0 ([t0.mHold, t0.mSeen, t0.mMove, t0.mClosed]) _ (cpos (nF e11) c12)) en57 · · · rfl (cc rfl (cc (gv (nF e11)) rfl)) rfl)) ?_
 refine sF 21 (bV (!t20)) rfl rfl (fun e13 => (vu rfl (gv (nF e13)) (u_not rfl))) ?_
 refine sT 22 (bV ((!t8) || (!t20))) rfl (vp rfl rfl (fun e14 => rfl) (fun e15 => (gv (nF e15))) (pO _ _)) ?_
 refine sM 23 (bV ((!t8) || (!t20))) rfl rfl ?_
 refine sF 24 (.d (.dp (List.drop 4 (eShard t0)))) rfl rfl (fun e16 => (vD (eShard t0) fo45_3 · · · rfl rfl)) ?_
 refine sF 25 (iV t0.mPhase) rfl rfl (fun e17 => (vl rfl onT3 (gv (nF e17)) rfl)) ?_
 refine sF 26 (bV (ltI t0.mPhase 1)) rfl rfl (fun e18 => (vb rfl (gv (nF e18)) rfl (b_lss rfl))) ?_
 refine sT 27 (bV (((!t8) || (!t20)) || (ltI t0.mPhase 1))) rfl (vp rfl rfl (fun e19 => rfl) (fun e20 => (gv (nF e20))) (pO _ _)) ?_
 refine sM 28 (bV (((!t8) || (!t20)) || (ltI t0.mPhase 1))) rfl rfl ?_
 refine sF 29 (.d (.dp (List.drop 4 (eShard t0)))) rfl rfl (fun e21 => (vD (eShard t0) fo45_3 · · · rfl rfl)) ?_
 refine sF 30 (iV t0.mPhase) rfl rfl (fun e22 => (vl rfl onT3 (gv (nF e22)) rfl)) ?_
 refine sF 31 (bV (ltI 3 t0.mPhase)) rfl rfl (fun e23 => (vb rfl (gv (nF e23)) rfl (b_gtr rfl))) ?_
 refine sT 32 (bV ((((!t8) || (!t20)) || (ltI t0.mPhase 1)) || (ltI 3 t0.mPhase))) rfl (vp rfl rfl (fun e24 => rfl) (fun e25 => (gv (nF e25))) (pO _ _)) ?_
 refine sq_nil ?_
 refine ht_cond rfl (fun e26 => ?_) (fun e26 => ?_)
 ·replace h := cpos e26 h
  refine sr ?_
  refine sM 2 (bV false) rfl rfl ?_
  refine sz ?_
  cases h
  exact ret1 rfl (.tmp rfl)
 replace h := cneg e26 h
 refine ht_skip ?_
 refine ht_seq ?_
 refine sr ?_
 refine sD 33 (eShard t0) fo45_2 rfl rfl rfl ?_
 refine sP 34 (List.drop 2 (eShard t0)) (eSpan t0.mSpan) ag41 rfl rfl rfl rfl rfl ?_
 obtain ⟨t35, c27, h⟩ := bpos h
 refine sC 35 (bV t35) (s80 k t0.mSpan _ c27) en80 rfl rfl rfl rfl ?_
 refine sT 36 (bV (!t35)) rfl (vu rfl rfl (u_not rfl)) ?_
 refine sM 37 (bV (!t35)) rfl rfl ?_
 refine sF 38 (.d (.dp (List.drop 5 (eShard t0)))) rfl rfl (fun e28 => (vD (eShard t0) fo45_4 · · · rfl rfl)) ?_
 refine sF 39 (.d (.sl 2 (t0.mEntries.map eEntry))) rfl rfl (fun e29 => (vl rfl onT42 (gv (nF e29)) rfl)) ?_
 obtain ⟨t40, c31, h⟩ := bpos h
 refine sF 40 (bV t40) rfl rfl (fun e30 => (vC (s81 k t0.mEntries _ (cpos (nF e30) c31)) en81 · · · rfl (cc (gv (nF e30)) rfl) rfl)) ?_
 refine sF 41 (bV (!t40)) rfl rfl (fun e32 => (vu rfl (gv (nF e32)) (u_not rfl))) ?_
 refine sT 42 (bV ((!t35) || (!t40))) rfl (vp rfl rfl (fun e33 => rfl) (fun e34 => (gv (nF e34))) (pO _ _)) ?_
 refine sM 43 (bV ((!t35) || (!t40))) rfl rfl ?_
 refine sF 44 (.d (.dp (List.drop 6 (eShard t0)))) rfl rfl (fun e35 => (vD (eShard t0) fo45_5 · · · rfl rfl)) ?_
 refine sF 45 (.d (.agg (eStamp t0.mMark))) rfl rfl (fun e36 => (w_ldp (List.drop 6 (eShard t0)) (eStamp t0.mMark) rfl · · · ag24 (gv (nF e36)) (ble _ _ rfl) rfl)) ?_
 obtain ⟨t46, c38, h⟩ := bpos h
 refine sF 46 (bV t46) rfl rfl (fun e37 => (vC (s36 k t0.mMark _ (cpos (nF e37) c38)) en36 · · · rfl (cc (gv (nF e37)) rfl) rfl)) ?_
 refine sF 47 (bV (!t46)) rfl rfl (fun e39 => (vu rfl (gv (nF e39)) (u_not rfl))) ?_
 refine sT 48 (bV (((!t35) || (!t40)) || (!t46))) rfl (vp rfl rfl (fun e40 => rfl) (fun e41 => (gv (nF e41))) (pO _ _)) ?_
 refine sM 49 (bV (((!t35) || (!t40)) || (!t46))) rfl rfl ?_
 refine sF 50 (.d (.dp (List.drop 9 (eShard t0)))) rfl rfl (fun e42 => (vD (eShard t0) fo45_6 · · · rfl rfl)) ?_
 refine sF 51 (.d (.agg (eStamp t0.mTop))) rfl rfl (fun e43 => (w_ldp (List.drop 9 (eShard t0)) (eStamp t0.mTop) rfl · · · ag24 (gv (nF e43)) (ble _ _ rfl) rfl)) ?_
 obtain ⟨t52, c45, h⟩ := bpos h
 refine sF 52 (bV t52) rfl rfl (fun e44 => (vC (s36 k t0.mTop _ (cpos (nF e44) c45)) en36 · · · rfl (cc (gv (nF e44)) rfl) rfl)) ?_
 refine sF 53 (bV (!t52)) rfl rfl (fun e46 => (vu rfl (gv (nF e46)) (u_not rfl))) ?_
 refine sT 54 (bV ((((!t35) || (!t40)) || (!t46)) || (!t52))) rfl (vp rfl rfl (fun e47 => rfl) (fun e48 => (gv (nF e48))) (pO _ _)) ?_
 refine sM 55 (bV ((((!t35) || (!t40)) || (!t46)) || (!t52))) rfl rfl ?_
 refine sF 56 (.d (.dp (List.drop 12 (eShard t0)))) rfl rfl (fun e49 => (vD (eShard t0) fo45_7 · · · rfl rfl)) ?_
 refine sF 57 (.d (.sl 11 (t0.mDone.map eDone))) rfl rfl (fun e50 => (vl rfl onT43 (gv (nF e50)) rfl)) ?_
 obtain ⟨t58, c52, h⟩ := bpos h
 refine sF 58 (bV t58) rfl rfl (fun e51 => (vC (s82 k t0.mDone _ (cpos (nF e51) c52)) en82 · · · rfl (cc (gv (nF e51)) rfl) rfl)) ?_
 refine sF 59 (bV (!t58)) rfl rfl (fun e53 => (vu rfl (gv (nF e53)) (u_not rfl))) ?_
 refine sT 60 (bV (((((!t35) || (!t40)) || (!t46)) || (!t52)) || (!t58))) rfl (vp rfl rfl (fun e54 => rfl) (fun e55 => (gv (nF e55))) (pO _ _)) ?_
 refine sq_nil ?_
 refine ht_cond rfl (fun e56 => ?_) (fun e56 => ?_)
 ·replace h := cpos e56 h
  refine sr ?_
  refine sM 2 (bV false) rfl rfl ?_
  refine sz ?_
  cases h
  exact ret1 rfl (.tmp rfl)
 replace h := cneg e56 h
 refine ht_skip ?_
 refine sr ?_
 refine sD 61 (eShard t0) fo45_4 rfl rfl rfl ?_
 refine sT 62 (.d (.sl 2 (t0.mEntries.map eEntry))) rfl (vl rfl onT42 rfl rfl) ?_
 refine sT 63 (.d (.fn 84 [(.dp (eShard t0))])) rfl (v_func_d (ds := [(.dp (eShard t0))]) rfl · · · rfl) ?_
 obtain ⟨t64, c57, h⟩ := bpos h
 refine sC 64 (bV t64) (s83_84 k t0.mEntries t0 _ c57) en83 rfl rfl rfl rfl ?_
 refine sT 65 (bV (!t64)) rfl (vu rfl rfl (u_not rfl)) ?_
 refine sM 2 (bV (!t64)) rfl rfl ?_
 refine sz ?_
 cases h
 exact ret1 rfl (.tmp rfl)
theorem s142 (k : Nat) (t0 : Entry) (t1 : Stamp) (r : Bool) (h : F142 k t0 t1 = some r) : Awp.Spec Tryz.prog amb 142 [(.agg (eEntry t0)), (.dp (eStamp t1))] (.ds [(.s (.bool r))]) := by
 rw [F142] at h
 refine spec_of Tryz.func142 rfl (ble _ _ rfl) fun w0 ok0 lt0 hA => ?_
 refine sr ?_
 refine sT 2 (.d (.dp (eEntry t0))) rfl (v_box_d (cs := (eEntry t0)) rfl · · · rfl rfl (ones_of rfl)) ?_
 refine sM 3 (bV false) rfl rfl ?_
 refine sq_nil ?_
 refine ht_seq ?_
 refine ht_region_draw mixed ?_
 refine rD 4 (eEntry t0) fo116_1 rfl rfl rfl ?_
 refine rT 5 (.d (.sl 5 (t0.mChain.map eVersion))) rfl (vl rfl onT96 rfl rfl) ?_
 refine rD 6 (eEntry t0) fo116_1 rfl rfl rfl ?_
 refine rT 7 (.d (.sl 5 (t0.mChain.map eVersion))) rfl (vl rfl onT96 rfl rfl) ?_
 refine rT 8 (iV (t0.mChain.length : Int)) rfl (w_len t0.mChain eVersion rfl rfl · · · slT96 rfl) ?_
 refine rT 9 (iV (IntKind.wrap .i64 ((t0.mChain.length : Int) - 1))) rfl (vb rfl rfl rfl (b_sub rfl)) ?_
 obtain ⟨e1, h⟩ := gpos h
 refine rT 10 (.d (.dp (eVersion (rd t0.mChain (IntKind.wrap .i64 ((t0.mChain.length : Int) - 1)))))) rfl (w_idx t0.mChain eVersion rfl · · · slT96 rfl rfl e1) ?_
 refine rD 11 (eVersion (rd t0.mChain (IntKind.wrap .i64 ((t0.mChain.length : Int) - 1)))) fo93_0 rfl rfl rfl ?_
 refine rP 12 (eVersion (rd t0.mChain (IntKind.wrap .i64 ((t0.mChain.length : Int) - 1)))) (eStamp (rd t0.mChain (IntKind.wrap .i64 ((t0.mChain.length : Int) - 1))).mAt) ag24 rfl rfl rfl rfl rfl ?_
 refine rP 13 (eStamp t1) (eStamp t1) ag24 rfl rfl rfl rfl rfl ?_
 obtain ⟨t14, c2, h⟩ := bpos h
 refine rC 14 (iV t14) (s42 k (rd t0.mChain (IntKind.wrap .i64 ((t0.mChain.length : Int) - 1))).mAt t1 _ c2) en42 rfl rfl rfl rfl ?_
 refine rT 15 (bV (ltI 0 t14)) rfl (vb rfl rfl rfl (b_gtr rfl)) ?_
 refine rM 3 (bV (ltI 0 t14)) rfl rfl ?_
 refine rg_nil ⟨by kernel_rfl, ?_⟩
 refine ht_ret ?_
 cases h
 exact ret1 rfl (.tmp rfl)
theorem s139_142 (k : Nat) (t0 : List Entry) (t1u0 : Stamp) (r : Int) (h : F139_142 k t0 t1u0 = some r) : Awp.Spec Tryz.prog amb 139 [(.sl 2 (t0.map eEntry)), (.fn 142 [(.dp (eStamp t1u0))])] (.ds [(.s (.int .i64 r))]) := by
 rw [F139_142] at h
 refine spec_of Tryz.func139 rfl (ble _ _ rfl) fun w0 ok0 lt0 hA => ?_
 refine sr ?_
 refine sM 4 (iV 0) rfl rfl ?_
 refine sq_nil ?_
 refine ht_gj (go_id' h) (fun _ => tell []) (fun _ h => ?_) (fun v1 K2 h j4 r5 => ?_)
 ·refine sr ?_
  refine sM 4 (iV (-1)) rfl rfl ?_
  refine sz ?_
  cases h
  exact ret1 rfl (.tmp rfl)
 refine sr ?_
 refine sM 6 (.d (.sl 2 (t0.map eEntry))) rfl rfl ?_
 refine sT 7 (iV (t0.length : Int)) rfl (w_len t0 eEntry rfl rfl · · · slT42 rfl) ?_
 refine sM 8 (iV 0) rfl rfl ?_
 refine sq_nil ?_
 refine ht_block ?_
 refine ht_rd h (fun _ => rfl) (fun t8 => tell [(.t 0, .d (.sl 2 (t0.map eEntry))), (.t 1, .d (.fn 142 [(.dp (eStamp t1u0))])), (.t 7, iV (t0.length : Int)), (.t 8, iV t8)]) (wi rfl rfl) fun k t8 h K13 j7 => ?_
 rw [F139_142_l1] at h
 refine sr ?_
 refine sT 9 (bV (ltI t8 (t0.length : Int))) rfl (vb rfl rfl rfl (b_lss rfl)) ?_
 refine sq_nil ?_
 refine ht_seq ?_
 refine ht_cond rfl (fun e9 => ?_) (fun e9 => ?_)
 ·replace h := cpos e9 h
  refine ht_skip ?_
  refine ht_seq ?_
  refine ht_block ?_
  refine sr ?_
  refine sM 10 (iV t8) rfl rfl ?_
  refine sM 5 (iV t8) rfl rfl ?_
  refine sq_nil ?_
  refine sr ?_
  refine sM 11 (.d (.fn 142 [(.dp (eStamp t1u0))])) rfl rfl ?_
  refine sM 12 (.d (.sl 2 (t0.map eEntry))) rfl rfl ?_
  refine sM 13 (iV t8) rfl rfl ?_
  obtain ⟨e10, h⟩ := gpos h
  refine sT 14 (.d (.dp (eEntry (rd t0 t8)))) rfl (w_idx t0 eEntry rfl · · · slT42 rfl rfl e10) ?_
  refine sP 15 (eEntry (rd t0 t8)) (eEntry (rd t0 t8)) ag116 rfl rfl rfl rfl rfl ?_
  obtain ⟨t16, c11, h⟩ := bpos h
  refine sT 16 (bV t16) rfl (w_call (ds := [(.agg (eEntry (rd t0 t8)))]) (caps := [(.dp (eStamp t1u0))]) (l := [(.s (.bool t16))]) (s142 k (rd t0 t8) t1u0 _ c11) rfl rfl rfl en142 · · · (.inr rfl) rfl rfl) ?_
  refine sq_nil ?_
  refine ht_cond rfl (fun e12 => ?_) (fun e12 => ?_)
  ·replace h := cpos e12 h
   refine sr ?_
   refine sM 17 (iV t8) rfl rfl ?_
   refine sM 4 (iV t8) rfl rfl ?_
   refine sz ?_
   cases h
   cases r5 _ rfl
   exact ret1 rfl (.tmp rfl)
  replace h := cneg e12 h
  refine ht_skip ?_
  refine ht_region ?_
  refine sT 18 (iV (IntKind.wrap .i64 (t8 + 1))) rfl (vb rfl rfl rfl (b_add rfl)) ?_
  refine sM 8 (iV (IntKind.wrap .i64 (t8 + 1))) rfl rfl ?_
  refine sq_nil ?_
  exact j7 _ _ h (wi rfl rfl)
 replace h := cneg e9 h
 refine ht_exit ?_
 refine tq ?_
 refine tq ?_
 refine bq_hit ?_
 cases h
 exact j4 _ _ rfl (wi rfl rfl)
theorem s83_142 (k : Nat) (t0 : List Entry) (t1u0 : Stamp) (r : Bool) (h : F83_142 k t0 t1u0 = some r) : Awp.Spec Tryz.prog amb 83 [(.sl 2 (t0.map eEntry)), (.fn 142 [(.dp (eStamp t1u0))])] (.ds [(.s (.bool r))]) := by
 rw [F83_142] at h
 refine spec_of Tryz.func83 rfl (ble _ _ rfl) fun w0 ok0 lt0 hA => ?_
 refine sr ?_
 refine sM 4 (bV false) rfl rfl ?_
 refine sq_nil ?_
 refine sr ?_
 refine sM 5 (.d (.sl 2 (t0.map eEntry))) rfl rfl ?_
 refine sM 6 (.d (.fn 142 [(.dp (eStamp t1u0))])) rfl rfl ?_
 obtain ⟨t7, c1, h⟩ := bpos h
 refine sC 7 (iV t7) (s139_142 k t0 t1u0 _ c1) en139 rfl rfl rfl rfl ?_
 refine sT 8 (bV (leI 0 t7)) rfl (vb rfl rfl rfl (b_geq rfl)) ?_
 refine sM 4 (bV (leI 0 t7)) rfl rfl ?_
 refine sz ?_
 cases h
 exact ret1 rfl (.tmp rfl)
theorem s90 (k : Nat) (t0 : Shard) (t1 : Stamp) (r : Bool) (h : F90 k t0 t1 = some r) : Awp.Spec Tryz.prog amb 90 [(.agg (eShard t0)), (.agg (eStamp t1))] (.ds [(.s (.bool r))]) := by
 rw [F90] at h
 refine spec_of Tryz.func90 rfl (ble _ _ rfl) fun w0 ok0 lt0 hA => ?_
 refine sr ?_
 refine sT 2 (.d (.dp (eShard t0))) rfl (v_box_d (cs := (eShard t0)) rfl · · · rfl rfl (ones_of rfl)) ?_
 refine sT 3 (.d (.dp (eStamp t1))) rfl (v_box_d (cs := (eStamp t1)) rfl · · · rfl rfl (ones_of rfl)) ?_
 refine sM 4 (bV false) rfl rfl ?_
 refine sq_nil ?_
 refine sr ?_
 refine sD 5 (eShard t0) fo45_4 rfl rfl rfl ?_
 refine sT 6 (.d (.sl 2 (t0.mEntries.map eEntry))) rfl (vl rfl onT42 rfl rfl) ?_
 refine sT 7 (.d (.fn 142 [(.dp (eStamp t1))])) rfl (v_func_d (ds := [(.dp (eStamp t1))]) rfl · · · rfl) ?_
 obtain ⟨t8, c1, h⟩ := bpos h
 refine sC 8 (bV t8) (s83_142 k t0.mEntries t1 _ c1) en83 rfl rfl rfl rfl ?_
 refine sT 9 (bV (!t8)) rfl (vu rfl rfl (u_not rfl)) ?_
 refine sM 4 (bV (!t8)) rfl rfl ?_
 refine sz ?_
 cases h
 exact ret1 rfl (.tmp rfl)
theorem s25 (k : Nat) (t0 : Cell) (r : Bool) (h : F25 k t0 = some r) : Awp.Spec Tryz.prog amb 25 [(.agg (eCell t0))] (.ds [(.s (.bool r))]) := by
 rw [F25] at h
 refine spec_of Tryz.func25 rfl (ble _ _ rfl) fun w0 ok0 lt0 hA => ?_
 refine sr ?_
 refine sT 1 (.d (.dp (eCell t0))) rfl (v_box_d (cs := (eCell t0)) rfl · · · rfl rfl (ones_of rfl)) ?_
 refine sM 2 (bV false) rfl rfl ?_
 refine sq_nil ?_
 refine sr ?_
 refine sM 3 (iV 0) rfl rfl ?_
 refine sq_nil ?_
 refine ht_gj (go_id' h) (fun _ => tell [(.t 1, .d (.dp (eCell t0)))]) (fun _ h => ?_) (fun v1 K2 h j4 r5 => ?_)
 ·refine sr ?_
  refine sD 32 (eCell t0) fo26_0 rfl rfl rfl ?_
  refine sT 33 (.d (.sl 17 (t0.mShards.map eShard))) rfl (vl rfl onT22 rfl rfl) ?_
  refine sT 34 (iV (t0.mShards.length : Int)) rfl (w_len t0.mShards eShard rfl rfl · · · slT22 rfl) ?_
  refine sT 35 (bV (leI (t0.mShards.length : Int) 8)) rfl (vb rfl rfl rfl (b_leq rfl)) ?_
  refine sM 36 (bV (leI (t0.mShards.length : Int) 8)) rfl rfl ?_
  refine sG 37 (.d (.dp (List.drop 1 (eCell t0)))) rfl rfl (fun e27 => (vD (eCell t0) fo26_1 · · · rfl rfl)) ?_
  refine sG 38 (.d (.agg (eStamp t0.mTop))) rfl rfl (fun e28 => (w_ldp (List.drop 1 (eCell t0)) (eStamp t0.mTop) rfl · · · ag24 (gv e28) (ble _ _ rfl) rfl)) ?_
  obtain ⟨t39, c30, h⟩ := bpos h
  refine sG 39 (bV t39) rfl rfl (fun e29 => (vC (s36 k t0.mTop _ (cpos e29 c30)) en36 · · · rfl (cc (gv e29) rfl) rfl)) ?_
  refine sT 40 (bV ((leI (t0.mShards.length : Int) 8) && t39)) rfl (vp rfl rfl (fun e31 => (gv e31)) (fun e32 => rfl) (pA _ _)) ?_
  refine sM 41 (bV ((leI (t0.mShards.length : Int) 8) && t39)) rfl rfl ?_
  refine sG 42 (.d (.dp (List.drop 4 (eCell t0)))) rfl rfl (fun e33 => (vD (eCell t0) fo26_2 · · · rfl rfl)) ?_
  refine sG 43 (iV t0.mDropped) rfl rfl (fun e34 => (vl rfl onT3 (gv e34) rfl)) ?_
  refine sG 44 (.d (.sl 1 (([t0.mDropped]).map (eI .i64)))) rfl rfl (fun e35 => (w_bsl_d [(0, iV t0.mDropped)] [t0.mDropped] (eI .i64) rfl · · · slT148 zr3 (encI .i64) (ble _ _ rfl) (cc (pr (gv e35)) rfl) (by kernel_rfl) rfl rfl (by kernel_rfl))) ?_
  obtain ⟨t45, c37, h⟩ := bpos h
  refine sG 45 (bV t45) rfl rfl (fun e36 => (vC (s57 k 0 ([t0.mDropped]) _ (cpos e36 c37)) en57 · · · rfl (cc rfl (cc (gv e36) rfl)) rfl)) ?_
  refine sT 46 (bV (((leI (t0.mShards.length : Int) 8) && t39) && t45)) rfl (vp rfl rfl (fun e38 => (gv e38)) (fun e39 => rfl) (pA _ _)) ?_
  refine sM 2 (bV (((leI (t0.mShards.length : Int) 8) && t39) && t45)) rfl rfl ?_
  refine sz ?_
  cases h
  exact ret1 rfl (.tmp rfl)
 refine sr ?_
 refine sD 6 (eCell t0) fo26_0 rfl rfl rfl ?_
 refine sT 7 (.d (.sl 17 (t0.mShards.map eShard))) rfl (vl rfl onT22 rfl rfl) ?_
 refine sT 8 (iV (t0.mShards.length : Int)) rfl (w_len t0.mShards eShard rfl rfl · · · slT22 rfl) ?_
 refine sM 9 (iV 0) rfl rfl ?_
 refine sq_nil ?_
 refine ht_block ?_
 refine ht_rd h (fun _ => rfl) (fun (t3, t9) => tell [(.t 1, .d (.dp (eCell t0))), (.t 3, iV t3), (.t 7, .d (.sl 17 (t0.mShards.map eShard))), (.t 8, iV (t0.mShards.length : Int)), (.t 9, iV t9)]) (wi rfl rfl) fun k v8 h K26 j7 => ?_
 obtain ⟨t3, t9⟩ := v8
 rw [F25_l1] at h
 refine sr ?_
 refine sT 10 (bV (ltI t9 (t0.mShards.length : Int))) rfl (vb rfl rfl rfl (b_lss rfl)) ?_
 refine sq_nil ?_
 refine ht_seq ?_
 refine ht_cond rfl (fun e9 => ?_) (fun e9 => ?_)
 ·replace h := cpos e9 h
  refine ht_skip ?_
  refine ht_seq ?_
  refine ht_block ?_
  refine sr ?_
  obtain ⟨e10, h⟩ := gpos h
  refine sT 11 (.d (.dp (eShard (rd t0.mShards t9)))) rfl (w_idx t0.mShards eShard rfl · · · slT22 rfl rfl e10) ?_
  refine sP 12 (eShard (rd t0.mShards t9)) (eShard (rd t0.mShards t9)) ag45 rfl rfl rfl rfl rfl ?_
  refine sq_cons _ (v_alloc (id := 5) (cs := zc45) rfl trivial rfl (ble _ _ rfl) zu45 rfl ft45 rfl) ?_
  refine sS 5 0 ((eShard (rd t0.mShards t9)).map V.d) sz45 rfl rfl rfl rfl rfl (ones_of rfl) rfl ?_
  refine sq_nil ?_
  refine ht_seq ?_
  refine sr ?_
  refine sT 13 (.ptr 5 0) rfl (v_field_box (off := 0) (a0 := 0) rfl · · · fo45_0 rfl) ?_
  refine sT 14 (iV (rd t0.mShards t9).mID) rfl (v_load_box1 (id := 5) (off := 0) rfl · · · onT3 rfl rfl (ble _ _ rfl) rfl) ?_
  refine sM 15 (iV t3) rfl rfl ?_
  refine sT 16 (bV (leI (rd t0.mShards t9).mID t3)) rfl (vb rfl rfl rfl (b_leq rfl)) ?_
  refine sM 17 (bV (leI (rd t0.mShards t9).mID t3)) rfl rfl ?_
  refine sF 18 (.d (.agg (eShard (rd t0.mShards t9)))) rfl rfl (fun e11 => (w_ldb 5 0 rfl · · · ag45 rfl rfl (ble _ _ rfl) rfl)) ?_
  obtain ⟨t19, c13, h⟩ := bpos h
  refine sF 19 (bV t19) rfl rfl (fun e12 => (vC (s20 k (rd t0.mShards t9) _ (cpos (nF e12) c13)) en20 · · · rfl (cc (gv (nF e12)) rfl) rfl)) ?_
  refine sF 20 (bV (!t19)) rfl rfl (fun e14 => (vu rfl (gv (nF e14)) (u_not rfl))) ?_
  refine sT 21 (bV ((leI (rd t0.mShards t9).mID t3) || (!t19))) rfl (vp rfl rfl (fun e15 => rfl) (fun e16 => (gv (nF e16))) (pO _ _)) ?_
  refine sM 22 (bV ((leI (rd t0.mShards t9).mID t3) || (!t19))) rfl rfl ?_
  refine sF 23 (.d (.agg (eShard (rd t0.mShards t9)))) rfl rfl (fun e17 => (w_ldb 5 0 rfl · · · ag45 rfl rfl (ble _ _ rfl) rfl)) ?_
  refine sF 24 (.d (.dp (List.drop 1 (eCell t0)))) rfl rfl (fun e18 => (vD (eCell t0) fo26_1 · · · rfl rfl)) ?_
  refine sF 25 (.d (.agg (eStamp t0.mTop))) rfl rfl (fun e19 => (w_ldp (List.drop 1 (eCell t0)) (eStamp t0.mTop) rfl · · · ag24 (gv (nF e19)) (ble _ _ rfl) rfl)) ?_
  obtain ⟨t26, c21, h⟩ := bpos h
  refine sF 26 (bV t26) rfl rfl (fun e20 => (vC (s90 k (rd t0.mShards t9) t0.mTop _ (cpos (nF e20) c21)) en90 · · · rfl (cc (gv (nF e20)) (cc (gv (nF e20)) rfl)) rfl)) ?_
  refine sF 27 (bV (!t26)) rfl rfl (fun e22 => (vu rfl (gv (nF e22)) (u_not rfl))) ?_
  refine sT 28 (bV (((leI (rd t0.mShards t9).mID t3) || (!t19)) || (!t26))) rfl (vp rfl rfl (fun e23 => rfl) (fun e24 => (gv (nF e24))) (pO _ _)) ?_
  refine sq_nil ?_
  refine ht_cond rfl (fun e25 => ?_) (fun e25 => ?_)
  ·replace h := cpos e25 h
   refine sr ?_
   refine sM 2 (bV false) rfl rfl ?_
   refine sz ?_
   cases h
   cases r5 _ rfl
   exact ret1 rfl (.tmp rfl)
  replace h := cneg e25 h
  refine ht_skip ?_
  refine ht_region ?_
  refine sT 29 (.ptr 5 0) rfl (v_field_box (off := 0) (a0 := 0) rfl · · · fo45_0 rfl) ?_
  refine sT 30 (iV (rd t0.mShards t9).mID) rfl (v_load_box1 (id := 5) (off := 0) rfl · · · onT3 rfl rfl (ble _ _ rfl) rfl) ?_
  refine sM 3 (iV (rd t0.mShards t9).mID) rfl rfl ?_
  refine sq_nil ?_
  refine ht_region ?_
  refine sT 31 (iV (IntKind.wrap .i64 (t9 + 1))) rfl (vb rfl rfl rfl (b_add rfl)) ?_
  refine sM 9 (iV (IntKind.wrap .i64 (t9 + 1))) rfl rfl ?_
  refine sq_nil ?_
  exact j7 _ _ h (wi rfl rfl)
 replace h := cneg e9 h
 refine ht_exit ?_
 refine tq ?_
 refine tq ?_
 refine bq_hit ?_
 cases h
 exact j4 _ _ rfl (wi rfl rfl)
theorem s58 (k : Nat) (t0 : Request) (r : Bool) (h : F58 k t0 = some r) : Awp.Spec Tryz.prog amb 58 [(.agg (eRequest t0))] (.ds [(.s (.bool r))]) := by
 rw [F58] at h
 refine spec_of Tryz.func58 rfl (ble _ _ rfl) fun w0 ok0 lt0 hA => ?_
 refine sr ?_
 refine sT 1 (.d (.dp (eRequest t0))) rfl (v_box_d (cs := (eRequest t0)) rfl · · · rfl rfl (ones_of rfl)) ?_
 refine sM 2 (bV false) rfl rfl ?_
 refine sq_nil ?_
 refine ht_seq ?_
 refine sr ?_
 refine sD 3 (eRequest t0) fo28_0 rfl rfl rfl ?_
 refine sT 4 (iV t0.mClient) rfl (vl rfl onT3 rfl rfl) ?_
 refine sD 5 (eRequest t0) fo28_1 rfl rfl rfl ?_
 refine sT 6 (iV t0.mReq) rfl (vl rfl onT3 rfl rfl) ?_
 refine sT 7 (.d (.sl 1 (([t0.mClient, t0.mReq]).map (eI .i64)))) rfl (w_bsl_d [(0, iV t0.mClient), (1, iV t0.mReq)] [t0.mClient, t0.mReq] (eI .i64) rfl · · · slT148 zr3 (encI .i64) (ble _ _ rfl) rfl (by kernel_rfl) rfl rfl (by kernel_rfl)) ?_
 obtain ⟨t8, c1, h⟩ := bpos h
 refine sC 8 (bV t8) (s57 k 1 ([t0.mClient, t0.mReq]) _ c1) en57 rfl rfl rfl rfl ?_
 refine sT 9 (bV (!t8)) rfl (vu rfl rfl (u_not rfl)) ?_
 refine sM 10 (bV (!t8)) rfl rfl ?_
 refine sF 11 (.d (.dp (List.drop 2 (eRequest t0)))) rfl rfl (fun e2 => (vD (eRequest t0) fo28_2 · · · rfl rfl)) ?_
 refine sF 12 (iV t0.mKind) rfl rfl (fun e3 => (vl rfl onT3 (gv (nF e3)) rfl)) ?_
 refine sF 13 (bV (ltI t0.mKind 1)) rfl rfl (fun e4 => (vb rfl (gv (nF e4)) rfl (b_lss rfl))) ?_
 refine sT 14 (bV ((!t8) || (ltI t0.mKind 1))) rfl (vp rfl rfl (fun e5 => rfl) (fun e6 => (gv (nF e6))) (pO _ _)) ?_
 refine sM 15 (bV ((!t8) || (ltI t0.mKind 1))) rfl rfl ?_
 refine sF 16 (.d (.dp (List.drop 2 (eRequest t0)))) rfl rfl (fun e7 => (vD (eRequest t0) fo28_2 · · · rfl rfl)) ?_
 refine sF 17 (iV t0.mKind) rfl rfl (fun e8 => (vl rfl onT3 (gv (nF e8)) rfl)) ?_
 refine sF 18 (bV (ltI 6 t0.mKind)) rfl rfl (fun e9 => (vb rfl (gv (nF e9)) rfl (b_gtr rfl))) ?_
 refine sT 19 (bV (((!t8) || (ltI t0.mKind 1)) || (ltI 6 t0.mKind))) rfl (vp rfl rfl (fun e10 => rfl) (fun e11 => (gv (nF e11))) (pO _ _)) ?_
 refine sM 20 (bV (((!t8) || (ltI t0.mKind 1)) || (ltI 6 t0.mKind))) rfl rfl ?_
 refine sF 21 (.d (.dp (List.drop 4 (eRequest t0)))) rfl rfl (fun e12 => (vD (eRequest t0) fo28_4 · · · rfl rfl)) ?_
 refine sF 22 (sV t0.mValue) rfl rfl (fun e13 => (vl rfl onT9 (gv (nF e13)) rfl)) ?_
 refine sF 23 (iV (t0.mValue.size : Int)) rfl rfl (fun e14 => (v_len_str rfl rfl · · · und9 (gv (nF e14)))) ?_
 refine sF 24 (bV (ltI 16 (t0.mValue.size : Int))) rfl rfl (fun e15 => (vb rfl (gv (nF e15)) rfl (b_gtr rfl))) ?_
 refine sT 25 (bV ((((!t8) || (ltI t0.mKind 1)) || (ltI 6 t0.mKind)) || (ltI 16 (t0.mValue.size : Int)))) rfl (vp rfl rfl (fun e16 => rfl) (fun e17 => (gv (nF e17))) (pO _ _)) ?_
 refine sM 26 (bV ((((!t8) || (ltI t0.mKind 1)) || (ltI 6 t0.mKind)) || (ltI 16 (t0.mValue.size : Int)))) rfl rfl ?_
 refine sF 27 (.d (.dp (List.drop 6 (eRequest t0)))) rfl rfl (fun e18 => (vD (eRequest t0) fo28_6 · · · rfl rfl)) ?_
 refine sF 28 (sV t0.mOld) rfl rfl (fun e19 => (vl rfl onT9 (gv (nF e19)) rfl)) ?_
 refine sF 29 (iV (t0.mOld.size : Int)) rfl rfl (fun e20 => (v_len_str rfl rfl · · · und9 (gv (nF e20)))) ?_
 refine sF 30 (bV (ltI 16 (t0.mOld.size : Int))) rfl rfl (fun e21 => (vb rfl (gv (nF e21)) rfl (b_gtr rfl))) ?_
 refine sT 31 (bV (((((!t8) || (ltI t0.mKind 1)) || (ltI 6 t0.mKind)) || (ltI 16 (t0.mValue.size : Int))) || (ltI 16 (t0.mOld.size : Int)))) rfl (vp rfl rfl (fun e22 => rfl) (fun e23 => (gv (nF e23))) (pO _ _)) ?_
 refine sM 32 (bV (((((!t8) || (ltI t0.mKind 1)) || (ltI 6 t0.mKind)) || (ltI 16 (t0.mValue.size : Int))) || (ltI 16 (t0.mOld.size : Int)))) rfl rfl ?_
 refine sF 33 (.d (.dp (List.drop 11 (eRequest t0)))) rfl rfl (fun e24 => (vD (eRequest t0) fo28_9 · · · rfl rfl)) ?_
 refine sF 34 (iV t0.mLimit) rfl rfl (fun e25 => (vl rfl onT3 (gv (nF e25)) rfl)) ?_
 refine sF 35 (bV (ltI t0.mLimit 0)) rfl rfl (fun e26 => (vb rfl (gv (nF e26)) rfl (b_lss rfl))) ?_
 refine sT 36 (bV ((((((!t8) || (ltI t0.mKind 1)) || (ltI 6 t0.mKind)) || (ltI 16 (t0.mValue.size : Int))) || (ltI 16 (t0.mOld.size : Int))) || (ltI t0.mLimit 0))) rfl (vp rfl rfl (fun e27 => rfl) (fun e28 => (gv (nF e28))) (pO _ _)) ?_
 refine sM 37 (bV ((((((!t8) || (ltI t0.mKind 1)) || (ltI 6 t0.mKind)) || (ltI 16 (t0.mValue.size : Int))) || (ltI 16 (t0.mOld.size : Int))) || (ltI t0.mLimit 0))) rfl rfl ?_
 refine sF 38 (.d (.dp (List.drop 11 (eRequest t0)))) rfl rfl (fun e29 => (vD (eRequest t0) fo28_9 · · · rfl rfl)) ?_
 refine sF 39 (iV t0.mLimit) rfl rfl (fun e30 => (vl rfl onT3 (gv (nF e30)) rfl)) ?_
 refine sF 40 (bV (ltI 8 t0.mLimit)) rfl rfl (fun e31 => (vb rfl (gv (nF e31)) rfl (b_gtr rfl))) ?_
 refine sT 41 (bV (((((((!t8) || (ltI t0.mKind 1)) || (ltI 6 t0.mKind)) || (ltI 16 (t0.mValue.size : Int))) || (ltI 16 (t0.mOld.size : Int))) || (ltI t0.mLimit 0)) || (ltI 8 t0.mLimit))) rfl (vp rfl rfl (fun e32 => rfl) (fun e33 => (gv (nF e33))) (pO _ _)) ?_
 refine sM 42 (bV (((((((!t8) || (ltI t0.mKind 1)) || (ltI 6 t0.mKind)) || (ltI 16 (t0.mValue.size : Int))) || (ltI 16 (t0.mOld.size : Int))) || (ltI t0.mLimit 0)) || (ltI 8 t0.mLimit))) rfl rfl ?_
 refine sF 43 (.d (.dp (List.drop 7 (eRequest t0)))) rfl rfl (fun e34 => (vD (eRequest t0) fo28_7 · · · rfl rfl)) ?_
 refine sF 44 (.d (.agg (eStamp t0.mAt))) rfl rfl (fun e35 => (w_ldp (List.drop 7 (eRequest t0)) (eStamp t0.mAt) rfl · · · ag24 (gv (nF e35)) (ble _ _ rfl) rfl)) ?_
 obtain ⟨t45, c37, h⟩ := bpos h
 refine sF 45 (bV t45) rfl rfl (fun e36 => (vC (s36 k t0.mAt _ (cpos (nF e36) c37)) en36 · · · rfl (cc (gv (nF e36)) rfl) rfl)) ?_
 refine sF 46 (bV (!t45)) rfl rfl (fun e38 => (vu rfl (gv (nF e38)) (u_not rfl))) ?_
 refine sT 47 (bV ((((((((!t8) || (ltI t0.mKind 1)) || (ltI 6 t0.mKind)) || (ltI 16 (t0.mValue.size : Int))) || (ltI 16 (t0.mOld.size : Int))) || (ltI t0.mLimit 0)) || (ltI 8 t0.mLimit)) || (!t45))) rfl (vp rfl rfl (fun e39 => rfl) (fun e40 => (gv (nF e40))) (pO _ _)) ?_
 refine sM 48 (bV ((((((((!t8) || (ltI t0.mKind 1)) || (ltI 6 t0.mKind)) || (ltI 16 (t0.mValue.size : Int))) || (ltI 16 (t0.mOld.size : Int))) || (ltI t0.mLimit 0)) || (ltI 8 t0.mLimit)) || (!t45))) rfl rfl ?_
 refine sF 49 (.d (.dp (List.drop 10 (eRequest t0)))) rfl rfl (fun e41 => (vD (eRequest t0) fo28_8 · · · rfl rfl)) ?_
 refine sF 50 (sV t0.mHi) rfl rfl (fun e42 => (vl rfl onT9 (gv (nF e42)) rfl)) ?_
 refine sF 51 (bV (!strEq t0.mHi (⟨#[]⟩ : ByteArray))) rfl rfl (fun e43 => (vb rfl (gv (nF e43)) rfl (b_neS rfl))) ?_
 refine sF 52 (bV (!strEq t0.mHi (⟨#[]⟩ : ByteArray))) rfl rfl (fun e44 => (vm rfl (gv (nF e44)))) ?_
 refine sI 53 (.d (.dp (List.drop 10 (eRequest t0)))) rfl rfl (fun e45 e46 => (vD (eRequest t0) fo28_8 · · · rfl rfl)) ?_
 refine sI 54 (sV t0.mHi) rfl rfl (fun e47 e48 => (vl rfl onT9 (gv (aT e47 e48)) rfl)) ?_
 obtain ⟨t55, c51, h⟩ := bpos h
 refine sI 55 (bV t55) rfl rfl (fun e49 e50 => (vC (s122 k t0.mHi _ (cpos (aT e49 e50) c51)) en122 · · · rfl (cc (gv (aT e49 e50)) rfl) rfl)) ?_
 refine sI 56 (bV (!t55)) rfl rfl (fun e52 e53 => (vu rfl (gv (aT e52 e53)) (u_not rfl))) ?_
 refine sF 57 (bV ((!strEq t0.mHi (⟨#[]⟩ : ByteArray)) && (!t55))) rfl rfl (fun e54 => (vp rfl (gv (nF e54)) (fun e55 => (gv (aT (nF e54) e55))) (fun e56 => rfl) (pA _ _))) ?_
 refine sT 58 (bV (((((((((!t8) || (ltI t0.mKind 1)) || (ltI 6 t0.mKind)) || (ltI 16 (t0.mValue.size : Int))) || (ltI 16 (t0.mOld.size : Int))) || (ltI t0.mLimit 0)) || (ltI 8 t0.mLimit)) || (!t45)) || ((!strEq t0.mHi (⟨#[]⟩ : ByteArray)) && (!t55)))) rfl (vp rfl rfl (fun e57 => rfl) (fun e58 => (gv (nF e58))) (pO _ _)) ?_
 refine sq_nil ?_
 refine ht_cond rfl (fun e59 => ?_) (fun e59 => ?_)
 ·replace h := cpos e59 h
  refine sr ?_
  refine sM 2 (bV false) rfl rfl ?_
  refine sz ?_
  cases h
  exact ret1 rfl (.tmp rfl)
 replace h := cneg e59 h
 refine ht_skip ?_
 refine ht_seq ?_
 refine sr ?_
 refine sD 59 (eRequest t0) fo28_2 rfl rfl rfl ?_
 refine sT 60 (iV t0.mKind) rfl (vl rfl onT3 rfl rfl) ?_
 refine sT 61 (bV (eqI t0.mKind 6)) rfl (vb rfl rfl rfl (b_eql rfl)) ?_
 refine sq_nil ?_
 refine ht_cond rfl (fun e60 => ?_) (fun e60 => ?_)
 ·replace h := cpos e60 h
  refine sr ?_
  refine sD 62 (eRequest t0) fo28_3 rfl rfl rfl ?_
  refine sT 63 (sV t0.mKey) rfl (vl rfl onT9 rfl rfl) ?_
  refine sT 64 (bV (strEq t0.mKey (⟨#[]⟩ : ByteArray))) rfl (vb rfl rfl rfl (b_eqS rfl)) ?_
  refine sM 65 (bV (strEq t0.mKey (⟨#[]⟩ : ByteArray))) rfl rfl ?_
  refine sF 66 (.d (.dp (List.drop 3 (eRequest t0)))) rfl rfl (fun e61 => (vD (eRequest t0) fo28_3 · · · rfl rfl)) ?_
  refine sF 67 (sV t0.mKey) rfl rfl (fun e62 => (vl rfl onT9 (gv (nF e62)) rfl)) ?_
  obtain ⟨t68, c64, h⟩ := bpos h
  refine sF 68 (bV t68) rfl rfl (fun e63 => (vC (s122 k t0.mKey _ (cpos (nF e63) c64)) en122 · · · rfl (cc (gv (nF e63)) rfl) rfl)) ?_
  refine sT 69 (bV ((strEq t0.mKey (⟨#[]⟩ : ByteArray)) || t68)) rfl (vp rfl rfl (fun e65 => rfl) (fun e66 => (gv (nF e66))) (pO _ _)) ?_
  refine sM 70 (bV ((strEq t0.mKey (⟨#[]⟩ : ByteArray)) || t68)) rfl rfl ?_
  refine sG 71 (.d (.dp (List.drop 11 (eRequest t0)))) rfl rfl (fun e67 => (vD (eRequest t0) fo28_9 · · · rfl rfl)) ?_
  refine sG 72 (iV t0.mLimit) rfl rfl (fun e68 => (vl rfl onT3 (gv e68) rfl)) ?_
  refine sG 73 (bV (leI 1 t0.mLimit)) rfl rfl (fun e69 => (vb rfl (gv e69) rfl (b_geq rfl))) ?_
  refine sT 74 (bV (((strEq t0.mKey (⟨#[]⟩ : ByteArray)) || t68) && (leI 1 t0.mLimit))) rfl (vp rfl rfl (fun e70 => (gv e70)) (fun e71 => rfl) (pA _ _)) ?_
  refine sM 2 (bV (((strEq t0.mKey (⟨#[]⟩ : ByteArray)) || t68) && (leI 1 t0.mLimit))) rfl rfl ?_
  refine sz ?_
  cases h
  exact ret1 rfl (.tmp rfl)
 replace h := cneg e60 h
 refine ht_skip ?_
 refine sr ?_
 refine sD 75 (eRequest t0) fo28_3 rfl rfl rfl ?_
 refine sT 76 (sV t0.mKey) rfl (vl rfl onT9 rfl rfl) ?_
 obtain ⟨t77, c72, h⟩ := bpos h
 refine sC 77 (bV t77) (s122 k t0.mKey _ c72) en122 rfl rfl rfl rfl ?_
 refine sM 2 (bV t77) rfl rfl ?_
 refine sz ?_
 cases h
 exact ret1 rfl (.tmp rfl)
theorem s59 (k : Nat) (t0 : Int) (r : Answer) (h : F59 k t0 = some r) : Awp.Spec Tryz.prog amb 59 [(.s (.int .i64 t0))] (.ds [(.agg (eAnswer r))]) := by
 rw [F59] at h
 refine spec_of Tryz.func59 rfl (ble _ _ rfl) fun w0 ok0 lt0 hA => ?_
 refine sr ?_
 refine sq_cons _ (v_alloc (id := 2) (cs := zc34) rfl trivial rfl (ble _ _ rfl) zu34 rfl ft34 rfl) ?_
 refine sq_nil ?_
 refine sr ?_
 refine sM 3 (iV t0) rfl rfl ?_
 refine sT 4 (.d (.agg (eAnswer (⟨t0, (⟨0, 0, 0⟩ : Stamp), false, (⟨#[]⟩ : ByteArray), ([] : List Item), (⟨#[]⟩ : ByteArray), false⟩ : Answer)))) rfl (w_bld zc34 ((eAnswer (⟨t0, (⟨0, 0, 0⟩ : Stamp), false, (⟨#[]⟩ : ByteArray), ([] : List Item), (⟨#[]⟩ : ByteArray), false⟩ : Answer)).map V.d) [(0, iV t0)] rfl · · · zw34 rfl ft34 rfl rfl rfl rfl) ?_
 refine sS 2 0 ((eAnswer (⟨t0, (⟨0, 0, 0⟩ : Stamp), false, (⟨#[]⟩ : ByteArray), ([] : List Item), (⟨#[]⟩ : ByteArray), false⟩ : Answer)).map V.d) sz34 rfl rfl rfl rfl rfl (ones_of rfl) rfl ?_
 refine sz ?_
 cases h
 exact ret1 rfl (.cell rfl rfl ag34 (ble _ _ rfl) rfl)
theorem s156 (k : Nat) (t0 : Shard) (t1 : Int) (r : Int) (h : F156 k t0 t1 = some r) : Awp.Spec Tryz.prog amb 156 [(.agg (eShard t0)), (.s (.int .i64 t1))] (.ds [(.s (.int .i64 r))]) := by
 rw [F156] at h
 refine spec_of Tryz.func156 rfl (ble _ _ rfl) fun w0 ok0 lt0 hA => ?_
 refine sr ?_
 refine sT 2 (.d (.dp (eShard t0))) rfl (v_box_d (cs := (eShard t0)) rfl · · · rfl rfl (ones_of rfl)) ?_
 refine sM 4 (iV 0) rfl rfl ?_
 refine sq_nil ?_
 refine sr ?_
 refine sD 5 (eShard t0) fo45_0 rfl rfl rfl ?_
 refine sT 6 (iV t0.mID) rfl (vl rfl onT3 rfl rfl) ?_
 refine sM 7 (iV t1) rfl rfl ?_
 refine sT 8 (iV (IntKind.wrap .i64 (t0.mID - t1))) rfl (vb rfl rfl rfl (b_sub rfl)) ?_
 refine sM 4 (iV (IntKind.wrap .i64 (t0.mID - t1))) rfl rfl ?_
 refine sz ?_
 cases h
 exact ret1 rfl (.tmp rfl)
theorem s155_156 (k : Nat) (t0 : List Shard) (t1 : Int) (r : Int × Bool) (h : F155_156 k t0 t1 = some r) : Awp.Spec Tryz.prog amb 155 [(.sl 17 (t0.map eShard)), (.s (.int .i64 t1)), (.fn 156 [])] (.ds [(.s (.int .i64 r.1)), (.s (.bool r.2))]) := by
 rw [F155_156] at h
 refine spec_of Tryz.func155 rfl (ble _ _ rfl) fun w0 ok0 lt0 hA => ?_
 refine sr ?_
 refine sM 6 (iV 0) rfl rfl ?_
 refine sM 7 (bV false) rfl rfl ?_
 refine sq_nil ?_
 refine sr ?_
 refine sM 12 (.d (.sl 17 (t0.map eShard))) rfl rfl ?_
 refine sT 13 (iV (t0.length : Int)) rfl (w_len t0 eShard rfl rfl · · · slT22 rfl) ?_
 refine sM 8 (iV (t0.length : Int)) rfl rfl ?_
 refine sq_nil ?_
 refine sr ?_
 refine sM 14 (iV (t0.length : Int)) rfl rfl ?_
 refine sM 9 (iV 0) rfl rfl ?_
 refine sM 10 (iV (t0.length : Int)) rfl rfl ?_
 refine sq_nil ?_
 refine ht_bj h (fun t9 => tell [(.t 0, .d (.sl 17 (t0.map eShard))), (.t 1, iV t1), (.t 2, .d (.fn 156 [])), (.t 8, iV (t0.length : Int)), (.t 9, iV t9)]) (fun t9 h => ?_) (fun v1 K2 h j4 => ?_)
 ·refine sr ?_
  refine sM 35 (iV t9) rfl rfl ?_
  refine sM 36 (iV t9) rfl rfl ?_
  refine sM 37 (iV (t0.length : Int)) rfl rfl ?_
  refine sT 38 (bV (ltI t9 (t0.length : Int))) rfl (vb rfl rfl rfl (b_lss rfl)) ?_
  refine sM 39 (bV (ltI t9 (t0.length : Int))) rfl rfl ?_
  refine sG 40 (.d (.fn 156 [])) rfl rfl (fun e15 => (vm rfl rfl)) ?_
  refine sG 41 (.d (.sl 17 (t0.map eShard))) rfl rfl (fun e16 => (vm rfl rfl)) ?_
  refine sG 42 (iV t9) rfl rfl (fun e17 => (vm rfl rfl)) ?_
  obtain ⟨e19, h⟩ := gpos h
  refine sG 43 (.d (.dp (eShard (rd t0 t9)))) rfl rfl (fun e18 => (w_idx t0 eShard rfl · · · slT22 (gv e18) (gv e18) (orT e19 e18))) ?_
  refine sG 44 (.d (.agg (eShard (rd t0 t9)))) rfl rfl (fun e20 => (w_ldp (eShard (rd t0 t9)) (eShard (rd t0 t9)) rfl · · · ag45 (gv e20) (ble _ _ rfl) rfl)) ?_
  refine sG 45 (iV t1) rfl rfl (fun e21 => (vm rfl rfl)) ?_
  obtain ⟨t46, c23, h⟩ := bpos h
  refine sG 46 (iV t46) rfl rfl (fun e22 => (w_call (ds := [(.agg (eShard (rd t0 t9))), (.s (.int .i64 t1))]) (caps := []) (l := [(.s (.int .i64 t46))]) (s156 k (rd t0 t9) t1 _ (cpos e22 c23)) rfl rfl rfl en156 · · · (.inr (gv e22)) (cc (gv e22) (cc (gv e22) rfl)) rfl)) ?_
  refine sG 47 (bV (eqI t46 0)) rfl rfl (fun e24 => (vb rfl (gv e24) rfl (b_eql rfl))) ?_
  refine sT 48 (bV ((ltI t9 (t0.length : Int)) && (eqI t46 0))) rfl (vp rfl rfl (fun e25 => (gv e25)) (fun e26 => rfl) (pA _ _)) ?_
  refine sM 6 (iV t9) rfl rfl ?_
  refine sM 7 (bV ((ltI t9 (t0.length : Int)) && (eqI t46 0))) rfl rfl ?_
  refine sz ?_
  cases h
  exact ret2 rfl (.tmp rfl) (.tmp rfl)
 refine ht_block ?_
 refine ht_rd h (fun _ => rfl) (fun (t9_1, t10) => tell [(.t 0, .d (.sl 17 (t0.map eShard))), (.t 1, iV t1), (.t 2, .d (.fn 156 [])), (.t 8, iV (t0.length : Int)), (.t 9, iV t9_1), (.t 10, iV t10)]) (wi rfl rfl) fun k v8 h K14 j7 => ?_
 obtain ⟨t9_1, t10⟩ := v8
 rw [F155_156_l1] at h
 refine ht_seq ?_
 refine sr ?_
 refine sM 15 (iV t9_1) rfl rfl ?_
 refine sM 16 (iV t10) rfl rfl ?_
 refine sT 17 (bV (ltI t9_1 t10)) rfl (vb rfl rfl rfl (b_lss rfl)) ?_
 refine sq_nil ?_
 refine ht_cond rfl (fun e9 => ?_) (fun e9 => ?_)
 ·replace h := cpos e9 h
  refine ht_skip ?_
  refine ht_block ?_
  refine sr ?_
  refine sM 18 (iV t9_1) rfl rfl ?_
  refine sM 19 (iV t10) rfl rfl ?_
  refine sT 20 (iV (IntKind.wrap .i64 (t9_1 + t10))) rfl (vb rfl rfl rfl (b_add rfl)) ?_
  refine sT 21 (nV .u64 (IntKind.wrap .u64 (IntKind.wrap .i64 (t9_1 + t10)))) rfl (v_conv rfl · · · rfl (c_int und3 und78 rfl)) ?_
  obtain ⟨t22, q10, h⟩ := bndp h
  refine sT 22 (nV .u64 t22) rfl (vb rfl rfl rfl (b_shr rfl q10)) ?_
  refine sT 23 (iV (IntKind.wrap .i64 t22)) rfl (v_conv rfl · · · rfl (c_int und78 und3 rfl)) ?_
  refine sM 11 (iV (IntKind.wrap .i64 t22)) rfl rfl ?_
  refine sq_nil ?_
  refine sr ?_
  refine sM 24 (.d (.fn 156 [])) rfl rfl ?_
  refine sM 25 (.d (.sl 17 (t0.map eShard))) rfl rfl ?_
  refine sM 26 (iV (IntKind.wrap .i64 t22)) rfl rfl ?_
  obtain ⟨e11, h⟩ := gpos h
  refine sT 27 (.d (.dp (eShard (rd t0 (IntKind.wrap .i64 t22))))) rfl (w_idx t0 eShard rfl · · · slT22 rfl rfl e11) ?_
  refine sP 28 (eShard (rd t0 (IntKind.wrap .i64 t22))) (eShard (rd t0 (IntKind.wrap .i64 t22))) ag45 rfl rfl rfl rfl rfl ?_
  refine sM 29 (iV t1) rfl rfl ?_
  obtain ⟨t30, c12, h⟩ := bpos h
  refine sT 30 (iV t30) rfl (w_call (ds := [(.agg (eShard (rd t0 (IntKind.wrap .i64 t22)))), (.s (.int .i64 t1))]) (caps := []) (l := [(.s (.int .i64 t30))]) (s156 k (rd t0 (IntKind.wrap .i64 t22)) t1 _ c12) rfl rfl rfl en156 · · · (.inr rfl) rfl rfl) ?_
  refine sT 31 (bV (ltI t30 0)) rfl (vb rfl rfl rfl (b_lss rfl)) ?_
  refine sq_nil ?_
  refine ht_cond rfl (fun e13 => ?_) (fun e13 => ?_)
  ·replace h := cpos e13 h
   refine ht_region ?_
   refine sM 32 (iV (IntKind.wrap .i64 t22)) rfl rfl ?_
   refine sT 33 (iV (IntKind.wrap .i64 ((IntKind.wrap .i64 t22) + 1))) rfl (vb rfl rfl rfl (b_add rfl)) ?_
   refine sM 9 (iV (IntKind.wrap .i64 ((IntKind.wrap .i64 t22) + 1))) rfl rfl ?_
   refine sq_nil ?_
   exact j7 _ _ h (wi rfl rfl)
  replace h := cneg e13 h
  refine ht_region ?_
  refine sM 34 (iV (IntKind.wrap .i64 t22)) rfl rfl ?_
  refine sM 10 (iV (IntKind.wrap .i64 t22)) rfl rfl ?_
  refine sq_nil ?_
  exact j7 _ _ h (wi rfl rfl)
 replace h := cneg e9 h
 refine ht_exit ?_
 refine tq ?_
 refine tq ?_
 refine bq_hit ?_
 cases h
 exact j4 _ (wi rfl rfl)
theorem s123 (k : Nat) (t0 : Cell) (t1 : Int) (r : Int × Bool) (h : F123 k t0 t1 = some r) : Awp.Spec Tryz.prog amb 123 [(.agg (eCell t0)), (.s (.int .i64 t1))] (.ds [(.s (.int .i64 r.1)), (.s (.bool r.2))]) := by
 rw [F123] at h
 refine spec_of Tryz.func123 rfl (ble _ _ rfl) fun w0 ok0 lt0 hA => ?_
 refine sr ?_
 refine sT 2 (.d (.dp (eCell t0))) rfl (v_box_d (cs := (eCell t0)) rfl · · · rfl rfl (ones_of rfl)) ?_
 refine sM 4 (iV 0) rfl rfl ?_
 refine sM 5 (bV false) rfl rfl ?_
 refine sq_nil ?_
 refine sr ?_
 refine sD 6 (eCell t0) fo26_0 rfl rfl rfl ?_
 refine sT 7 (.d (.sl 17 (t0.mShards.map eShard))) rfl (vl rfl onT22 rfl rfl) ?_
 refine sM 8 (iV t1) rfl rfl ?_
 obtain ⟨⟨t9a, t9b⟩, c1, h⟩ := bpos h
 refine sT 9 (.tup [iV t9a, bV t9b]) rfl (w_call2 (ds := [(.sl 17 (t0.mShards.map eShard)), (.s (.int .i64 t1)), (.fn 156 [])]) (caps := []) (l := [(.s (.int .i64 t9a)), (.s (.bool t9b))]) (s155_156 k t0.mShards t1 _ c1) rfl rfl rfl en155 · · · (.inl ⟨rfl, rfl⟩) (.c (.d _) (.c (.d _) (.c (.fn _ []) .n))) rfl) ?_
 refine sT 10 (iV t9a) rfl (ve rfl rfl rfl) ?_
 refine sT 11 (bV t9b) rfl (ve rfl rfl rfl) ?_
 refine sM 4 (iV t9a) rfl rfl ?_
 refine sM 5 (bV t9b) rfl rfl ?_
 refine sz ?_
 cases h
 exact ret2 rfl (.tmp rfl) (.tmp rfl)
theorem s60 (k : Nat) (t0 : Cell) (t1 : Int) (r : Shard) (h : F60 k t0 t1 = some r) : Awp.Spec Tryz.prog amb 60 [(.agg (eCell t0)), (.s (.int .i64 t1))] (.ds [(.agg (eShard r))]) := by
 rw [F60] at h
 refine spec_of Tryz.func60 rfl (ble _ _ rfl) fun w0 ok0 lt0 hA => ?_
 refine sr ?_
 refine sT 2 (.d (.dp (eCell t0))) rfl (v_box_d (cs := (eCell t0)) rfl · · · rfl rfl (ones_of rfl)) ?_
 refine sq_cons _ (v_alloc (id := 4) (cs := zc45) rfl trivial rfl (ble _ _ rfl) zu45 rfl ft45 rfl) ?_
 refine sq_nil ?_
 refine ht_seq ?_
 refine sr ?_
 refine sP 8 (eCell t0) (eCell t0) ag26 rfl rfl rfl rfl rfl ?_
 refine sM 9 (iV t1) rfl rfl ?_
 obtain ⟨⟨t10a, t10b⟩, c1, h⟩ := bpos h
 refine sC 10 (.tup [iV t10a, bV t10b]) (s123 k t0 t1 _ c1) en123 rfl rfl rfl rfl ?_
 refine sM 7 (.tup [iV t10a, bV t10b]) rfl rfl ?_
 refine sT 11 (iV t10a) rfl (ve rfl rfl rfl) ?_
 refine sT 12 (bV t10b) rfl (ve rfl rfl rfl) ?_
 refine sM 5 (iV t10a) rfl rfl ?_
 refine sM 6 (bV t10b) rfl rfl ?_
 refine sq_nil ?_
 refine sr ?_
 refine sM 13 (bV t10b) rfl rfl ?_
 refine sq_nil ?_
 refine ht_cond rfl (fun e2 => ?_) (fun e2 => ?_)
 ·replace h := cpos e2 h
  refine sr ?_
  refine sD 14 (eCell t0) fo26_0 rfl rfl rfl ?_
  refine sT 15 (.d (.sl 17 (t0.mShards.map eShard))) rfl (vl rfl onT22 rfl rfl) ?_
  refine sM 16 (iV t10a) rfl rfl ?_
  obtain ⟨e3, h⟩ := gpos h
  refine sT 17 (.d (.dp (eShard (rd t0.mShards t10a)))) rfl (w_idx t0.mShards eShard rfl · · · slT22 rfl rfl e3) ?_
  refine sP 18 (eShard (rd t0.mShards t10a)) (eShard (rd t0.mShards t10a)) ag45 rfl rfl rfl rfl rfl ?_
  refine sS 4 0 ((eShard (rd t0.mShards t10a)).map V.d) sz45 rfl rfl rfl rfl rfl (ones_of rfl) rfl ?_
  refine sz ?_
  cases h
  exact ret1 rfl (.cell rfl rfl ag45 (ble _ _ rfl) rfl)
 replace h := cneg e2 h
 refine ht_skip ?_
 refine sr ?_
 refine sT 19 (.d (.agg (eShard (⟨0, 0, (⟨⟨#[]⟩, ⟨#[]⟩⟩ : Span), 0, [], (⟨0, 0, 0⟩ : Stamp), (⟨0, 0, 0⟩ : Stamp), [], 0, 0, 0, 0⟩ : Shard)))) rfl (w_bld zc45 ((eShard (⟨0, 0, (⟨⟨#[]⟩, ⟨#[]⟩⟩ : Span), 0, [], (⟨0, 0, 0⟩ : Stamp), (⟨0, 0, 0⟩ : Stamp), [], 0, 0, 0, 0⟩ : Shard)).map V.d) [] rfl · · · zw45 rfl ft45 rfl rfl rfl rfl) ?_
 refine sS 4 0 ((eShard (⟨0, 0, (⟨⟨#[]⟩, ⟨#[]⟩⟩ : Span), 0, [], (⟨0, 0, 0⟩ : Stamp), (⟨0, 0, 0⟩ : Stamp), [], 0, 0, 0, 0⟩ : Shard)).map V.d) sz45 rfl rfl rfl rfl rfl (ones_of rfl) rfl ?_
 refine sz ?_
 cases h
 exact ret1 rfl (.cell rfl rfl ag45 (ble _ _ rfl) rfl)
theorem s62 (k : Nat) (t0 : Request) (r : Bool) (h : F62 k t0 = some r) : Awp.Spec Tryz.prog amb 62 [(.agg (eRequest t0))] (.ds [(.s (.bool r))]) := by
 rw [F62] at h
 refine spec_of Tryz.func62 rfl (ble _ _ rfl) fun w0 ok0 lt0 hA => ?_
 refine sr ?_
 refine sT 1 (.d (.dp (eRequest t0))) rfl (v_box_d (cs := (eRequest t0)) rfl · · · rfl rfl (ones_of rfl)) ?_
 refine sM 2 (bV false) rfl rfl ?_
 refine sq_nil ?_
 refine sr ?_
 refine sD 3 (eRequest t0) fo28_2 rfl rfl rfl ?_
 refine sT 4 (iV t0.mKind) rfl (vl rfl onT3 rfl rfl) ?_
 refine sT 5 (bV (eqI t0.mKind 1)) rfl (vb rfl rfl rfl (b_eql rfl)) ?_
 refine sM 6 (bV (eqI t0.mKind 1)) rfl rfl ?_
 refine sF 7 (.d (.dp (List.drop 2 (eRequest t0)))) rfl rfl (fun e1 => (vD (eRequest t0) fo28_2 · · · rfl rfl)) ?_
 refine sF 8 (iV t0.mKind) rfl rfl (fun e2 => (vl rfl onT3 (gv (nF e2)) rfl)) ?_
 refine sF 9 (bV (eqI t0.mKind 2)) rfl rfl (fun e3 => (vb rfl (gv (nF e3)) rfl (b_eql rfl))) ?_
 refine sT 10 (bV ((eqI t0.mKind 1) || (eqI t0.mKind 2))) rfl (vp rfl rfl (fun e4 => rfl) (fun e5 => (gv (nF e5))) (pO _ _)) ?_
 refine sM 11 (bV ((eqI t0.mKind 1) || (eqI t0.mKind 2))) rfl rfl ?_
 refine sF 12 (.d (.dp (List.drop 2 (eRequest t0)))) rfl rfl (fun e6 => (vD (eRequest t0) fo28_2 · · · rfl rfl)) ?_
 refine sF 13 (iV t0.mKind) rfl rfl (fun e7 => (vl rfl onT3 (gv (nF e7)) rfl)) ?_
 refine sF 14 (bV (eqI t0.mKind 3)) rfl rfl (fun e8 => (vb rfl (gv (nF e8)) rfl (b_eql rfl))) ?_
 refine sT 15 (bV (((eqI t0.mKind 1) || (eqI t0.mKind 2)) || (eqI t0.mKind 3))) rfl (vp rfl rfl (fun e9 => rfl) (fun e10 => (gv (nF e10))) (pO _ _)) ?_
 refine sM 2 (bV (((eqI t0.mKind 1) || (eqI t0.mKind 2)) || (eqI t0.mKind 3))) rfl rfl ?_
 refine sz ?_
 cases h
 exact ret1 rfl (.tmp rfl)
theorem s176 (k : Nat) (t0 : Done) (t1 : Int) (r : Bool) (h : F176 k t0 t1 = some r) : Awp.Spec Tryz.prog amb 176 [(.agg (eDone t0)), (.dp [(.s (.int .i64 t1))])] (.ds [(.s (.bool r))]) := by
 rw [F176] at h
 refine spec_of Tryz.func176 rfl (ble _ _ rfl) fun w0 ok0 lt0 hA => ?_
 refine sr ?_
 refine sT 2 (.d (.dp (eDone t0))) rfl (v_box_d (cs := (eDone t0)) rfl · · · rfl rfl (ones_of rfl)) ?_
 refine sM 3 (bV false) rfl rfl ?_
 refine sq_nil ?_
 refine sr ?_
 refine sD 4 (eDone t0) fo100_0 rfl rfl rfl ?_
 refine sT 5 (iV t0.mClient) rfl (vl rfl onT3 rfl rfl) ?_
 refine sT 6 (iV t1) rfl (vl rfl onT3 rfl rfl) ?_
 refine sT 7 (bV (leI t1 t0.mClient)) rfl (vb rfl rfl rfl (b_geq rfl)) ?_
 refine sM 3 (bV (leI t1 t0.mClient)) rfl rfl ?_
 refine sz ?_
 cases h
 exact ret1 rfl (.tmp rfl)
theorem s175_176 (k : Nat) (t0 : List Done) (t1u0 : Int) (r : Int) (h : F175_176 k t0 t1u0 = some r) : Awp.Spec Tryz.prog amb 175 [(.sl 11 (t0.map eDone)), (.fn 176 [(.dp [(.s (.int .i64 t1u0))])])] (.ds [(.s (.int .i64 r))]) := by
 rw [F175_176] at h
 refine spec_of Tryz.func175 rfl (ble _ _ rfl) fun w0 ok0 lt0 hA => ?_
 refine sr ?_
 refine sM 4 (iV 0) rfl rfl ?_
 refine sq_nil ?_
 refine ht_gj (go_id' h) (fun _ => tell []) (fun _ h => ?_) (fun v1 K2 h j4 r5 => ?_)
 ·refine sr ?_
  refine sM 4 (iV (-1)) rfl rfl ?_
  refine sz ?_
  cases h
  exact ret1 rfl (.tmp rfl)
 refine sr ?_
 refine sM 6 (.d (.sl 11 (t0.map eDone))) rfl rfl ?_
 refine sT 7 (iV (t0.length : Int)) rfl (w_len t0 eDone rfl rfl · · · slT43 rfl) ?_
 refine sM 8 (iV 0) rfl rfl ?_
 refine sq_nil ?_
 refine ht_block ?_
 refine ht_rd h (fun _ => rfl) (fun t8 => tell [(.t 0, .d (.sl 11 (t0.map eDone))), (.t 1, .d (.fn 176 [(.dp [(.s (.int .i64 t1u0))])])), (.t 7, iV (t0.length : Int)), (.t 8, iV t8)]) (wi rfl rfl) fun k t8 h K13 j7 => ?_
 rw [F175_176_l1] at h
 refine sr ?_
 refine sT 9 (bV (ltI t8 (t0.length : Int))) rfl (vb rfl rfl rfl (b_lss rfl)) ?_
 refine sq_nil ?_
 refine ht_seq ?_
 refine ht_cond rfl (fun e9 => ?_) (fun e9 => ?_)
 ·replace h := cpos e9 h
  refine ht_skip ?_
  refine ht_seq ?_
  refine ht_block ?_
  refine sr ?_
  refine sM 10 (iV t8) rfl rfl ?_
  refine sM 5 (iV t8) rfl rfl ?_
  refine sq_nil ?_
  refine sr ?_
  refine sM 11 (.d (.fn 176 [(.dp [(.s (.int .i64 t1u0))])])) rfl rfl ?_
  refine sM 12 (.d (.sl 11 (t0.map eDone))) rfl rfl ?_
  refine sM 13 (iV t8) rfl rfl ?_
  obtain ⟨e10, h⟩ := gpos h
  refine sT 14 (.d (.dp (eDone (rd t0 t8)))) rfl (w_idx t0 eDone rfl · · · slT43 rfl rfl e10) ?_
  refine sP 15 (eDone (rd t0 t8)) (eDone (rd t0 t8)) ag100 rfl rfl rfl rfl rfl ?_
  obtain ⟨t16, c11, h⟩ := bpos h
  refine sT 16 (bV t16) rfl (w_call (ds := [(.agg (eDone (rd t0 t8)))]) (caps := [(.dp [(.s (.int .i64 t1u0))])]) (l := [(.s (.bool t16))]) (s176 k (rd t0 t8) t1u0 _ c11) rfl rfl rfl en176 · · · (.inr rfl) rfl rfl) ?_
  refine sq_nil ?_
  refine ht_cond rfl (fun e12 => ?_) (fun e12 => ?_)
  ·replace h := cpos e12 h
   refine sr ?_
   refine sM 17 (iV t8) rfl rfl ?_
   refine sM 4 (iV t8) rfl rfl ?_
   refine sz ?_
   cases h
   cases r5 _ rfl
   exact ret1 rfl (.tmp rfl)
  replace h := cneg e12 h
  refine ht_skip ?_
  refine ht_region ?_
  refine sT 18 (iV (IntKind.wrap .i64 (t8 + 1))) rfl (vb rfl rfl rfl (b_add rfl)) ?_
  refine sM 8 (iV (IntKind.wrap .i64 (t8 + 1))) rfl rfl ?_
  refine sq_nil ?_
  exact j7 _ _ h (wi rfl rfl)
 replace h := cneg e9 h
 refine ht_exit ?_
 refine tq ?_
 refine tq ?_
 refine bq_hit ?_
 cases h
 exact j4 _ _ rfl (wi rfl rfl)
theorem s157 (k : Nat) (t0 : List Done) (t1 : Int) (r : Int × Bool) (h : F157 k t0 t1 = some r) : Awp.Spec Tryz.prog amb 157 [(.sl 11 (t0.map eDone)), (.s (.int .i64 t1))] (.ds [(.s (.int .i64 r.1)), (.s (.bool r.2))]) := by
 rw [F157] at h
 refine spec_of Tryz.func157 rfl (ble _ _ rfl) fun w0 ok0 lt0 hA => ?_
 refine sr ?_
 refine sT 3 (.d (.dp [(.s (.int .i64 t1))])) rfl (v_box_d (cs := [(.s (.int .i64 t1))]) rfl · · · rfl rfl (ones_of rfl)) ?_
 refine sM 4 (iV 0) rfl rfl ?_
 refine sM 5 (bV false) rfl rfl ?_
 refine sq_nil ?_
 refine sr ?_
 refine sM 7 (.d (.sl 11 (t0.map eDone))) rfl rfl ?_
 refine sT 8 (.d (.fn 176 [(.dp [(.s (.int .i64 t1))])])) rfl (v_func_d (ds := [(.dp [(.s (.int .i64 t1))])]) rfl · · · rfl) ?_
 obtain ⟨t9, c1, h⟩ := bpos h
 refine sC 9 (iV t9) (s175_176 k t0 t1 _ c1) en175 rfl rfl rfl rfl ?_
 refine sM 6 (iV t9) rfl rfl ?_
 refine sq_nil ?_
 refine ht_seq ?_
 refine sr ?_
 refine sM 10 (iV t9) rfl rfl ?_
 refine sT 11 (bV (ltI t9 0)) rfl (vb rfl rfl rfl (b_lss rfl)) ?_
 refine sq_nil ?_
 refine ht_cond rfl (fun e2 => ?_) (fun e2 => ?_)
 ·replace h := cpos e2 h
  refine sr ?_
  refine sM 12 (.d (.sl 11 (t0.map eDone))) rfl rfl ?_
  refine sT 13 (iV (t0.length : Int)) rfl (w_len t0 eDone rfl rfl · · · slT43 rfl) ?_
  refine sM 4 (iV (t0.length : Int)) rfl rfl ?_
  refine sM 5 (bV false) rfl rfl ?_
  refine sz ?_
  cases h
  exact ret2 rfl (.tmp rfl) (.tmp rfl)
 replace h := cneg e2 h
 refine ht_skip ?_
 refine ht_seq ?_
 refine ht_region_draw mixed ?_
 refine rM 14 (iV t9) rfl rfl ?_
 refine rM 15 (.d (.sl 11 (t0.map eDone))) rfl rfl ?_
 refine rM 16 (iV t9) rfl rfl ?_
 obtain ⟨e3, h⟩ := gpos h
 refine rT 17 (.d (.dp (eDone (rd t0 t9)))) rfl (w_idx t0 eDone rfl · · · slT43 rfl rfl e3) ?_
 refine rD 18 (eDone (rd t0 t9)) fo100_0 rfl rfl rfl ?_
 refine rT 19 (iV (rd t0 t9).mClient) rfl (vl rfl onT3 rfl rfl) ?_
 refine rT 20 (iV t1) rfl (vl rfl onT3 rfl rfl) ?_
 refine rT 21 (bV (eqI (rd t0 t9).mClient t1)) rfl (vb rfl rfl rfl (b_eql rfl)) ?_
 refine rM 4 (iV t9) rfl rfl ?_
 refine rM 5 (bV (eqI (rd t0 t9).mClient t1)) rfl rfl ?_
 refine rg_nil ⟨by kernel_rfl, ?_⟩
 refine ht_ret ?_
 cases h
 exact ret2 rfl (.tmp rfl) (.tmp rfl)
theorem s126 (k : Nat) (t0 : List Done) (t1 : Int) (r : Done × Bool) (h : F126 k t0 t1 = some r) : Awp.Spec Tryz.prog amb 126 [(.sl 11 (t0.map eDone)), (.s (.int .i64 t1))] (.ds [(.agg (eDone r.1)), (.s (.bool r.2))]) := by
 rw [F126] at h
 refine spec_of Tryz.func126 rfl (ble _ _ rfl) fun w0 ok0 lt0 hA => ?_
 refine sr ?_
 refine sq_cons _ (v_alloc (id := 4) (cs := zc100) rfl trivial rfl (ble _ _ rfl) zu100 rfl ft100 rfl) ?_
 refine sM 5 (bV false) rfl rfl ?_
 refine sq_nil ?_
 refine ht_seq ?_
 refine sr ?_
 refine sM 8 (.d (.sl 11 (t0.map eDone))) rfl rfl ?_
 obtain ⟨t9, c1, h⟩ := bpos h
 refine sC 9 (bV t9) (s82 k t0 _ c1) en82 rfl rfl rfl rfl ?_
 refine sT 10 (bV (!t9)) rfl (vu rfl rfl (u_not rfl)) ?_
 refine sq_nil ?_
 refine ht_cond rfl (fun e2 => ?_) (fun e2 => ?_)
 ·replace h := cpos e2 h
  refine sr ?_
  refine sT 11 (.d (.agg (eDone (⟨0, 0, (⟨0, (⟨0, 0, 0⟩ : Stamp), false, ⟨#[]⟩, [], ⟨#[]⟩, false⟩ : Answer)⟩ : Done)))) rfl (w_bld zc100 ((eDone (⟨0, 0, (⟨0, (⟨0, 0, 0⟩ : Stamp), false, ⟨#[]⟩, [], ⟨#[]⟩, false⟩ : Answer)⟩ : Done)).map V.d) [] rfl · · · zw100 rfl ft100 rfl rfl rfl rfl) ?_
  refine sS 4 0 ((eDone (⟨0, 0, (⟨0, (⟨0, 0, 0⟩ : Stamp), false, ⟨#[]⟩, [], ⟨#[]⟩, false⟩ : Answer)⟩ : Done)).map V.d) sz100 rfl rfl rfl rfl rfl (ones_of rfl) rfl ?_
  refine sM 5 (bV false) rfl rfl ?_
  refine sz ?_
  cases h
  exact ret2 rfl (.cell rfl rfl ag100 (ble _ _ rfl) rfl) (.tmp rfl)
 replace h := cneg e2 h
 refine ht_skip ?_
 refine sr ?_
 refine sM 13 (.d (.sl 11 (t0.map eDone))) rfl rfl ?_
 refine sM 14 (iV t1) rfl rfl ?_
 obtain ⟨⟨t15a, t15b⟩, c3, h⟩ := bpos h
 refine sC 15 (.tup [iV t15a, bV t15b]) (s157 k t0 t1 _ c3) en157 rfl rfl rfl rfl ?_
 refine sM 12 (.tup [iV t15a, bV t15b]) rfl rfl ?_
 refine sT 16 (iV t15a) rfl (ve rfl rfl rfl) ?_
 refine sT 17 (bV t15b) rfl (ve rfl rfl rfl) ?_
 refine sM 6 (iV t15a) rfl rfl ?_
 refine sM 7 (bV t15b) rfl rfl ?_
 refine sq_nil ?_
 refine ht_seq ?_
 refine sr ?_
 refine sM 18 (bV t15b) rfl rfl ?_
 refine sT 19 (bV (!t15b)) rfl (vu rfl rfl (u_not rfl)) ?_
 refine sq_nil ?_
 refine ht_cond rfl (fun e4 => ?_) (fun e4 => ?_)
 ·replace h := cpos e4 h
  refine sr ?_
  refine sT 20 (.d (.agg (eDone (⟨0, 0, (⟨0, (⟨0, 0, 0⟩ : Stamp), false, ⟨#[]⟩, [], ⟨#[]⟩, false⟩ : Answer)⟩ : Done)))) rfl (w_bld zc100 ((eDone (⟨0, 0, (⟨0, (⟨0, 0, 0⟩ : Stamp), false, ⟨#[]⟩, [], ⟨#[]⟩, false⟩ : Answer)⟩ : Done)).map V.d) [] rfl · · · zw100 rfl ft100 rfl rfl rfl rfl) ?_
  refine sS 4 0 ((eDone (⟨0, 0, (⟨0, (⟨0, 0, 0⟩ : Stamp), false, ⟨#[]⟩, [], ⟨#[]⟩, false⟩ : Answer)⟩ : Done)).map V.d) sz100 rfl rfl rfl rfl rfl (ones_of rfl) rfl ?_
  refine sM 5 (bV false) rfl rfl ?_
  refine sz ?_
  cases h
  exact ret2 rfl (.cell rfl rfl ag100 (ble _ _ rfl) rfl) (.tmp rfl)
 replace h := cneg e4 h
 refine ht_skip ?_
 refine sr ?_
 refine sM 21 (.d (.sl 11 (t0.map eDone))) rfl rfl ?_
 refine sM 22 (iV t15a) rfl rfl ?_
 obtain ⟨e5, h⟩ := gpos h
 refine sT 23 (.d (.dp (eDone (rd t0 t15a)))) rfl (w_idx t0 eDone rfl · · · slT43 rfl rfl e5) ?_
 refine sP 24 (eDone (rd t0 t15a)) (eDone (rd t0 t15a)) ag100 rfl rfl rfl rfl rfl ?_
 refine sS 4 0 ((eDone (rd t0 t15a)).map V.d) sz100 rfl rfl rfl rfl rfl (ones_of rfl) rfl ?_
 refine sM 5 (bV true) rfl rfl ?_
 refine sz ?_
 cases h
 exact ret2 rfl (.cell rfl rfl ag100 (ble _ _ rfl) rfl) (.tmp rfl)
theorem s125 (k : Nat) (t0 : List Done) (t1 : Int) (t2 : Int) (r : Int) (h : F125 k t0 t1 t2 = some r) : Awp.Spec Tryz.prog amb 125 [(.sl 11 (t0.map eDone)), (.s (.int .i64 t1)), (.s (.int .i64 t2))] (.ds [(.s (.int .i64 r))]) := by
 rw [F125] at h
 refine spec_of Tryz.func125 rfl (ble _ _ rfl) fun w0 ok0 lt0 hA => ?_
 refine sr ?_
 refine sM 6 (iV 0) rfl rfl ?_
 refine sq_nil ?_
 refine ht_seq ?_
 refine sr ?_
 refine sM 9 (.d (.sl 11 (t0.map eDone))) rfl rfl ?_
 obtain ⟨t10, c1, h⟩ := bpos h
 refine sC 10 (bV t10) (s82 k t0 _ c1) en82 rfl rfl rfl rfl ?_
 refine sT 11 (bV (!t10)) rfl (vu rfl rfl (u_not rfl)) ?_
 refine sM 12 (bV (!t10)) rfl rfl ?_
 refine sF 13 (iV t1) rfl rfl (fun e2 => (vm rfl rfl)) ?_
 obtain ⟨t14, c4, h⟩ := bpos h
 refine sF 14 (bV t14) rfl rfl (fun e3 => (vC (s137 k t1 _ (cpos (nF e3) c4)) en137 · · · rfl (cc (gv (nF e3)) rfl) rfl)) ?_
 refine sF 15 (bV (!t14)) rfl rfl (fun e5 => (vu rfl (gv (nF e5)) (u_not rfl))) ?_
 refine sT 16 (bV ((!t10) || (!t14))) rfl (vp rfl rfl (fun e6 => rfl) (fun e7 => (gv (nF e7))) (pO _ _)) ?_
 refine sM 17 (bV ((!t10) || (!t14))) rfl rfl ?_
 refine sF 18 (iV t2) rfl rfl (fun e8 => (vm rfl rfl)) ?_
 obtain ⟨t19, c10, h⟩ := bpos h
 refine sF 19 (bV t19) rfl rfl (fun e9 => (vC (s137 k t2 _ (cpos (nF e9) c10)) en137 · · · rfl (cc (gv (nF e9)) rfl) rfl)) ?_
 refine sF 20 (bV (!t19)) rfl rfl (fun e11 => (vu rfl (gv (nF e11)) (u_not rfl))) ?_
 refine sT 21 (bV (((!t10) || (!t14)) || (!t19))) rfl (vp rfl rfl (fun e12 => rfl) (fun e13 => (gv (nF e13))) (pO _ _)) ?_
 refine sq_nil ?_
 refine ht_cond rfl (fun e14 => ?_) (fun e14 => ?_)
 ·replace h := cpos e14 h
  refine sr ?_
  refine sM 6 (iV 0) rfl rfl ?_
  refine sz ?_
  cases h
  exact ret1 rfl (.tmp rfl)
 replace h := cneg e14 h
 refine ht_skip ?_
 refine sr ?_
 refine sM 23 (.d (.sl 11 (t0.map eDone))) rfl rfl ?_
 refine sM 24 (iV t1) rfl rfl ?_
 obtain ⟨⟨t25a, t25b⟩, c15, h⟩ := bpos h
 refine sC 25 (.tup [.d (.agg (eDone t25a)), bV t25b]) (s126 k t0 t1 _ c15) en126 rfl rfl rfl rfl ?_
 refine sM 22 (.tup [.d (.agg (eDone t25a)), bV t25b]) rfl rfl ?_
 refine sT 26 (.d (.agg (eDone t25a))) rfl (ve rfl rfl rfl) ?_
 refine sT 27 (bV t25b) rfl (ve rfl rfl rfl) ?_
 refine sq_cons _ (v_alloc (id := 7) (cs := zc100) rfl trivial rfl (ble _ _ rfl) zu100 rfl ft100 rfl) ?_
 refine sS 7 0 ((eDone t25a).map V.d) sz100 rfl rfl rfl rfl rfl (ones_of rfl) rfl ?_
 refine sM 8 (bV t25b) rfl rfl ?_
 refine sq_nil ?_
 refine ht_seq ?_
 refine ht_block ?_
 refine sr ?_
 refine sM 29 (bV t25b) rfl rfl ?_
 refine sT 30 (bV (!t25b)) rfl (vu rfl rfl (u_not rfl)) ?_
 refine sM 31 (bV (!t25b)) rfl rfl ?_
 refine sF 32 (iV t2) rfl rfl (fun e16 => (vm rfl rfl)) ?_
 refine sF 33 (.ptr 7 1) rfl rfl (fun e17 => (v_field_box (off := 0) (a0 := 1) rfl · · · fo100_1 rfl)) ?_
 refine sF 34 (iV t25a.mReq) rfl rfl (fun e18 => (v_load_box1 (id := 7) (off := 1) rfl · · · onT3 (gv (nF e18)) rfl (ble _ _ rfl) rfl)) ?_
 refine sF 35 (bV (ltI t25a.mReq t2)) rfl rfl (fun e19 => (vb rfl (gv (nF e19)) (gv (nF e19)) (b_gtr rfl))) ?_
 refine sT 36 (bV ((!t25b) || (ltI t25a.mReq t2))) rfl (vp rfl rfl (fun e20 => rfl) (fun e21 => (gv (nF e21))) (pO _ _)) ?_
 refine sM 28 (bV ((!t25b) || (ltI t25a.mReq t2))) rfl rfl ?_
 refine sq_nil ?_
 refine ht_cond rfl (fun e22 => ?_) (fun e22 => ?_)
 ·replace h := cpos e22 h
  refine sr ?_
  refine sM 6 (iV 1) rfl rfl ?_
  refine sz ?_
  cases h
  exact ret1 rfl (.tmp rfl)
 replace h := cneg e22 h
 refine sr ?_
 refine sM 38 (iV t2) rfl rfl ?_
 refine sT 39 (.ptr 7 1) rfl (v_field_box (off := 0) (a0 := 1) rfl · · · fo100_1 rfl) ?_
 refine sT 40 (iV t25a.mReq) rfl (v_load_box1 (id := 7) (off := 1) rfl · · · onT3 rfl rfl (ble _ _ rfl) rfl) ?_
 refine sT 41 (bV (eqI t2 t25a.mReq)) rfl (vb rfl rfl rfl (b_eql rfl)) ?_
 refine sM 37 (bV (eqI t2 t25a.mReq)) rfl rfl ?_
 refine sq_nil ?_
 refine ht_cond rfl (fun e23 => ?_) (fun e23 => ?_)
 ·replace h := cpos e23 h
  refine sr ?_
  refine sM 6 (iV 2) rfl rfl ?_
  refine sz ?_
  cases h
  exact ret1 rfl (.tmp rfl)
 replace h := cneg e23 h
 refine ht_skip ?_
 refine sr ?_
 refine sM 6 (iV 3) rfl rfl ?_
 refine sz ?_
 cases h
 exact ret1 rfl (.tmp rfl)
theorem s172 (k : Nat) (t0 : Entry) (t1 : ByteArray) (r : Int) (h : F172 k t0 t1 = some r) : Awp.Spec Tryz.prog amb 172 [(.agg (eEntry t0)), (.s (.string t1))] (.ds [(.s (.int .i64 r))]) := by
 rw [F172] at h
 refine spec_of Tryz.func172 rfl (ble _ _ rfl) fun w0 ok0 lt0 hA => ?_
 refine sr ?_
 refine sT 2 (.d (.dp (eEntry t0))) rfl (v_box_d (cs := (eEntry t0)) rfl · · · rfl rfl (ones_of rfl)) ?_
 refine sM 4 (iV 0) rfl rfl ?_
 refine sq_nil ?_
 refine sr ?_
 refine sD 5 (eEntry t0) fo116_0 rfl rfl rfl ?_
 refine sT 6 (sV t0.mKey) rfl (vl rfl onT9 rfl rfl) ?_
 refine sM 7 (sV t1) rfl rfl ?_
 obtain ⟨t8, c1, h⟩ := bpos h
 refine sC 8 (iV t8) (s124 k t0.mKey t1 _ c1) en124 rfl rfl rfl rfl ?_
 refine sM 4 (iV t8) rfl rfl ?_
 refine sz ?_
 cases h
 exact ret1 rfl (.tmp rfl)
theorem s171_172 (k : Nat) (t0 : List Entry) (t1 : ByteArray) (r : Int × Bool) (h : F171_172 k t0 t1 = some r) : Awp.Spec Tryz.prog amb 171 [(.sl 2 (t0.map eEntry)), (.s (.string t1)), (.fn 172 [])] (.ds [(.s (.int .i64 r.1)), (.s (.bool r.2))]) := by
 rw [F171_172] at h
 refine spec_of Tryz.func171 rfl (ble _ _ rfl) fun w0 ok0 lt0 hA => ?_
 refine sr ?_
 refine sM 6 (iV 0) rfl rfl ?_
 refine sM 7 (bV false) rfl rfl ?_
 refine sq_nil ?_
 refine sr ?_
 refine sM 12 (.d (.sl 2 (t0.map eEntry))) rfl rfl ?_
 refine sT 13 (iV (t0.length : Int)) rfl (w_len t0 eEntry rfl rfl · · · slT42 rfl) ?_
 refine sM 8 (iV (t0.length : Int)) rfl rfl ?_
 refine sq_nil ?_
 refine sr ?_
 refine sM 14 (iV (t0.length : Int)) rfl rfl ?_
 refine sM 9 (iV 0) rfl rfl ?_
 refine sM 10 (iV (t0.length : Int)) rfl rfl ?_
 refine sq_nil ?_
 refine ht_bj h (fun t9 => tell [(.t 0, .d (.sl 2 (t0.map eEntry))), (.t 1, sV t1), (.t 2, .d (.fn 172 [])), (.t 8, iV (t0.length : Int)), (.t 9, iV t9)]) (fun t9 h => ?_) (fun v1 K2 h j4 => ?_)
 ·refine sr ?_
  refine sM 35 (iV t9) rfl rfl ?_
  refine sM 36 (iV t9) rfl rfl ?_
  refine sM 37 (iV (t0.length : Int)) rfl rfl ?_
  refine sT 38 (bV (ltI t9 (t0.length : Int))) rfl (vb rfl rfl rfl (b_lss rfl)) ?_
  refine sM 39 (bV (ltI t9 (t0.length : Int))) rfl rfl ?_
  refine sG 40 (.d (.fn 172 [])) rfl rfl (fun e15 => (vm rfl rfl)) ?_
  refine sG 41 (.d (.sl 2 (t0.map eEntry))) rfl rfl (fun e16 => (vm rfl rfl)) ?_
  refine sG 42 (iV t9) rfl rfl (fun e17 => (vm rfl rfl)) ?_
  obtain ⟨e19, h⟩ := gpos h
  refine sG 43 (.d (.dp (eEntry (rd t0 t9)))) rfl rfl (fun e18 => (w_idx t0 eEntry rfl · · · slT42 (gv e18) (gv e18) (orT e19 e18))) ?_
  refine sG 44 (.d (.agg (eEntry (rd t0 t9)))) rfl rfl (fun e20 => (w_ldp (eEntry (rd t0 t9)) (eEntry (rd t0 t9)) rfl · · · ag116 (gv e20) (ble _ _ rfl) rfl)) ?_
  refine sG 45 (sV t1) rfl rfl (fun e21 => (vm rfl rfl)) ?_
  obtain ⟨t46, c23, h⟩ := bpos h
  refine sG 46 (iV t46) rfl rfl (fun e22 => (w_call (ds := [(.agg (eEntry (rd t0 t9))), (.s (.string t1))]) (caps := []) (l := [(.s (.int .i64 t46))]) (s172 k (rd t0 t9) t1 _ (cpos e22 c23)) rfl rfl rfl en172 · · · (.inr (gv e22)) (cc (gv e22) (cc (gv e22) rfl)) rfl)) ?_
  refine sG 47 (bV (eqI t46 0)) rfl rfl (fun e24 => (vb rfl (gv e24) rfl (b_eql rfl))) ?_
  refine sT 48 (bV ((ltI t9 (t0.length : Int)) && (eqI t46 0))) rfl (vp rfl rfl (fun e25 => (gv e25)) (fun e26 => rfl) (pA _ _)) ?_
  refine sM 6 (iV t9) rfl rfl ?_
  refine sM 7 (bV ((ltI t9 (t0.length : Int)) && (eqI t46 0))) rfl rfl ?_
  refine sz ?_
  cases h
  exact ret2 rfl (.tmp rfl) (.tmp rfl)
 refine ht_block ?_
 refine ht_rd h (fun _ => rfl) (fun (t9_1, t10) => tell [(.t 0, .d (.sl 2 (t0.map eEntry))), (.t 1, sV t1), (.t 2, .d (.fn 172 [])), (.t 8, iV (t0.length : Int)), (.t 9, iV t9_1), (.t 10, iV t10)]) (wi rfl rfl) fun k v8 h K14 j7 => ?_
 obtain ⟨t9_1, t10⟩ := v8
 rw [F171_172_l1] at h
 refine ht_seq ?_
 refine sr ?_
 refine sM 15 (iV t9_1) rfl rfl ?_
 refine sM 16 (iV t10) rfl rfl ?_
 refine sT 17 (bV (ltI t9_1 t10)) rfl (vb rfl rfl rfl (b_lss rfl)) ?_
 refine sq_nil ?_
 refine ht_cond rfl (fun e9 => ?_) (fun e9 => ?_)
 ·replace h := cpos e9 h
  refine ht_skip ?_
  refine ht_block ?_
  refine sr ?_
  refine sM 18 (iV t9_1) rfl rfl ?_
  refine sM 19 (iV t10) rfl rfl ?_
  refine sT 20 (iV (IntKind.wrap .i64 (t9_1 + t10))) rfl (vb rfl rfl rfl (b_add rfl)) ?_
  refine sT 21 (nV .u64 (IntKind.wrap .u64 (IntKind.wrap .i64 (t9_1 + t10)))) rfl (v_conv rfl · · · rfl (c_int und3 und78 rfl)) ?_
  obtain ⟨t22, q10, h⟩ := bndp h
  refine sT 22 (nV .u64 t22) rfl (vb rfl rfl rfl (b_shr rfl q10)) ?_
  refine sT 23 (iV (IntKind.wrap .i64 t22)) rfl (v_conv rfl · · · rfl (c_int und78 und3 rfl)) ?_
  refine sM 11 (iV (IntKind.wrap .i64 t22)) rfl rfl ?_
  refine sq_nil ?_
  refine sr ?_
  refine sM 24 (.d (.fn 172 [])) rfl rfl ?_
  refine sM 25 (.d (.sl 2 (t0.map eEntry))) rfl rfl ?_
  refine sM 26 (iV (IntKind.wrap .i64 t22)) rfl rfl ?_
  obtain ⟨e11, h⟩ := gpos h
  refine sT 27 (.d (.dp (eEntry (rd t0 (IntKind.wrap .i64 t22))))) rfl (w_idx t0 eEntry rfl · · · slT42 rfl rfl e11) ?_
  refine sP 28 (eEntry (rd t0 (IntKind.wrap .i64 t22))) (eEntry (rd t0 (IntKind.wrap .i64 t22))) ag116 rfl rfl rfl rfl rfl ?_
  refine sM 29 (sV t1) rfl rfl ?_
  obtain ⟨t30, c12, h⟩ := bpos h
  refine sT 30 (iV t30) rfl (w_call (ds := [(.agg (eEntry (rd t0 (IntKind.wrap .i64 t22)))), (.s (.string t1))]) (caps := []) (l := [(.s (.int .i64 t30))]) (s172 k (rd t0 (IntKind.wrap .i64 t22)) t1 _ c12) rfl rfl rfl en172 · · · (.inr rfl) rfl rfl) ?_
  refine sT 31 (bV (ltI t30 0)) rfl (vb rfl rfl rfl (b_lss rfl)) ?_
  refine sq_nil ?_
  refine ht_cond rfl (fun e13 => ?_) (fun e13 => ?_)
  ·replace h := cpos e13 h
   refine ht_region ?_
   refine sM 32 (iV (IntKind.wrap .i64 t22)) rfl rfl ?_
   refine sT 33 (iV (IntKind.wrap .i64 ((IntKind.wrap .i64 t22) + 1))) rfl (vb rfl rfl rfl (b_add rfl)) ?_
   refine sM 9 (iV (IntKind.wrap .i64 ((IntKind.wrap .i64 t22) + 1))) rfl rfl ?_
   refine sq_nil ?_
   exact j7 _ _ h (wi rfl rfl)
  replace h := cneg e13 h
  refine ht_region ?_
  refine sM 34 (iV (IntKind.wrap .i64 t22)) rfl rfl ?_
  refine sM 10 (iV (IntKind.wrap .i64 t22)) rfl rfl ?_
  refine sq_nil ?_
  exact j7 _ _ h (wi rfl rfl)
 replace h := cneg e9 h
 refine ht_exit ?_
 refine tq ?_
 refine tq ?_
 refine bq_hit ?_
 cases h
 exact j4 _ (wi rfl rfl)
theorem s148 (k : Nat) (t0 : List Entry) (t1 : ByteArray) (r : Int × Bool) (h : F148 k t0 t1 = some r) : Awp.Spec Tryz.prog amb 148 [(.sl 2 (t0.map eEntry)), (.s (.string t1))] (.ds [(.s (.int .i64 r.1)), (.s (.bool r.2))]) := by
 rw [F148] at h
 refine spec_of Tryz.func148 rfl (ble _ _ rfl) fun w0 ok0 lt0 hA => ?_
 refine sr ?_
 refine sM 4 (iV 0) rfl rfl ?_
 refine sM 5 (bV false) rfl rfl ?_
 refine sq_nil ?_
 refine sr ?_
 refine sM 6 (.d (.sl 2 (t0.map eEntry))) rfl rfl ?_
 refine sM 7 (sV t1) rfl rfl ?_
 obtain ⟨⟨t8a, t8b⟩, c1, h⟩ := bpos h
 refine sT 8 (.tup [iV t8a, bV t8b]) rfl (w_call2 (ds := [(.sl 2 (t0.map eEntry)), (.s (.string t1)), (.fn 172 [])]) (caps := []) (l := [(.s (.int .i64 t8a)), (.s (.bool t8b))]) (s171_172 k t0 t1 _ c1) rfl rfl rfl en171 · · · (.inl ⟨rfl, rfl⟩) (.c (.d _) (.c (.d _) (.c (.fn _ []) .n))) rfl) ?_
 refine sT 9 (iV t8a) rfl (ve rfl rfl rfl) ?_
 refine sT 10 (bV t8b) rfl (ve rfl rfl rfl) ?_
 refine sM 4 (iV t8a) rfl rfl ?_
 refine sM 5 (bV t8b) rfl rfl ?_
 refine sz ?_
 cases h
 exact ret2 rfl (.tmp rfl) (.tmp rfl)
theorem s183 (k : Nat) (t0 : Version) (t1 : Stamp) (r : Int) (h : F183 k t0 t1 = some r) : Awp.Spec Tryz.prog amb 183 [(.agg (eVersion t0)), (.agg (eStamp t1))] (.ds [(.s (.int .i64 r))]) := by
 rw [F183] at h
 refine spec_of Tryz.func183 rfl (ble _ _ rfl) fun w0 ok0 lt0 hA => ?_
 refine sr ?_
 refine sT 2 (.d (.dp (eVersion t0))) rfl (v_box_d (cs := (eVersion t0)) rfl · · · rfl rfl (ones_of rfl)) ?_
 refine sT 3 (.d (.dp (eStamp t1))) rfl (v_box_d (cs := (eStamp t1)) rfl · · · rfl rfl (ones_of rfl)) ?_
 refine sM 4 (iV 0) rfl rfl ?_
 refine sq_nil ?_
 refine sr ?_
 refine sD 5 (eVersion t0) fo93_0 rfl rfl rfl ?_
 refine sP 6 (eVersion t0) (eStamp t0.mAt) ag24 rfl rfl rfl rfl rfl ?_
 refine sP 7 (eStamp t1) (eStamp t1) ag24 rfl rfl rfl rfl rfl ?_
 obtain ⟨t8, c1, h⟩ := bpos h
 refine sC 8 (iV t8) (s42 k t0.mAt t1 _ c1) en42 rfl rfl rfl rfl ?_
 refine sM 4 (iV t8) rfl rfl ?_
 refine sz ?_
 cases h
 exact ret1 rfl (.tmp rfl)
theorem s182_183 (k : Nat) (t0 : List Version) (t1 : Stamp) (r : Int × Bool) (h : F182_183 k t0 t1 = some r) : Awp.Spec Tryz.prog amb 182 [(.sl 5 (t0.map eVersion)), (.agg (eStamp t1)), (.fn 183 [])] (.ds [(.s (.int .i64 r.1)), (.s (.bool r.2))]) := by
 rw [F182_183] at h
 refine spec_of Tryz.func182 rfl (ble _ _ rfl) fun w0 ok0 lt0 hA => ?_
 refine sr ?_
 refine sT 4 (.d (.dp (eStamp t1))) rfl (v_box_d (cs := (eStamp t1)) rfl · · · rfl rfl (ones_of rfl)) ?_
 refine sM 6 (iV 0) rfl rfl ?_
 refine sM 7 (bV false) rfl rfl ?_
 refine sq_nil ?_
 refine sr ?_
 refine sM 12 (.d (.sl 5 (t0.map eVersion))) rfl rfl ?_
 refine sT 13 (iV (t0.length : Int)) rfl (w_len t0 eVersion rfl rfl · · · slT96 rfl) ?_
 refine sM 8 (iV (t0.length : Int)) rfl rfl ?_
 refine sq_nil ?_
 refine sr ?_
 refine sM 14 (iV (t0.length : Int)) rfl rfl ?_
 refine sM 9 (iV 0) rfl rfl ?_
 refine sM 10 (iV (t0.length : Int)) rfl rfl ?_
 refine sq_nil ?_
 refine ht_bj h (fun t9 => tell [(.t 0, .d (.sl 5 (t0.map eVersion))), (.t 2, .d (.fn 183 [])), (.t 4, .d (.dp (eStamp t1))), (.t 8, iV (t0.length : Int)), (.t 9, iV t9)]) (fun t9 h => ?_) (fun v1 K2 h j4 => ?_)
 ·refine ht_seq ?_
  refine ht_region_draw mixed ?_
  refine rM 35 (iV t9) rfl rfl ?_
  refine rM 36 (iV t9) rfl rfl ?_
  refine rM 37 (iV (t0.length : Int)) rfl rfl ?_
  refine rT 38 (bV (ltI t9 (t0.length : Int))) rfl (vb rfl rfl rfl (b_lss rfl)) ?_
  refine rM 39 (bV (ltI t9 (t0.length : Int))) rfl rfl ?_
  refine rG 40 (.d (.fn 183 [])) rfl rfl (fun e15 => (vm rfl rfl)) ?_
  refine rG 41 (.d (.sl 5 (t0.map eVersion))) rfl rfl (fun e16 => (vm rfl rfl)) ?_
  refine rG 42 (iV t9) rfl rfl (fun e17 => (vm rfl rfl)) ?_
  obtain ⟨e19, h⟩ := gpos h
  refine rG 43 (.d (.dp (eVersion (rd t0 t9)))) rfl rfl (fun e18 => (w_idx t0 eVersion rfl · · · slT96 (gv e18) (gv e18) (orT e19 e18))) ?_
  refine rG 44 (.d (.agg (eVersion (rd t0 t9)))) rfl rfl (fun e20 => (w_ldp (eVersion (rd t0 t9)) (eVersion (rd t0 t9)) rfl · · · ag93 (gv e20) (ble _ _ rfl) rfl)) ?_
  refine rG 45 (.d (.agg (eStamp t1))) rfl rfl (fun e21 => (w_ldp (eStamp t1) (eStamp t1) rfl · · · ag24 rfl (ble _ _ rfl) rfl)) ?_
  obtain ⟨t46, c23, h⟩ := bpos h
  refine rG 46 (iV t46) rfl rfl (fun e22 => (w_call (ds := [(.agg (eVersion (rd t0 t9))), (.agg (eStamp t1))]) (caps := []) (l := [(.s (.int .i64 t46))]) (s183 k (rd t0 t9) t1 _ (cpos e22 c23)) rfl rfl rfl en183 · · · (.inr (gv e22)) (cc (gv e22) (cc (gv e22) rfl)) rfl)) ?_
  refine rG 47 (bV (eqI t46 0)) rfl rfl (fun e24 => (vb rfl (gv e24) rfl (b_eql rfl))) ?_
  refine rT 48 (bV ((ltI t9 (t0.length : Int)) && (eqI t46 0))) rfl (vp rfl rfl (fun e25 => (gv e25)) (fun e26 => rfl) (pA _ _)) ?_
  refine rM 6 (iV t9) rfl rfl ?_
  refine rM 7 (bV ((ltI t9 (t0.length : Int)) && (eqI t46 0))) rfl rfl ?_
  refine rg_nil ⟨by kernel_rfl, ?_⟩
  refine ht_ret ?_
  cases h
  exact ret2 rfl (.tmp rfl) (.tmp rfl)
 refine ht_block ?_
 refine ht_rd h (fun _ => rfl) (fun (t9_1, t10) => tell [(.t 0, .d (.sl 5 (t0.map eVersion))), (.t 2, .d (.fn 183 [])), (.t 4, .d (.dp (eStamp t1))), (.t 8, iV (t0.length : Int)), (.t 9, iV t9_1), (.t 10, iV t10)]) (wi rfl rfl) fun k v8 h K14 j7 => ?_
 obtain ⟨t9_1, t10⟩ := v8
 rw [F182_183_l1] at h
 refine ht_seq ?_
 refine sr ?_
 refine sM 15 (iV t9_1) rfl rfl ?_
 refine sM 16 (iV t10) rfl rfl ?_
 refine sT 17 (bV (ltI t9_1 t10)) rfl (vb rfl rfl rfl (b_lss rfl)) ?_
 refine sq_nil ?_
 refine ht_cond rfl (fun e9 => ?_) (fun e9 => ?_)
 ·replace h := cpos e9 h
  refine ht_skip ?_
  refine ht_block ?_
  refine sr ?_
  refine sM 18 (iV t9_1) rfl rfl ?_
  refine sM 19 (iV t10) rfl rfl ?_
  refine sT 20 (iV (IntKind.wrap .i64 (t9_1 + t10))) rfl (vb rfl rfl rfl (b_add rfl)) ?_
  refine sT 21 (nV .u64 (IntKind.wrap .u64 (IntKind.wrap .i64 (t9_1 + t10)))) rfl (v_conv rfl · · · rfl (c_int und3 und78 rfl)) ?_
  obtain ⟨t22, q10, h⟩ := bndp h
  refine sT 22 (nV .u64 t22) rfl (vb rfl rfl rfl (b_shr rfl q10)) ?_
  refine sT 23 (iV (IntKind.wrap .i64 t22)) rfl (v_conv rfl · · · rfl (c_int und78 und3 rfl)) ?_
  refine sM 11 (iV (IntKind.wrap .i64 t22)) rfl rfl ?_
  refine sq_nil ?_
  refine ht_seq ?_
  refine ht_region_draw mixed ?_
  refine rM 24 (.d (.fn 183 [])) rfl rfl ?_
  refine rM 25 (.d (.sl 5 (t0.map eVersion))) rfl rfl ?_
  refine rM 26 (iV (IntKind.wrap .i64 t22)) rfl rfl ?_
  obtain ⟨e11, h⟩ := gpos h
  refine rT 27 (.d (.dp (eVersion (rd t0 (IntKind.wrap .i64 t22))))) rfl (w_idx t0 eVersion rfl · · · slT96 rfl rfl e11) ?_
  refine rP 28 (eVersion (rd t0 (IntKind.wrap .i64 t22))) (eVersion (rd t0 (IntKind.wrap .i64 t22))) ag93 rfl rfl rfl rfl rfl ?_
  refine rP 29 (eStamp t1) (eStamp t1) ag24 rfl rfl rfl rfl rfl ?_
  obtain ⟨t30, c12, h⟩ := bpos h
  refine rT 30 (iV t30) rfl (w_call (ds := [(.agg (eVersion (rd t0 (IntKind.wrap .i64 t22)))), (.agg (eStamp t1))]) (caps := []) (l := [(.s (.int .i64 t30))]) (s183 k (rd t0 (IntKind.wrap .i64 t22)) t1 _ c12) rfl rfl rfl en183 · · · (.inr rfl) rfl rfl) ?_
  refine rT 31 (bV (ltI t30 0)) rfl (vb rfl rfl rfl (b_lss rfl)) ?_
  refine rg_nil ⟨by kernel_rfl, ?_⟩
  refine ht_cond rfl (fun e13 => ?_) (fun e13 => ?_)
  ·replace h := cpos e13 h
   refine ht_region ?_
   refine sM 32 (iV (IntKind.wrap .i64 t22)) rfl rfl ?_
   refine sT 33 (iV (IntKind.wrap .i64 ((IntKind.wrap .i64 t22) + 1))) rfl (vb rfl rfl rfl (b_add rfl)) ?_
   refine sM 9 (iV (IntKind.wrap .i64 ((IntKind.wrap .i64 t22) + 1))) rfl rfl ?_
   refine sq_nil ?_
   exact j7 _ _ h (wi rfl rfl)
  replace h := cneg e13 h
  refine ht_region ?_
  refine sM 34 (iV (IntKind.wrap .i64 t22)) rfl rfl ?_
  refine sM 10 (iV (IntKind.wrap .i64 t22)) rfl rfl ?_
  refine sq_nil ?_
  exact j7 _ _ h (wi rfl rfl)
 replace h := cneg e9 h
 refine ht_exit ?_
 refine tq ?_
 refine tq ?_
 refine bq_hit ?_
 cases h
 exact j4 _ (wi rfl rfl)
theorem s169 (k : Nat) (t0 : List Version) (t1 : Stamp) (r : Int) (h : F169 k t0 t1 = some r) : Awp.Spec Tryz.prog amb 169 [(.sl 5 (t0.map eVersion)), (.agg (eStamp t1))] (.ds [(.s (.int .i64 r))]) := by
 rw [F169] at h
 refine spec_of Tryz.func169 rfl (ble _ _ rfl) fun w0 ok0 lt0 hA => ?_
 refine sr ?_
 refine sT 3 (.d (.dp (eStamp t1))) rfl (v_box_d (cs := (eStamp t1)) rfl · · · rfl rfl (ones_of rfl)) ?_
 refine sM 4 (iV 0) rfl rfl ?_
 refine sq_nil ?_
 refine sr ?_
 refine sM 8 (.d (.sl 5 (t0.map eVersion))) rfl rfl ?_
 refine sP 9 (eStamp t1) (eStamp t1) ag24 rfl rfl rfl rfl rfl ?_
 obtain ⟨⟨t10a, t10b⟩, c1, h⟩ := bpos h
 refine sT 10 (.tup [iV t10a, bV t10b]) rfl (w_call2 (ds := [(.sl 5 (t0.map eVersion)), (.agg (eStamp t1)), (.fn 183 [])]) (caps := []) (l := [(.s (.int .i64 t10a)), (.s (.bool t10b))]) (s182_183 k t0 t1 _ c1) rfl rfl rfl en182 · · · (.inl ⟨rfl, rfl⟩) (.c (.d _) (.c (.d _) (.c (.fn _ []) .n))) rfl) ?_
 refine sM 7 (.tup [iV t10a, bV t10b]) rfl rfl ?_
 refine sT 11 (iV t10a) rfl (ve rfl rfl rfl) ?_
 refine sT 12 (bV t10b) rfl (ve rfl rfl rfl) ?_
 refine sM 5 (iV t10a) rfl rfl ?_
 refine sM 6 (bV t10b) rfl rfl ?_
 refine sq_nil ?_
 refine ht_seq ?_
 refine sr ?_
 refine sM 13 (bV t10b) rfl rfl ?_
 refine sq_nil ?_
 refine ht_cond rfl (fun e2 => ?_) (fun e2 => ?_)
 ·replace h := cpos e2 h
  refine ht_region ?_
  refine sM 14 (iV t10a) rfl rfl ?_
  refine sT 15 (iV (IntKind.wrap .i64 (t10a + 1))) rfl (vb rfl rfl rfl (b_add rfl)) ?_
  refine sM 5 (iV (IntKind.wrap .i64 (t10a + 1))) rfl rfl ?_
  refine sq_nil ?_
  refine sr ?_
  refine sM 16 (iV (IntKind.wrap .i64 (t10a + 1))) rfl rfl ?_
  refine sM 4 (iV (IntKind.wrap .i64 (t10a + 1))) rfl rfl ?_
  refine sz ?_
  cases h
  exact ret1 rfl (.tmp rfl)
 replace h := cneg e2 h
 refine ht_skip ?_
 refine sr ?_
 refine sM 16 (iV t10a) rfl rfl ?_
 refine sM 4 (iV t10a) rfl rfl ?_
 refine sz ?_
 cases h
 exact ret1 rfl (.tmp rfl)
theorem s150 (k : Nat) (t0 : List Version) (t1 : Stamp) (r : Version × Bool) (h : F150 k t0 t1 = some r) : Awp.Spec Tryz.prog amb 150 [(.sl 5 (t0.map eVersion)), (.agg (eStamp t1))] (.ds [(.agg (eVersion r.1)), (.s (.bool r.2))]) := by
 rw [F150] at h
 refine spec_of Tryz.func150 rfl (ble _ _ rfl) fun w0 ok0 lt0 hA => ?_
 refine sr ?_
 refine sT 3 (.d (.dp (eStamp t1))) rfl (v_box_d (cs := (eStamp t1)) rfl · · · rfl rfl (ones_of rfl)) ?_
 refine sq_cons _ (v_alloc (id := 4) (cs := zc93) rfl trivial rfl (ble _ _ rfl) zu93 rfl ft93 rfl) ?_
 refine sM 5 (bV false) rfl rfl ?_
 refine sq_nil ?_
 refine ht_seq ?_
 refine sr ?_
 refine sM 7 (.d (.sl 5 (t0.map eVersion))) rfl rfl ?_
 obtain ⟨t8, c1, h⟩ := bpos h
 refine sC 8 (bV t8) (s136 k t0 _ c1) en136 rfl rfl rfl rfl ?_
 refine sT 9 (bV (!t8)) rfl (vu rfl rfl (u_not rfl)) ?_
 refine sq_nil ?_
 refine ht_cond rfl (fun e2 => ?_) (fun e2 => ?_)
 ·replace h := cpos e2 h
  refine sr ?_
  refine sT 10 (.d (.agg (eVersion (⟨(⟨0, 0, 0⟩ : Stamp), false, ⟨#[]⟩⟩ : Version)))) rfl (w_bld zc93 ((eVersion (⟨(⟨0, 0, 0⟩ : Stamp), false, ⟨#[]⟩⟩ : Version)).map V.d) [] rfl · · · zw93 rfl ft93 rfl rfl rfl rfl) ?_
  refine sS 4 0 ((eVersion (⟨(⟨0, 0, 0⟩ : Stamp), false, ⟨#[]⟩⟩ : Version)).map V.d) sz93 rfl rfl rfl rfl rfl (ones_of rfl) rfl ?_
  refine sM 5 (bV false) rfl rfl ?_
  refine sz ?_
  cases h
  exact ret2 rfl (.cell rfl rfl ag93 (ble _ _ rfl) rfl) (.tmp rfl)
 replace h := cneg e2 h
 refine ht_skip ?_
 refine sr ?_
 refine sM 11 (.d (.sl 5 (t0.map eVersion))) rfl rfl ?_
 refine sP 12 (eStamp t1) (eStamp t1) ag24 rfl rfl rfl rfl rfl ?_
 obtain ⟨t13, c3, h⟩ := bpos h
 refine sC 13 (iV t13) (s169 k t0 t1 _ c3) en169 rfl rfl rfl rfl ?_
 refine sM 6 (iV t13) rfl rfl ?_
 refine sq_nil ?_
 refine ht_seq ?_
 refine sr ?_
 refine sM 14 (iV t13) rfl rfl ?_
 refine sT 15 (bV (eqI t13 0)) rfl (vb rfl rfl rfl (b_eql rfl)) ?_
 refine sq_nil ?_
 refine ht_cond rfl (fun e4 => ?_) (fun e4 => ?_)
 ·replace h := cpos e4 h
  refine sr ?_
  refine sT 16 (.d (.agg (eVersion (⟨(⟨0, 0, 0⟩ : Stamp), false, ⟨#[]⟩⟩ : Version)))) rfl (w_bld zc93 ((eVersion (⟨(⟨0, 0, 0⟩ : Stamp), false, ⟨#[]⟩⟩ : Version)).map V.d) [] rfl · · · zw93 rfl ft93 rfl rfl rfl rfl) ?_
  refine sS 4 0 ((eVersion (⟨(⟨0, 0, 0⟩ : Stamp), false, ⟨#[]⟩⟩ : Version)).map V.d) sz93 rfl rfl rfl rfl rfl (ones_of rfl) rfl ?_
  refine sM 5 (bV false) rfl rfl ?_
  refine sz ?_
  cases h
  exact ret2 rfl (.cell rfl rfl ag93 (ble _ _ rfl) rfl) (.tmp rfl)
 replace h := cneg e4 h
 refine ht_skip ?_
 refine sr ?_
 refine sM 17 (.d (.sl 5 (t0.map eVersion))) rfl rfl ?_
 refine sM 18 (iV t13) rfl rfl ?_
 refine sT 19 (iV (IntKind.wrap .i64 (t13 - 1))) rfl (vb rfl rfl rfl (b_sub rfl)) ?_
 obtain ⟨e5, h⟩ := gpos h
 refine sT 20 (.d (.dp (eVersion (rd t0 (IntKind.wrap .i64 (t13 - 1)))))) rfl (w_idx t0 eVersion rfl · · · slT96 rfl rfl e5) ?_
 refine sP 21 (eVersion (rd t0 (IntKind.wrap .i64 (t13 - 1)))) (eVersion (rd t0 (IntKind.wrap .i64 (t13 - 1)))) ag93 rfl rfl rfl rfl rfl ?_
 refine sS 4 0 ((eVersion (rd t0 (IntKind.wrap .i64 (t13 - 1)))).map V.d) sz93 rfl rfl rfl rfl rfl (ones_of rfl) rfl ?_
 refine sM 5 (bV true) rfl rfl ?_
 refine sz ?_
 cases h
 exact ret2 rfl (.cell rfl rfl ag93 (ble _ _ rfl) rfl) (.tmp rfl)
theorem s118 (k : Nat) (t0 : List Entry) (t1 : ByteArray) (t2 : Stamp) (r : Version × Bool) (h : F118 k t0 t1 t2 = some r) : Awp.Spec Tryz.prog amb 118 [(.sl 2 (t0.map eEntry)), (.s (.string t1)), (.agg (eStamp t2))] (.ds [(.agg (eVersion r.1)), (.s (.bool r.2))]) := by
 rw [F118] at h
 refine spec_of Tryz.func118 rfl (ble _ _ rfl) fun w0 ok0 lt0 hA => ?_
 refine sr ?_
 refine sT 5 (.d (.dp (eStamp t2))) rfl (v_box_d (cs := (eStamp t2)) rfl · · · rfl rfl (ones_of rfl)) ?_
 refine sq_cons _ (v_alloc (id := 6) (cs := zc93) rfl trivial rfl (ble _ _ rfl) zu93 rfl ft93 rfl) ?_
 refine sM 7 (bV false) rfl rfl ?_
 refine sq_nil ?_
 refine ht_seq ?_
 refine sr ?_
 refine sM 10 (.d (.sl 2 (t0.map eEntry))) rfl rfl ?_
 obtain ⟨t11, c1, h⟩ := bpos h
 refine sC 11 (bV t11) (s81 k t0 _ c1) en81 rfl rfl rfl rfl ?_
 refine sT 12 (bV (!t11)) rfl (vu rfl rfl (u_not rfl)) ?_
 refine sq_nil ?_
 refine ht_cond rfl (fun e2 => ?_) (fun e2 => ?_)
 ·replace h := cpos e2 h
  refine sr ?_
  refine sT 13 (.d (.agg (eVersion (⟨(⟨0, 0, 0⟩ : Stamp), false, ⟨#[]⟩⟩ : Version)))) rfl (w_bld zc93 ((eVersion (⟨(⟨0, 0, 0⟩ : Stamp), false, ⟨#[]⟩⟩ : Version)).map V.d) [] rfl · · · zw93 rfl ft93 rfl rfl rfl rfl) ?_
  refine sS 6 0 ((eVersion (⟨(⟨0, 0, 0⟩ : Stamp), false, ⟨#[]⟩⟩ : Version)).map V.d) sz93 rfl rfl rfl rfl rfl (ones_of rfl) rfl ?_
  refine sM 7 (bV false) rfl rfl ?_
  refine sz ?_
  cases h
  exact ret2 rfl (.cell rfl rfl ag93 (ble _ _ rfl) rfl) (.tmp rfl)
 replace h := cneg e2 h
 refine ht_skip ?_
 refine sr ?_
 refine sM 15 (.d (.sl 2 (t0.map eEntry))) rfl rfl ?_
 refine sM 16 (sV t1) rfl rfl ?_
 obtain ⟨⟨t17a, t17b⟩, c3, h⟩ := bpos h
 refine sC 17 (.tup [iV t17a, bV t17b]) (s148 k t0 t1 _ c3) en148 rfl rfl rfl rfl ?_
 refine sM 14 (.tup [iV t17a, bV t17b]) rfl rfl ?_
 refine sT 18 (iV t17a) rfl (ve rfl rfl rfl) ?_
 refine sT 19 (bV t17b) rfl (ve rfl rfl rfl) ?_
 refine sM 8 (iV t17a) rfl rfl ?_
 refine sM 9 (bV t17b) rfl rfl ?_
 refine sq_nil ?_
 refine ht_seq ?_
 refine sr ?_
 refine sM 20 (bV t17b) rfl rfl ?_
 refine sT 21 (bV (!t17b)) rfl (vu rfl rfl (u_not rfl)) ?_
 refine sM 22 (bV (!t17b)) rfl rfl ?_
 refine sF 23 (.d (.sl 2 (t0.map eEntry))) rfl rfl (fun e4 => (vm rfl rfl)) ?_
 refine sF 24 (iV t17a) rfl rfl (fun e5 => (vm rfl rfl)) ?_
 obtain ⟨e7, h⟩ := gpos h
 refine sF 25 (.d (.dp (eEntry (rd t0 t17a)))) rfl rfl (fun e6 => (w_idx t0 eEntry rfl · · · slT42 (gv (nF e6)) (gv (nF e6)) (orT e7 (nF e6)))) ?_
 refine sF 26 (.d (.dp (eEntry (rd t0 t17a)))) rfl rfl (fun e8 => (vD (eEntry (rd t0 t17a)) fo116_0 · · · rfl (gv (nF e8)))) ?_
 refine sF 27 (sV (rd t0 t17a).mKey) rfl rfl (fun e9 => (vl rfl onT9 (gv (nF e9)) rfl)) ?_
 refine sF 28 (sV t1) rfl rfl (fun e10 => (vm rfl rfl)) ?_
 refine sF 29 (bV (!strEq (rd t0 t17a).mKey t1)) rfl rfl (fun e11 => (vb rfl (gv (nF e11)) (gv (nF e11)) (b_neS rfl))) ?_
 refine sT 30 (bV ((!t17b) || (!strEq (rd t0 t17a).mKey t1))) rfl (vp rfl rfl (fun e12 => rfl) (fun e13 => (gv (nF e13))) (pO _ _)) ?_
 refine sq_nil ?_
 refine ht_cond rfl (fun e14 => ?_) (fun e14 => ?_)
 ·replace h := cpos e14 h
  refine sr ?_
  refine sT 31 (.d (.agg (eVersion (⟨(⟨0, 0, 0⟩ : Stamp), false, ⟨#[]⟩⟩ : Version)))) rfl (w_bld zc93 ((eVersion (⟨(⟨0, 0, 0⟩ : Stamp), false, ⟨#[]⟩⟩ : Version)).map V.d) [] rfl · · · zw93 rfl ft93 rfl rfl rfl rfl) ?_
  refine sS 6 0 ((eVersion (⟨(⟨0, 0, 0⟩ : Stamp), false, ⟨#[]⟩⟩ : Version)).map V.d) sz93 rfl rfl rfl rfl rfl (ones_of rfl) rfl ?_
  refine sM 7 (bV false) rfl rfl ?_
  refine sz ?_
  cases h
  exact ret2 rfl (.cell rfl rfl ag93 (ble _ _ rfl) rfl) (.tmp rfl)
 replace h := cneg e14 h
 refine ht_skip ?_
 refine ht_seq ?_
 refine ht_region_draw mixed ?_
 refine rM 32 (.d (.sl 2 (t0.map eEntry))) rfl rfl ?_
 refine rM 33 (iV t17a) rfl rfl ?_
 obtain ⟨e15, h⟩ := gpos h
 refine rT 34 (.d (.dp (eEntry (rd t0 t17a)))) rfl (w_idx t0 eEntry rfl · · · slT42 rfl rfl e15) ?_
 refine rD 35 (eEntry (rd t0 t17a)) fo116_1 rfl rfl rfl ?_
 refine rT 36 (.d (.sl 5 ((rd t0 t17a).mChain.map eVersion))) rfl (vl rfl onT96 rfl rfl) ?_
 refine rP 37 (eStamp t2) (eStamp t2) ag24 rfl rfl rfl rfl rfl ?_
 obtain ⟨⟨t38a, t38b⟩, c16, h⟩ := bpos h
 refine rC 38 (.tup [.d (.agg (eVersion t38a)), bV t38b]) (s150 k (rd t0 t17a).mChain t2 _ c16) en150 rfl rfl rfl rfl ?_
 refine rT 39 (.d (.agg (eVersion t38a))) rfl (ve rfl rfl rfl) ?_
 refine rT 40 (bV t38b) rfl (ve rfl rfl rfl) ?_
 refine rS 6 0 ((eVersion t38a).map V.d) sz93 rfl rfl rfl rfl rfl (ones_of rfl) rfl ?_
 refine rM 7 (bV t38b) rfl rfl ?_
 refine rg_nil ⟨by kernel_rfl, ?_⟩
 refine ht_ret ?_
 cases h
 exact ret2 rfl (.cell rfl rfl ag93 (ble _ _ rfl) rfl) (.tmp rfl)
theorem s64 (k : Nat) (t0 : Cell) (t1 : Shard) (t2 : ByteArray) (r : Answer) (h : F64 k t0 t1 t2 = some r) : Awp.Spec Tryz.prog amb 64 [(.agg (eCell t0)), (.agg (eShard t1)), (.s (.string t2))] (.ds [(.agg (eAnswer r))]) := by
 rw [F64] at h
 refine spec_of Tryz.func64 rfl (ble _ _ rfl) fun w0 ok0 lt0 hA => ?_
 refine sr ?_
 refine sT 3 (.d (.dp (eCell t0))) rfl (v_box_d (cs := (eCell t0)) rfl · · · rfl rfl (ones_of rfl)) ?_
 refine sT 4 (.d (.dp (eShard t1))) rfl (v_box_d (cs := (eShard t1)) rfl · · · rfl rfl (ones_of rfl)) ?_
 refine sq_cons _ (v_alloc (id := 6) (cs := zc34) rfl trivial rfl (ble _ _ rfl) zu34 rfl ft34 rfl) ?_
 refine sq_nil ?_
 refine sr ?_
 refine sD 10 (eShard t1) fo45_4 rfl rfl rfl ?_
 refine sT 11 (.d (.sl 2 (t1.mEntries.map eEntry))) rfl (vl rfl onT42 rfl rfl) ?_
 refine sM 12 (sV t2) rfl rfl ?_
 refine sD 13 (eCell t0) fo26_1 rfl rfl rfl ?_
 refine sP 14 (List.drop 1 (eCell t0)) (eStamp t0.mTop) ag24 rfl rfl rfl rfl rfl ?_
 obtain ⟨⟨t15a, t15b⟩, c1, h⟩ := bpos h
 refine sC 15 (.tup [.d (.agg (eVersion t15a)), bV t15b]) (s118 k t1.mEntries t2 t0.mTop _ c1) en118 rfl rfl rfl rfl ?_
 refine sM 9 (.tup [.d (.agg (eVersion t15a)), bV t15b]) rfl rfl ?_
 refine sT 16 (.d (.agg (eVersion t15a))) rfl (ve rfl rfl rfl) ?_
 refine sT 17 (bV t15b) rfl (ve rfl rfl rfl) ?_
 refine sq_cons _ (v_alloc (id := 7) (cs := zc93) rfl trivial rfl (ble _ _ rfl) zu93 rfl ft93 rfl) ?_
 refine sS 7 0 ((eVersion t15a).map V.d) sz93 rfl rfl rfl rfl rfl (ones_of rfl) rfl ?_
 refine sM 8 (bV t15b) rfl rfl ?_
 refine sq_nil ?_
 refine sr ?_
 refine sT 18 (.ptr 7 0) rfl (v_field_box (off := 0) (a0 := 0) rfl · · · fo93_0 rfl) ?_
 refine sT 19 (.d (.agg (eStamp t15a.mAt))) rfl (w_ldb 7 0 rfl · · · ag24 rfl rfl (ble _ _ rfl) rfl) ?_
 refine sM 20 (bV t15b) rfl rfl ?_
 refine sM 21 (bV t15b) rfl rfl ?_
 refine sG 22 (.ptr 7 3) rfl rfl (fun e2 => (v_field_box (off := 0) (a0 := 3) rfl · · · fo93_1 rfl)) ?_
 refine sG 23 (bV t15a.mGone) rfl rfl (fun e3 => (v_load_box1 (id := 7) (off := 3) rfl · · · onT4 (gv e3) rfl (ble _ _ rfl) rfl)) ?_
 refine sG 24 (bV (!t15a.mGone)) rfl rfl (fun e4 => (vu rfl (gv e4) (u_not rfl))) ?_
 refine sT 25 (bV (t15b && (!t15a.mGone))) rfl (vp rfl rfl (fun e5 => (gv e5)) (fun e6 => rfl) (pA _ _)) ?_
 refine sT 26 (.ptr 7 4) rfl (v_field_box (off := 0) (a0 := 4) rfl · · · fo93_2 rfl) ?_
 refine sT 27 (sV t15a.mValue) rfl (v_load_box1 (id := 7) (off := 4) rfl · · · onT9 rfl rfl (ble _ _ rfl) rfl) ?_
 refine sT 28 (.d (.agg (eAnswer (⟨0, t15a.mAt, (t15b && (!t15a.mGone)), t15a.mValue, ([] : List Item), (⟨#[]⟩ : ByteArray), false⟩ : Answer)))) rfl (w_bld zc34 ((eAnswer (⟨0, t15a.mAt, (t15b && (!t15a.mGone)), t15a.mValue, ([] : List Item), (⟨#[]⟩ : ByteArray), false⟩ : Answer)).map V.d) [(1, .d (.agg (eStamp t15a.mAt))), (2, bV (t15b && (!t15a.mGone))), (3, sV t15a.mValue)] rfl · · · zw34 rfl ft34 rfl rfl rfl rfl) ?_
 refine sS 6 0 ((eAnswer (⟨0, t15a.mAt, (t15b && (!t15a.mGone)), t15a.mValue, ([] : List Item), (⟨#[]⟩ : ByteArray), false⟩ : Answer)).map V.d) sz34 rfl rfl rfl rfl rfl (ones_of rfl) rfl ?_
 refine sz ?_
 cases h
 exact ret1 rfl (.cell rfl rfl ag34 (ble _ _ rfl) rfl)
theorem s170 (k : Nat) (t0 : List Version) (r : (List Version)) (h : F170 k t0 = some r) : Awp.Spec Tryz.prog amb 170 [(.sl 5 (t0.map eVersion))] (.ds [(.sl 5 (r.map eVersion))]) := by
 rw [F170] at h
 refine spec_of Tryz.func170 rfl (ble _ _ rfl) fun w0 ok0 lt0 hA => ?_
 refine sr ?_
 refine sM 2 (.d (.s (.slice none 0 0))) rfl rfl ?_
 refine sq_nil ?_
 refine ht_seq ?_
 refine sr ?_
 refine sM 3 (.d (.sl 5 (t0.map eVersion))) rfl rfl ?_
 refine sq_nileq rfl trivial rfl (ble _ _ rfl) und96 rfl (fun b1 hb2 => ?_)
 refine sq_nil ?_
 refine ht_cond rfl (fun e3 => ?_) (fun e3 => ?_)
 ·obtain rfl : t0 = [] := List.map_eq_nil_iff.1 (hb2 e3)
  replace h : (some ([] : List Version) : Option (List Version)) = some r := by (obtain ⟨_, h⟩ := gpos h; cases h; rfl)
  refine sr ?_
  refine sM 2 (.d (.s (.slice none 0 0))) rfl rfl ?_
  refine sz ?_
  cases h
  exact retM_wk (wk_nil (.t 2) (nb 2) 5 rfl) (ret1 rfl (.tmp rfl))
 refine ht_skip ?_
 refine sr ?_
 refine sq_cons ⟨_, [(.b 5, .row false 93 5 (([] : List Version).map eVersion)), (.t 5, .own 5 5 ([] : List Version).length)]⟩ (w_bsl (id := 5) [] ([] : List Version) eVersion rfl trivial rfl (ble _ _ rfl) slT96 zr93 teVersion (ble _ _ rfl) rfl (by kernel_rfl) rfl rfl (by kernel_rfl) (by kernel_rfl)) ?_
 refine sM 6 (.d (.sl 5 (t0.map eVersion))) rfl rfl ?_
 obtain ⟨e4, h⟩ := gpos h
 refine sq_cons ⟨_, [(.b 5, .spent), (.b 7, .row false 93 5 ((([] : List Version) ++ t0).map eVersion)), (.t 7, .own 7 5 (([] : List Version) ++ t0).length)]⟩ (w_app 7 ([] : List Version) t0 eVersion rfl rfl trivial rfl (ble _ _ rfl) slT96 elT93 teVersion rfl rfl rfl (.d) rfl e4) ?_
 refine sM 2 (.own 7 5 (([] : List Version) ++ t0).length) rfl rfl ?_
 refine sz ?_
 cases h
 exact retM_wk (wk_still_row 7 _ _ _ rfl) (retM_wk (wk_row (.t 2) (nb 2) 7 _ _ _ _ rfl rfl (lm _ _)) (retM_wk (wk_row (.t 7) (nb 7) 7 _ _ _ _ rfl rfl (lm _ _)) (ret1 rfl (.tmp rfl))))
theorem s170o (k : Nat) (t0 : List Version) (r : (List Version)) (h : F170o k t0 = some r) : Awp.Spec Tryz.prog amb 170 [(.sl 5 (t0.map eVersion))] (.own 93 5 (r.map eVersion)) := by
 rw [F170o] at h
 refine spec_of Tryz.func170 rfl (ble _ _ rfl) fun w0 ok0 lt0 hA => ?_
 refine sr ?_
 refine sM 2 (.d (.s (.slice none 0 0))) rfl rfl ?_
 refine sq_nil ?_
 refine ht_seq ?_
 refine sr ?_
 refine sM 3 (.d (.sl 5 (t0.map eVersion))) rfl rfl ?_
 refine sq_nileq rfl trivial rfl (ble _ _ rfl) und96 rfl (fun b1 hb2 => ?_)
 refine sq_nil ?_
 refine ht_cond rfl (fun e3 => ?_) (fun e3 => ?_)
 ·obtain rfl : t0 = [] := List.map_eq_nil_iff.1 (hb2 e3)
  replace h : (some ([]) : Option (List Version)) = some r := by (obtain ⟨_, h⟩ := gpos h; cases h; rfl)
  refine sr ?_
  refine sM 2 (.d (.s (.slice none 0 0))) rfl rfl ?_
  refine sz ?_
  cases h
  exact retM_wk (wk_nilrow (.t 2) (nb 2) 3002 93 5 rfl rfl) (ret_own rfl rfl rfl rfl)
 refine ht_skip ?_
 refine sr ?_
 refine sq_cons ⟨_, [(.b 5, .row false 93 5 (([] : List Version).map eVersion)), (.t 5, .own 5 5 ([] : List Version).length)]⟩ (w_bsl (id := 5) [] ([] : List Version) eVersion rfl trivial rfl (ble _ _ rfl) slT96 zr93 teVersion (ble _ _ rfl) rfl (by kernel_rfl) rfl rfl (by kernel_rfl) (by kernel_rfl)) ?_
 refine sM 6 (.d (.sl 5 (t0.map eVersion))) rfl rfl ?_
 obtain ⟨e4, h⟩ := gpos h
 refine sq_cons ⟨_, [(.b 5, .spent), (.b 7, .row false 93 5 ((([] : List Version) ++ t0).map eVersion)), (.t 7, .own 7 5 (([] : List Version) ++ t0).length)]⟩ (w_app 7 ([] : List Version) t0 eVersion rfl rfl trivial rfl (ble _ _ rfl) slT96 elT93 teVersion rfl rfl rfl (.d) rfl e4) ?_
 refine sM 2 (.own 7 5 (([] : List Version) ++ t0).length) rfl rfl ?_
 refine sz ?_
 cases h
 exact ret_own rfl rfl rfl (lm _ _)
end Go.Proofs.Gd
