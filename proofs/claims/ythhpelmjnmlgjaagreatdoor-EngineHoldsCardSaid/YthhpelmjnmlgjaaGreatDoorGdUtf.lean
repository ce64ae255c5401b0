/- The slow decoder of unicode/utf8 in this program: its contract. -/
import Derived.Test.YthhpelmjnmlgjaaGreatDoorTryzShelf
import Derived.Test.YthhpelmjnmlgjaaGreatDoorAwpUtf
import Derived.Test.YthhpelmjnmlgjaaGreatDoorAwpMore2
import Derived.Test.YthhpelmjnmlgjaaGreatDoorGdIns
set_option linter.unusedVariables false
namespace Go.Proofs.Gd
open Go Go.Awp Go.Proofs
abbrev amb : Amb := utfAmb 0 1
def F174 (k : Nat) (s : ByteArray) : Option (Int × Int) := some (decR s, decN s)
theorem s174 (k : Nat) (s : ByteArray) (r : Int × Int) (h : F174 k s = some r) : Awp.Spec Tryz.prog amb 174 [.s (.string s)] (.ds [.s (.int .i32 r.1), .s (.int .i64 r.2)]) := by
  cases h
  exact spec_utf Tryz.utf8_decodeRuneInStringSlow s
end Go.Proofs.Gd
