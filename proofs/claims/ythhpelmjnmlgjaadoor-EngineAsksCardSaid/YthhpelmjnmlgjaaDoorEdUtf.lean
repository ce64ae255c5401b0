/- The slow decoder of unicode/utf8 in this program: its contract. -/
import Derived.Test.YthhpelmjnmlgjaaDoorTrydShelf
import Derived.Test.YthhpelmjnmlgjaaDoorAwpUtf
import Derived.Test.YthhpelmjnmlgjaaDoorAwpMore2
import Derived.Test.YthhpelmjnmlgjaaDoorEdIns
set_option linter.unusedVariables false
namespace Go.Proofs.Ed
open Go Go.Awp Go.Proofs
abbrev amb : Amb := utfAmb 0 1
def F56 (k : Nat) (s : ByteArray) : Option (Int × Int) := some (decR s, decN s)
theorem s56 (k : Nat) (s : ByteArray) (r : Int × Int) (h : F56 k s = some r) : Awp.Spec Tryd.prog amb 56 [.s (.string s)] (.ds [.s (.int .i32 r.1), .s (.int .i64 r.2)]) := by
  cases h
  exact spec_utf Tryd.utf8_decodeRuneInStringSlow s
end Go.Proofs.Ed
