/- The slow decoder of unicode/utf8 in this program: its contract. -/
import Derived.Test.YtidiihhfpbnbaaaDoorTrydShelf
import Derived.Test.YtidiihhfpbnbaaaDoorAwpUtf
set_option linter.unusedVariables false
namespace Go.Proofs.Cq
open Go Go.Awp Go.Proofs
abbrev amb : Amb := utfAmb 0 1
def F47 (k : Nat) (s : ByteArray) : Option (Int × Int) := some (decR s, decN s)
theorem s47 (k : Nat) (s : ByteArray) (r : Int × Int) (h : F47 k s = some r) : Awp.Spec Tryd.prog amb 47 [.s (.string s)] (.ds [.s (.int .i32 r.1), .s (.int .i64 r.2)]) := by
  cases h
  exact spec_utf Tryd.utf8_decodeRuneInStringSlow s
end Go.Proofs.Cq
