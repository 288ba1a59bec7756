/- A decoder of keys, walked: Finish, sequence. -/
import Derived.Test.YtbflcikfaoojmaaDoorKd1
import Derived.Deep.CutBlock
set_option linter.unusedVariables false
set_option linter.unusedSimpArgs false
namespace Go.Proofs.YtbflcikfaoojmaaDoor.Edit
open Go.RowKit Go.Lib Go.Shelf ChangeShapes Mem Utf UtfP

section
variable {d a c N : Nat} {t : List UInt8} {ps : Bool}

/-- the key of what is left -/
def lastK (x : Int) : Int × Int := if x = 27 then (15, 0) else (0, 65533)

end

end Go.Proofs.YtbflcikfaoojmaaDoor.Edit
