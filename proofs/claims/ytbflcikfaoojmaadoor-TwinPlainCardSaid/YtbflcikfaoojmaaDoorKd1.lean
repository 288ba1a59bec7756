/- A decoder of keys, walked: New, Reset, Held, Pastes, Finish, sequence. -/
import Derived.Test.YtbflcikfaoojmaaDoorArZ
import Derived.Deep.QuietTactic
import Derived.BigQuiet
import Derived.Deep.RegionHeldLaw
set_option linter.unusedVariables false
set_option linter.unusedSimpArgs false
namespace Go.Proofs.YtbflcikfaoojmaaDoor.Edit
open Go.RowKit Go.Lib Go.Shelf ChangeShapes Mem Utf UtfP

section
variable {d a c N : Nat} {t : List UInt8} {ps : Bool}

end

end Go.Proofs.YtbflcikfaoojmaaDoor.Edit
