/- A decoder of keys, walked: char (over what keys.Of answers). -/
import Derived.Test.YtbflcikfaoojmaaDoorHKd4
set_option linter.unusedVariables false
set_option linter.unusedSimpArgs false
namespace Go.Proofs.YtbflcikfaoojmaaDoor.Edit
open Go.RowKit Go.Lib Go.Shelf ChangeShapes Mem Utf UtfP

section
variable {d a c N : Nat} {t : List UInt8} {ps : Bool}

/-- the key of a character, by whether a paste is begun -/
def charE (ps : Bool) (k kc : Int) : Int × Int := if ps && k != 0 then (15, 0) else (k, kc)
end

end Go.Proofs.YtbflcikfaoojmaaDoor.Edit
