/- The reference of layer 1: size, second, Next, walked. -/
import Derived.Test.YtbkpnffgihjikaaUtfN
set_option linter.unusedVariables false
namespace Go.Proofs.Ytbkpnffgihjikaa.Utf
open Go.RowKit Go.Lib Go.Shelf UtfP

def secAt (lo hi c : Nat) : Bool := decide (lo ≤ c ∧ c ≤ hi)

end Go.Proofs.Ytbkpnffgihjikaa.Utf
