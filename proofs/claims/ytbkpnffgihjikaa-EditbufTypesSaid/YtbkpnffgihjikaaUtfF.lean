/- utf8.FullRune and the program's 'beginning', walked. -/
import Derived.Test.YtbkpnffgihjikaaUtfB
import Derived.Deep.QuietTactic
import Derived.BigQuiet
set_option linter.unusedVariables false
namespace Go.Proofs.Ytbkpnffgihjikaa.Utf
open Go.RowKit Go.Lib Go.Shelf UtfP

end Go.Proofs.Ytbkpnffgihjikaa.Utf
