/- (the document's tests) The reference's Fine, Printable, Put, walked. -/
import Derived.Test.YtbkpnffgihjikaaPut
set_option linter.unusedVariables false
namespace Go.Proofs.Ytbkpnffgihjikaa.Utf
open Go.RowKit Go.Lib Go.Shelf UtfP

end Go.Proofs.Ytbkpnffgihjikaa.Utf
