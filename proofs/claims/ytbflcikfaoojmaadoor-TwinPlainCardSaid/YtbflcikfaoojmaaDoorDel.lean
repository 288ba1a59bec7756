/- An arena: Delete, walked. -/
import Derived.Test.YtbflcikfaoojmaaDoorArena2
set_option linter.unusedVariables false
namespace Go.Proofs.YtbflcikfaoojmaaDoor.Mem
open Go.RowKit Go.Lib ChangeShapes

end Go.Proofs.YtbflcikfaoojmaaDoor.Mem
