/- The document's reading of a number: the walk. -/
import Derived.Test.YtneliajeokajbaaVarGet
import Derived.Deep.LoopGhost
namespace Go.Proofs.Ytneliajeokajbaa
open Go.RowKit
set_option maxRecDepth 100000

end Go.Proofs.Ytneliajeokajbaa
