-- Written by a program of this session (wip/tools/pp.sh, on the pattern of the kit's print): not typed by hand.
import Derived.Test.YtneliajeokajbaaPExtx0
import Derived.Test.YtneliajeokajbaaPExtx1
import Derived.Test.YtneliajeokajbaaPExtx2
import Derived.Test.YtneliajeokajbaaPExtx3
import Derived.Test.YtneliajeokajbaaPExtx4
import Derived.Test.YtneliajeokajbaaPExtx5
import Derived.Test.YtneliajeokajbaaPExtx6
import Derived.Test.YtneliajeokajbaaPExtx7
import Derived.Test.YtneliajeokajbaaPExtx8
import Derived.Test.YtneliajeokajbaaPExtx9
import Derived.Test.YtneliajeokajbaaPExtx10
namespace Go.Proofs.Ytneliajeokajbaa.PExt
open Go.RowKit Go.Proofs.YtneliajeokajbaaW.PrintWords Go.Proofs.YtneliajeokajbaaW.PrintLast Go.Proofs.YtneliajeokajbaaW.PrintMore
attribute [local go_sem] max2_int min2_int max_two min_two max_three min_three max_four min_four   -- for this text's walks alone
set_option linter.unusedVariables false
set_option linter.unusedSimpArgs false

end Go.Proofs.Ytneliajeokajbaa.PExt
