/- ExtentOf: what the printed functions answer, put together: the law is true of every list. Conditions: none. -/
import Derived.Test.YtneliajeokajbaaExtPure3
namespace Go.Proofs.Ytneliajeokajbaa.Pure
theorem ExtentOf : PExt.incipitlaw08_ExtentOf.Pure := ExtPure.ExtentOf
end Go.Proofs.Ytneliajeokajbaa.Pure
