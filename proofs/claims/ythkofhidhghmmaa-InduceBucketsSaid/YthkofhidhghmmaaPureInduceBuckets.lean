/- InduceBuckets: what the printed functions answer, put together: the law is true of every row and size. Conditions: none. -/
import Derived.Test.YthkofhidhghmmaaIndPure2
namespace Go.Proofs.Ythkofhidhghmmaa.Pure
theorem InduceBuckets : PInd.incipitlaw16_InduceBuckets.Pure := IndPure.InduceBuckets
end Go.Proofs.Ythkofhidhghmmaa.Pure
