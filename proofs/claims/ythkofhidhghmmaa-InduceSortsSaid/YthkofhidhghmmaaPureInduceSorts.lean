/- InduceSorts: what the printed functions answer, put together: the law is true of every row and size. Conditions: none. -/
import Derived.Test.YthkofhidhghmmaaIndSPure
namespace Go.Proofs.Ythkofhidhghmmaa.Pure
theorem InduceSorts : PIndS.incipitlaw16_InduceSorts.Pure := IndSPure.InduceSorts
end Go.Proofs.Ythkofhidhghmmaa.Pure
