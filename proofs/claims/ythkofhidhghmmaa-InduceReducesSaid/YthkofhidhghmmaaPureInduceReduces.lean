/- InduceReduces: what the printed functions answer, put together: the law is true of every row and size. Conditions: none. -/
import Derived.Test.YthkofhidhghmmaaIndRAll
namespace Go.Proofs.Ythkofhidhghmmaa.Pure
theorem InduceReduces : PIndR.incipitlaw16_InduceReduces.Pure := IndRAll.InduceReduces
end Go.Proofs.Ythkofhidhghmmaa.Pure
