/- SuffixKinds: what the printed functions answer, put together: the law is true of every row, size and place. Conditions: none. -/
import Derived.Test.YthkofhidhghmmaaSufPure5
namespace Go.Proofs.Ythkofhidhghmmaa.Pure
theorem SuffixKinds : PSuf.incipitlaw15_SuffixKinds.Pure := SufPure.SuffixKinds
end Go.Proofs.Ythkofhidhghmmaa.Pure
