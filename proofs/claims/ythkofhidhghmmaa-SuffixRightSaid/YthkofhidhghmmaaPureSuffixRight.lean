/- SuffixRight: what the printed functions answer, put together: the law is true of every text and order. Conditions: none. -/
import Derived.Test.YthkofhidhghmmaaSufPure3
namespace Go.Proofs.Ythkofhidhghmmaa.Pure
theorem SuffixRight : PSuf.incipitlaw15_SuffixRight.Pure := SufPure.SuffixRight
end Go.Proofs.Ythkofhidhghmmaa.Pure
