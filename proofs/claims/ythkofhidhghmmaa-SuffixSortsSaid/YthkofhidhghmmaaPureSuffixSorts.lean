/- SuffixSorts: what the printed functions answer, put together: the law is true of every row, size and places. Conditions: none. -/
import Derived.Test.YthkofhidhghmmaaSufSPure
namespace Go.Proofs.Ythkofhidhghmmaa.Pure
theorem SuffixSorts : PSufS.incipitlaw15_SuffixSorts.Pure := SufSPure.SuffixSorts
end Go.Proofs.Ythkofhidhghmmaa.Pure
