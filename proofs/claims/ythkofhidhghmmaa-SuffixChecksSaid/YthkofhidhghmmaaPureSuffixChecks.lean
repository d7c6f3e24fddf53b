/- SuffixChecks: what the printed functions answer, put together: the law is true of every row and places. Conditions: none. -/
import Derived.Test.YthkofhidhghmmaaSufCPure
namespace Go.Proofs.Ythkofhidhghmmaa.Pure
theorem SuffixChecks : PSufC.incipitlaw15_SuffixChecks.Pure := SufCPure.SuffixChecks
end Go.Proofs.Ythkofhidhghmmaa.Pure
