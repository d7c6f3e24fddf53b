/- SuffixTurns: what the printed functions answer, put together: the law is true of every row. Conditions: none. -/
import Derived.Test.YthkofhidhghmmaaSufPure1
namespace Go.Proofs.Ythkofhidhghmmaa.Pure
theorem SuffixTurns : PSuf.incipitlaw15_SuffixTurns.Pure := SufPure.SuffixTurns
end Go.Proofs.Ythkofhidhghmmaa.Pure
