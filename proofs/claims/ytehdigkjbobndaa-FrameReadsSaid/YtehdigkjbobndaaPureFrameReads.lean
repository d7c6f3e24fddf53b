/- FrameReads without memory. -/
import Derived.Test.YtehdigkjbobndaaFrmPureR
namespace Go.Proofs.Ytehdigkjbobndaa.Pure
theorem FrameReads : Go.Proofs.Ytehdigkjbobndaa.PFrmR.incipitlaw04_FrameReads.Pure := Go.Proofs.Ytehdigkjbobndaa.FrmPureR.FrameReads
end Go.Proofs.Ytehdigkjbobndaa.Pure
