/- known, piece by piece: reckoned by the kernel. -/
import Derived.Test.YtcaeglnfflkabaaGreatKnA
namespace Go.Proofs.YtcaeglnfflkabaaGreat.Ev
open Go.Proofs
set_option maxRecDepth 100000
theorem kA1 : ends (go (cL b1) (stOf [] [] 0)) (.normal) eA1 hA1 1709 = true := by kernel_rfl
end Go.Proofs.YtcaeglnfflkabaaGreat.Ev
