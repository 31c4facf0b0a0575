/- known, piece by piece: reckoned by the kernel. -/
import Derived.Test.YtcaeglnfflkabaaGreatKnA
namespace Go.Proofs.YtcaeglnfflkabaaGreat.Ev
open Go.Proofs
set_option maxRecDepth 100000
theorem kL12 : ends (go (lb) (stOf eL11 hL11 11372)) (.normal) eL12 hL12 12172 = true := by kernel_rfl
end Go.Proofs.YtcaeglnfflkabaaGreat.Ev
