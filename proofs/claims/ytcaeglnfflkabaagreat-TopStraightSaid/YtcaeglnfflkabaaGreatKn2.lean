/- known, piece by piece: reckoned by the kernel. -/
import Derived.Test.YtcaeglnfflkabaaGreatKnA
namespace Go.Proofs.YtcaeglnfflkabaaGreat.Ev
open Go.Proofs
set_option maxRecDepth 100000
theorem kA4 : ends (go (cL b4) (stOf eA3 hA3 1710)) (.normal) eA4 hA4 2544 = true := by kernel_rfl
end Go.Proofs.YtcaeglnfflkabaaGreat.Ev

namespace Go.Proofs.YtcaeglnfflkabaaGreat.Ev
open Go.Proofs
set_option maxRecDepth 100000
theorem kL1 : ends (go (lb) (stOf eL0 hL0 2544)) (.normal) eL1 hL1 3351 = true := by kernel_rfl
end Go.Proofs.YtcaeglnfflkabaaGreat.Ev

namespace Go.Proofs.YtcaeglnfflkabaaGreat.Ev
open Go.Proofs
set_option maxRecDepth 100000
theorem kL2 : ends (go (lb) (stOf eL1 hL1 3351)) (.normal) eL2 hL2 4172 = true := by kernel_rfl
end Go.Proofs.YtcaeglnfflkabaaGreat.Ev
