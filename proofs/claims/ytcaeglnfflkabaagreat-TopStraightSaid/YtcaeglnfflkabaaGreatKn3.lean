/- known, piece by piece: reckoned by the kernel. -/
import Derived.Test.YtcaeglnfflkabaaGreatKnA
namespace Go.Proofs.YtcaeglnfflkabaaGreat.Ev
open Go.Proofs
set_option maxRecDepth 100000
theorem kL3 : ends (go (lb) (stOf eL2 hL2 4172)) (.normal) eL3 hL3 4972 = true := by kernel_rfl
end Go.Proofs.YtcaeglnfflkabaaGreat.Ev

namespace Go.Proofs.YtcaeglnfflkabaaGreat.Ev
open Go.Proofs
set_option maxRecDepth 100000
theorem kL4 : ends (go (lb) (stOf eL3 hL3 4972)) (.normal) eL4 hL4 5772 = true := by kernel_rfl
end Go.Proofs.YtcaeglnfflkabaaGreat.Ev

namespace Go.Proofs.YtcaeglnfflkabaaGreat.Ev
open Go.Proofs
set_option maxRecDepth 100000
theorem kL5 : ends (go (lb) (stOf eL4 hL4 5772)) (.normal) eL5 hL5 6572 = true := by kernel_rfl
end Go.Proofs.YtcaeglnfflkabaaGreat.Ev
