/- known, piece by piece: reckoned by the kernel. -/
import Derived.Test.YtcaeglnfflkabaaGreatKnA
namespace Go.Proofs.YtcaeglnfflkabaaGreat.Ev
open Go.Proofs
set_option maxRecDepth 100000
theorem kL9 : ends (go (lb) (stOf eL8 hL8 8972)) (.normal) eL9 hL9 9772 = true := by kernel_rfl
end Go.Proofs.YtcaeglnfflkabaaGreat.Ev

namespace Go.Proofs.YtcaeglnfflkabaaGreat.Ev
open Go.Proofs
set_option maxRecDepth 100000
theorem kL10 : ends (go (lb) (stOf eL9 hL9 9772)) (.normal) eL10 hL10 10572 = true := by kernel_rfl
end Go.Proofs.YtcaeglnfflkabaaGreat.Ev

namespace Go.Proofs.YtcaeglnfflkabaaGreat.Ev
open Go.Proofs
set_option maxRecDepth 100000
theorem kL11 : ends (go (lb) (stOf eL10 hL10 10572)) (.normal) eL11 hL11 11372 = true := by kernel_rfl
end Go.Proofs.YtcaeglnfflkabaaGreat.Ev
