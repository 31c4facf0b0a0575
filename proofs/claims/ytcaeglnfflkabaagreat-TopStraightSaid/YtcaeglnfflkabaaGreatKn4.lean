/- known, piece by piece: reckoned by the kernel. -/
import Derived.Test.YtcaeglnfflkabaaGreatKnA
namespace Go.Proofs.YtcaeglnfflkabaaGreat.Ev
open Go.Proofs
set_option maxRecDepth 100000
theorem kL6 : ends (go (lb) (stOf eL5 hL5 6572)) (.normal) eL6 hL6 7372 = true := by kernel_rfl
end Go.Proofs.YtcaeglnfflkabaaGreat.Ev

namespace Go.Proofs.YtcaeglnfflkabaaGreat.Ev
open Go.Proofs
set_option maxRecDepth 100000
theorem kL7 : ends (go (lb) (stOf eL6 hL6 7372)) (.normal) eL7 hL7 8172 = true := by kernel_rfl
end Go.Proofs.YtcaeglnfflkabaaGreat.Ev

namespace Go.Proofs.YtcaeglnfflkabaaGreat.Ev
open Go.Proofs
set_option maxRecDepth 100000
theorem kL8 : ends (go (lb) (stOf eL7 hL7 8172)) (.normal) eL8 hL8 8972 = true := by kernel_rfl
end Go.Proofs.YtcaeglnfflkabaaGreat.Ev
