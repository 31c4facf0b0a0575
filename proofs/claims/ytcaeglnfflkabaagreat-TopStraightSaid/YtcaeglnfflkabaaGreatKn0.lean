/- known, piece by piece: reckoned by the kernel. -/
import Derived.Test.YtcaeglnfflkabaaGreatKnA
namespace Go.Proofs.YtcaeglnfflkabaaGreat.Ev
open Go.Proofs
set_option maxRecDepth 100000
theorem kA0 : ends (go (cL b0) (⟨.leaf, .leaf, 0⟩)) (.normal) [] [] 0 = true := by kernel_rfl
theorem kA2 : ends (go (cL b2) (stOf eA1 hA1 1709)) (.normal) eA2 hA2 1709 = true := by kernel_rfl
theorem kA3 : ends (go (cL b3) (stOf eA2 hA2 1709)) (.normal) eA3 hA3 1710 = true := by kernel_rfl
theorem kA5 : ends (go (cL b5) (stOf eA4 hA4 2544)) (.normal) eA5 hA5 2544 = true := by kernel_rfl
theorem kL0 : ends (go (cL (cL b6)) (stOf eA5 hA5 2544)) (.normal) eL0 hL0 2544 = true := by kernel_rfl
theorem kX : ends (go (lb) (stOf eL12 hL12 12172)) (.exit 0) eX hX 12172 = true := by kernel_rfl
theorem kZ : ends (go (b7) (stOf eX hX 12172)) (.ret) [(0, bt)] [] 12177 = true := by kernel_rfl
end Go.Proofs.YtcaeglnfflkabaaGreat.Ev
