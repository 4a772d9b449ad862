/- Layer 15: the calls whose answers are fixed. -/
import Derived.Test.YtpfddjdkafjjfaaGreatDTW
namespace Go.Proofs.YtpfddjdkafjjfaaGreat
open Go.Aq Go.IntWalk
set_option linter.unusedVariables false
set_option maxRecDepth 100000 in
theorem fixed15 (m : Nat) : F_aqueductlaw15_fixed.S (m + 60) = .ok true := by
  rw [T_aqueductlaw15_fixed.S_e]
  show _ = _
  kernel_rfl
end Go.Proofs.YtpfddjdkafjjfaaGreat
