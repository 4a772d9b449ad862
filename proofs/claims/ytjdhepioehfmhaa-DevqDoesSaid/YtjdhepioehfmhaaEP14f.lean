/- Layer 14: the calls whose answers are fixed; a script's calls. -/
import Derived.Test.YtjdhepioehfmhaaEP14a
import Derived.Test.YtjdhepioehfmhaaETW
namespace Go.Proofs.Ytjdhepioehfmhaa
open Go.Aq Go.IntWalk
set_option linter.unusedVariables false
set_option maxRecDepth 100000 in
theorem fixed14 (m : Nat) : F_aqueductlaw14_fixed.S (m + 40) = .ok true := by
  rw [T_aqueductlaw14_fixed.S_e]
  show _ = _
  kernel_rfl
end Go.Proofs.Ytjdhepioehfmhaa
