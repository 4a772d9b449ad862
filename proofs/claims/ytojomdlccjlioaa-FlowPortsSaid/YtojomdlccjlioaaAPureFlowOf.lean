/- The laws FlowOf, FlowHash, FlowLess, FlowKeys, in plain words. -/
import Derived.Test.YtojomdlccjlioaaAP09
import Derived.Test.YtojomdlccjlioaaAPH
namespace Go.Proofs.Ytojomdlccjlioaa
open Go.Aq Go.IntWalk
set_option linter.unusedVariables false
theorem Pure.FlowOf : ∀ (a0 : ByteArray), a0.size ≤ 140737488351232 → ∃ k, F_aqueductlaw09_FlowOf.S k a0 = .ok true := by
  intro s hs
  refine ⟨4000000, ?_⟩
  unfold F_aqueductlaw09_FlowOf.S
  rw [O.chk_dec (by omega), fixed09 _ (Nat.le_refl _), O.bind_ok, O.cond_true, flowOf_S _ (by omega), O.bind_ok, rflowOf_S _ (by omega), O.bind_ok]
  simp
end Go.Proofs.Ytojomdlccjlioaa
