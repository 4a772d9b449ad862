/- The plain law of SumOns: for each sum and each text the plain functions agree. -/
import Derived.Test.YtmpmdfgjejkaiaaAP02
namespace Go.Proofs.Ytmpmdfgjejkaiaa.Pure
open Go.Aq Go.IntWalk
theorem SumOns : ∀ (a0 : Int) (a1 : ByteArray), (Lit.int .u16 a0).wf = true → a1.size ≤ 140737488351232 → ∃ k, F_aqueductlaw02_SumOns.S k a0 a1 = .ok true := by
  intro a0 a1 h0 h1
  have h0 := wf_u16 h0
  refine ⟨a1.size + 20, ?_⟩
  unfold F_aqueductlaw02_SumOns.S
  rw [fixed_S _ (by omega), On_S _ a0 a1 h0 h1 (by omega), rOn_S _ a0 a1 h0 h1 (by omega), Sum_S _ a1 h1 (by omega), rSum_S _ a1 h1 (by omega), Right_S _ a1 h1 (by omega), rOn_S _ 0 a1 (by omega) h1 (by omega)]
  simp
end Go.Proofs.Ytmpmdfgjejkaiaa.Pure
