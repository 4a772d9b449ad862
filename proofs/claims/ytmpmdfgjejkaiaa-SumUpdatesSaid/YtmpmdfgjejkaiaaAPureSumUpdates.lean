/- The plain law of SumUpdates: for all three numbers the plain functions agree. -/
import Derived.Test.YtmpmdfgjejkaiaaAP02
namespace Go.Proofs.Ytmpmdfgjejkaiaa.Pure
open Go.Aq Go.IntWalk
theorem SumUpdates : ∀ (a0 : Int) (a1 : Int) (a2 : Int), (Lit.int .u16 a0).wf = true → (Lit.int .u16 a1).wf = true → (Lit.int .u16 a2).wf = true → ∃ k, F_aqueductlaw02_SumUpdates.S k a0 a1 a2 = .ok true := by
  intro a0 a1 a2 h0 h1 h2
  have h0 := wf_u16 h0; have h1 := wf_u16 h1; have h2 := wf_u16 h2
  refine ⟨20, ?_⟩
  unfold F_aqueductlaw02_SumUpdates.S
  rw [fixed_S _ (by omega), Update_S _ (by omega) _ _ _ h0 h1 h2, rUpdate_S _ _ _ _ h0 h1 h2, Join_S _ (by omega) _ _ _ h0 h1, rJoin_S _ _ _ _ h0 h1, Join_S _ (by omega) _ _ _ h0 h2, rJoin_S _ _ _ _ h0 h2]
  simp
end Go.Proofs.Ytmpmdfgjejkaiaa.Pure
