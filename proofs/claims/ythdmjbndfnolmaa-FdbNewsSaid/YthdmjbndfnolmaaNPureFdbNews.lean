/- The law FdbNews of its plain function. -/
import Derived.Test.YthdmjbndfnolmaaNPFb
namespace Go.Proofs.Ythdmjbndfnolmaa
open Go.Aq Go.IntWalk
set_option linter.unusedVariables false
theorem Pure.FdbNews : ∀ (a0 : Int) (a1 : Int), (Lit.int .i64 a0).wf = true → (Lit.int .i64 a1).wf = true → ∃ k, F_aqueductlaw18_FdbNews.S k a0 a1 = .ok true := by
  intro a b ha hb
  refine ⟨2, ?_⟩
  unfold F_aqueductlaw18_FdbNews.S
  by_cases h : 1 ≤ a ∧ a ≤ 1024 ∧ 1 ≤ b ∧ b ≤ 65535
  · rw [New_ok 2 a b h, O.sum_inr, rNew_ok 2 a b h, O.sum_inr, fixed18 2 (by omega), O.bind_ok, O.cond_true, O.cond_pos rfl, O.cond_pos (by simp), O.cond_false, Rows_S 2 (inv_new a b (by omega) (by omega)), O.bind_ok]
    rfl
  · rw [New_no 2 a b h, O.sum_inl, rNew_no 2 a b h, O.sum_inl, fixed18 2 (by omega), O.bind_ok, O.cond_true, O.cond_pos rfl, O.cond_pos (by simp), O.cond_true]
end Go.Proofs.Ythdmjbndfnolmaa
