/- The plain law of SumAgain: a word that is another one, and then what it was, makes the sum that was, but for 0 and 65535. -/
import Derived.Test.YtmpmdfgjejkaiaaBP02
namespace Go.Proofs.Ytmpmdfgjejkaiaa.Pure
open Go.Aq Go.IntWalk
theorem upd_lo {a b c : Int} (ha : 0 ≤ a ∧ a ≤ 65535) (hb : 0 ≤ b ∧ b ≤ 65535) (hc : 0 ≤ c ∧ c ≤ 65535) : 0 ≤ upd a b c ∧ upd a b c ≤ 65535 := by
  have h := nrm_lo (n := 65535 - a + (65535 - b)) (by omega)
  have h2 := nrm_lo (n := nrm (65535 - a + (65535 - b)) + c) (by omega)
  unfold upd; omega
theorem upd_eq {a b c : Int} (ha : 0 ≤ a ∧ a ≤ 65535) (hb : 0 ≤ b ∧ b ≤ 65535) (hc : 0 ≤ c ∧ c ≤ 65535) : upd a b c = 65535 - nrm (65535 - a + (65535 - b) + c) := by
  unfold upd; rw [nrm_add (by omega) (by omega)]
theorem SumAgain : ∀ (a0 : Int) (a1 : Int) (a2 : Int), (Lit.int .u16 a0).wf = true → (Lit.int .u16 a1).wf = true → (Lit.int .u16 a2).wf = true → ∃ k, F_aqueductlaw02_SumAgain.S k a0 a1 a2 = .ok true := by
  intro a0 a1 a2 h0 h1 h2
  have h0 := wf_u16 h0; have h1 := wf_u16 h1; have h2 := wf_u16 h2
  refine ⟨20, ?_⟩
  unfold F_aqueductlaw02_SumAgain.S
  have hu := upd_lo h0 h1 h2
  have hn : upd (upd a0 a1 a2) a2 a1 = 65535 - nrm (65535 - a0 + 131070) := by
    rw [upd_eq hu h2 h1, upd_eq h0 h1 h2, show 65535 - (65535 - nrm (65535 - a0 + (65535 - a1) + a2)) + (65535 - a2) + a1 = nrm (65535 - a0 + (65535 - a1) + a2) + ((65535 - a2) + a1) by omega, nrm_add (by omega) (by omega)]
    congr 2; omega
  have hm : nrm (65535 - a0 + 131070) = if a0 = 65535 then 65535 else 65535 - a0 := by
    unfold nrm; split <;> split <;> omega
  rw [Update_S _ (by omega) _ _ _ h0 h1 h2, O.bind_ok, Update_S _ (by omega) _ _ _ hu h2 h1, O.bind_ok, fixed_S _ (by omega), O.bind_ok, O.cond_true, hn, hm]
  by_cases e : a0 = 65535
  · subst e; rfl
  · rw [if_neg e, O.cond_pos (by omega)]
end Go.Proofs.Ytmpmdfgjejkaiaa.Pure
