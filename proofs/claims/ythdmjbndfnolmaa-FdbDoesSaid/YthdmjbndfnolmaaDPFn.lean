/- Layer 18, plain: the document's New. -/
import Derived.Test.YthdmjbndfnolmaaDPFb
namespace Go.Proofs.Ythdmjbndfnolmaa
open Go.Aq Go.IntWalk
set_option linter.unusedVariables false
theorem rNew_ok (k : Nat) (a b : Int) (h : 1 ≤ a ∧ a ≤ 1024 ∧ 1 ≤ b ∧ b ≤ 65535) : F_aqueductref18_New.S k a b = .ok (.inr ((0 : Int), a, b, [])) := by
  unfold F_aqueductref18_New.S
  rw [O.cond_neg (by omega), O.cond_neg (by omega), O.cond_neg (by omega), O.cond_neg (by omega)]
theorem rNew_no (k : Nat) (a b : Int) (h : ¬ (1 ≤ a ∧ a ≤ 1024 ∧ 1 ≤ b ∧ b ≤ 65535)) : F_aqueductref18_New.S k a b = .ok (.inl (180 : Int)) := by
  unfold F_aqueductref18_New.S
  rw [O.cond_dec, O.cond_dec, O.cond_dec, O.cond_dec]
  split
  · rfl
  split
  · rfl
  split
  · rfl
  split
  · rfl
  exfalso; omega
end Go.Proofs.Ythdmjbndfnolmaa
