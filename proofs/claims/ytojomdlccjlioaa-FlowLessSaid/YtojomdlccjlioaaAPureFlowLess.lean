/- The law FlowLess, in plain words. -/
import Derived.Test.YtojomdlccjlioaaAPureFlowHash
namespace Go.Proofs.Ytojomdlccjlioaa
open Go.Aq Go.IntWalk
set_option linter.unusedVariables false
theorem less_pre (f : Int × ByteArray) : ∃ n, n ≤ f.2.size ∧ (lessP f).2 = f.2.extract 0 n ∧ (lessP f).2.size = n := by
  unfold lessP
  split
  · exact ⟨_, Nat.min_le_left _ _, rfl, by show (f.2.extract 0 _).size = _; rw [ext_size]; omega⟩
  · split
    · exact ⟨_, Nat.min_le_left _ _, rfl, by show (f.2.extract 0 _).size = _; rw [ext_size]; omega⟩
    · exact ⟨_, Nat.le_refl _, (ext_all _).symm, rfl⟩
theorem less_less (f : Int × ByteArray) : lessP (lessP f) = lessP f := by
  by_cases h1 : f.1 = 2 ∨ f.1 = 3
  · have e : lessP f = (1, f.2.extract 0 (min f.2.size 8)) := by unfold lessP; rw [if_pos h1]
    rw [e]; rfl
  · by_cases h2 : f.1 = 5 ∨ f.1 = 6
    · have e : lessP f = (4, f.2.extract 0 (min f.2.size 32)) := by unfold lessP; rw [if_neg h1, if_pos h2]
      rw [e]; rfl
    · have e : lessP f = f := by unfold lessP; rw [if_neg h1, if_neg h2]
      rw [e, e]
theorem Pure.FlowLess : ∀ (a0 : ByteArray) (a1 : Int × ByteArray), a0.size ≤ 140737488351232 → okF (.cons (.leaf (.int .i64)) (.one (.leaf .str))) a1 → ∃ k, F_aqueductlaw09_FlowLess.S k a0 a1 = .ok true := by
  intro key f hk hf
  refine ⟨4000000, ?_⟩
  unfold F_aqueductlaw09_FlowLess.S
  have hs : (f.2.extract 0 (min (f.2.size : Int) 60).toNat).size ≤ 60 := by rw [ext_size]; omega
  rw [O.chk_dec (by omega)]
  generalize f.2.extract 0 (min (f.2.size : Int) 60).toNat = t at hs
  rw [less_S, O.bind_ok]
  obtain ⟨n, p1, p2, p3⟩ := less_pre (f.1, t)
  have p1 : n ≤ t.size := p1
  have p2 : (lessP (f.1, t)).2 = t.extract 0 n := p2
  obtain ⟨r, h1, h2⟩ := two_hashes 4000000 key (lessP (f.1, t)).2 (by omega) (by omega)
  rw [flowHash_S _ _ _ (by omega), h1, O.bind_ok, p3, O.chk_dec (by omega), show (min (t.size : Int) (n : Int)).toNat = n by omega, ← p2, h2, O.bind_ok, less_S, less_less, O.bind_ok, fixed09 _ (Nat.le_refl _)]
  simp
end Go.Proofs.Ytojomdlccjlioaa
