/- The law FlowHash, in plain words. -/
import Derived.Test.YtojomdlccjlioaaAP09
import Derived.Test.YtojomdlccjlioaaAPH
namespace Go.Proofs.Ytojomdlccjlioaa
open Go.Aq Go.IntWalk
set_option linter.unusedVariables false
theorem flowHash_S (k : Nat) (key : ByteArray) (f : Int × ByteArray) (hf : f.2.size ≤ 140737488351232) : F_flow_Hash.S k key f = F_toeplitz_Hash.S k key f.2 := by
  unfold F_flow_Hash.S
  by_cases h : 4 ≤ key.size ∧ key.size ≤ 52
  · rw [Hash_S k _ _ h hf, O.bind_ok]
  · rw [Hash_bad k _ _ (by omega), O.bind_ok]
/-- Hash, and the document's, are the same. -/
theorem two_hashes (k : Nat) (key s : ByteArray) (hs : s.size ≤ 1000) (hk : 9000 ≤ k) : ∃ r, F_toeplitz_Hash.S k key s = .ok r ∧ F_aqueductref03_Hash.S k key s = .ok r := by
  by_cases h : 4 ≤ key.size ∧ key.size ≤ 52
  · exact ⟨_, Hash_S k _ _ h (by omega), rHash_S k _ _ h (by omega) (by omega)⟩
  · exact ⟨_, Hash_bad k _ _ (by omega), rHash_bad k _ _ (by omega)⟩
theorem Pure.FlowHash : ∀ (a0 : ByteArray) (a1 : Int × ByteArray), a0.size ≤ 140737488351232 → okF (.cons (.leaf (.int .i64)) (.one (.leaf .str))) a1 → ∃ k, F_aqueductlaw09_FlowHash.S k a0 a1 = .ok true := by
  intro key f hk hf
  refine ⟨4000000, ?_⟩
  unfold F_aqueductlaw09_FlowHash.S
  have hs : (f.2.extract 0 (min (f.2.size : Int) 100).toNat).size ≤ 100 := by rw [ext_size]; omega
  rw [O.chk_dec (by omega), flowHash_S _ _ _ (by show (f.2.extract 0 (min (f.2.size : Int) 100).toNat).size ≤ _; omega)]
  obtain ⟨r, h1, h2⟩ := two_hashes 4000000 key (f.2.extract 0 (min (f.2.size : Int) 100).toNat) (by omega) (by omega)
  rw [h1, O.bind_ok, h2, O.bind_ok, fixed09 _ (Nat.le_refl _), O.bind_ok, O.cond_true, less_S, O.bind_ok, rless_S, O.bind_ok]
  simp
end Go.Proofs.Ytojomdlccjlioaa
