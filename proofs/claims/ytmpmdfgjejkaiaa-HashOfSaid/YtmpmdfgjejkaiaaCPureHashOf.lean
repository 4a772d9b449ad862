/- The plain law of HashOf: the hash of any bytes, with any key, and any window of it, is as the document says. -/
import Derived.Test.YtmpmdfgjejkaiaaCP03b
namespace Go.Proofs.Ytmpmdfgjejkaiaa.Pure
open Go.Aq Go.IntWalk
theorem HashOf : ∀ (a0 : ByteArray) (a1 : ByteArray) (a2 : Int), a0.size ≤ 140737488351232 → a1.size ≤ 140737488351232 → (Lit.int .i64 a2).wf = true → ∃ k, F_aqueductlaw03_HashOf.S k a0 a1 a2 = .ok true := by
  intro a0 a1 a2 h0 h1 h2
  refine ⟨2000, ?_⟩
  unfold F_aqueductlaw03_HashOf.S
  rw [O.chk_dec (by omega)]
  have hs : (a1.extract 0 (min (a1.size : Int) 200).toNat).size ≤ 200 := by rw [ext_size]; omega
  generalize a1.extract 0 (min (a1.size : Int) 200).toNat = s at *
  by_cases hk : a0.size < 4 ∨ 52 < a0.size
  · rw [Hash_bad _ _ _ hk, O.bind_ok, rHash_bad _ _ _ hk, O.bind_ok, fixed_S _ (by omega), O.bind_ok, O.cond_true, O.cond_pos rfl, O.cond_pos rfl, Window_S _ (by omega) _ _ h0, O.bind_ok, rWindow_S _ (by omega) _ _ h0, O.bind_ok]
    simp
  · rw [Hash_S _ _ _ (by omega) (by omega), O.bind_ok, rHash_S _ _ _ (by omega) (by omega) (by omega), O.bind_ok, fixed_S _ (by omega), O.bind_ok, O.cond_true, O.cond_pos rfl, O.cond_pos rfl, Window_S _ (by omega) _ _ h0, O.bind_ok, rWindow_S _ (by omega) _ _ h0, O.bind_ok]
    simp
end Go.Proofs.Ytmpmdfgjejkaiaa.Pure
