/- The law HdrAgain, in plain words. -/
import Derived.Test.YtkmhbpiphepjoaaAPureHdrFinishes
namespace Go.Proofs.Ytkmhbpiphepjoaa
open Go.Aq Go.IntWalk
theorem Pure.HdrAgain : ∀ (a0 : ByteArray), a0.size ≤ 140737488351232 → ∃ k, F_aqueductlaw10_HdrAgain.S k a0 = .ok true := by
  intro s hs
  refine ⟨4000000, ?_⟩
  unfold F_aqueductlaw10_HdrAgain.S
  obtain ⟨h1, h2⟩ := cut_size s hs
  rw [O.chk_dec h2]
  generalize s.extract 0 (min (s.size : Int) 1600).toNat = t at h1
  obtain ⟨f1, f2⟩ := fin_off t
  rw [offload_S _ (Nat.le_refl _) t (by omega), O.bind_ok, finish_S _ (offP t).2 (by omega) (by omega) (offP t).1, f1, O.bind_ok]
  simp only []
  rw [offload_S _ (Nat.le_refl _) t (by omega), O.bind_ok, finish_S _ (offP t).2 (by omega) (by omega) (offP t).1, f1, O.bind_ok, fixed10 _ (Nat.le_refl _)]
  simp
end Go.Proofs.Ytkmhbpiphepjoaa
