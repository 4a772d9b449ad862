/- The law HdrFinishes, in plain words. -/
import Derived.Test.YtkmhbpiphepjoaaAPureHdrParses
namespace Go.Proofs.Ytkmhbpiphepjoaa
open Go.Aq Go.IntWalk
theorem cut_size (s : ByteArray) (hs : s.size ≤ 140737488351232) : (s.extract 0 (min (s.size : Int) 1600).toNat).size ≤ 1600 ∧ (0 ≤ min (s.size : Int) 1600 ∧ min (s.size : Int) 1600 ≤ (s.size : Int)) := by
  rw [ext_size]; omega
theorem Pure.HdrFinishes : ∀ (a0 : Int × Int × Int × Int × Int × Int × Int) (a1 : ByteArray), okF (.cons (.leaf (.int .i64)) (.cons (.leaf (.int .i64)) (.cons (.leaf (.int .i64)) (.cons (.leaf (.int .i64)) (.cons (.leaf (.int .i64)) (.cons (.leaf (.int .i64)) (.one (.leaf (.int .i64))))))))) a0 → a1.size ≤ 140737488351232 → ∃ k, F_aqueductlaw10_HdrFinishes.S k a0 a1 = .ok true := by
  intro h s hh hs
  refine ⟨4000000, ?_⟩
  unfold F_aqueductlaw10_HdrFinishes.S
  obtain ⟨h1, h2⟩ := cut_size s hs
  rw [O.chk_dec h2]
  generalize s.extract 0 (min (s.size : Int) 1600).toNat = t at h1
  rw [finish_S _ t (by omega) (by omega) h, rfinish_S _ t (by omega) (by omega) h, offload_S _ (Nat.le_refl _) t (by omega), roffload_S _ (Nat.le_refl _) t (by omega), fixed10 _ (Nat.le_refl _)]
  simp
end Go.Proofs.Ytkmhbpiphepjoaa
