/- The law HdrSizes, in plain words. -/
import Derived.Test.YtkmhbpiphepjoaaAPureHdrFinishes
namespace Go.Proofs.Ytkmhbpiphepjoaa
open Go.Aq Go.IntWalk
theorem and7 (a : Int) : 0 ≤ bAnd .i64 a 7 ∧ bAnd .i64 a 7 ≤ 7 := by
  have e : bAnd .i64 a 7 = a % 8 := by
    unfold bAnd
    rw [BitVec.toNat_and, BitVec.toNat_ofInt, BitVec.toNat_ofInt]
    show IntKind.i64.wrap (((a % 18446744073709551616).toNat &&& 2 ^ 3 - 1 : Nat) : Int) = a % 8
    rw [Nat.and_two_pow_sub_one_eq_mod]
    have h : (((a % 18446744073709551616).toNat % 2 ^ 3 : Nat) : Int) = a % 8 := by omega
    rw [h, i64_in _ (by omega)]
  rw [e]; omega
theorem Pure.HdrSizes : ∀ (a0 : ByteArray) (a1 : Int), a0.size ≤ 140737488351232 → (Lit.int .i64 a1).wf = true → ∃ k, F_aqueductlaw10_HdrSizes.S k a0 a1 = .ok true := by
  intro s c hs hc
  refine ⟨4000000, ?_⟩
  unfold F_aqueductlaw10_HdrSizes.S
  obtain ⟨h1, h2⟩ := cut_size s hs
  have h7 := and7 c
  rw [O.chk_dec h2]
  generalize s.extract 0 (min (s.size : Int) 1600).toNat = t at h1
  generalize bAnd .i64 c 7 = d at h7
  have hz : (t.extract 0 (min (t.size : Int) d).toNat).size < 12 := by rw [ext_size]; omega
  have hp : hdrP (t.extract 0 (min (t.size : Int) d).toNat) = (hdr0, ⟨#[]⟩, 100) := by unfold hdrP; rw [if_pos hz]
  rw [hdrParse_S _ (by omega) t (by omega), O.bind_ok, O.chk_dec (by omega), hdrParse_S _ (by omega) _ (by omega), O.bind_ok, hp, fixed10 _ (Nat.le_refl _)]
  unfold hdrP
  by_cases c1 : t.size < 12
  · rw [if_pos c1]; simp
  · rw [if_neg c1]
    by_cases c2 : bt t 0 > 3
    · rw [if_pos c2]; simp
    · have ez : (t.extract 12 t.size).size = t.size - 12 := by rw [ext_size]; omega
      have ew : IntKind.i64.wrap ((t.size : Int) - 12) = ((t.size - 12 : Nat) : Int) := by rw [i64_in _ (by omega)]; omega
      have c2' : bt t 0 ≤ 3 := by omega
      have c3 : 12 ≤ (t.size : Int) := by omega
      rw [if_neg c2]
      simp [ez, ew, c2', c3]
end Go.Proofs.Ytkmhbpiphepjoaa
