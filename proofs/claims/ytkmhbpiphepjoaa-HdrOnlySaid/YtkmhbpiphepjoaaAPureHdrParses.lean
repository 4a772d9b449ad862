/- The law HdrParses, in plain words. -/
import Derived.Test.YtkmhbpiphepjoaaAPF10
namespace Go.Proofs.Ytkmhbpiphepjoaa
open Go.Aq Go.IntWalk
theorem okHdr {a : HdrT} (h : okF (.cons (.leaf (.int .i64)) (.cons (.leaf (.int .i64)) (.cons (.leaf (.int .i64)) (.cons (.leaf (.int .i64)) (.cons (.leaf (.int .i64)) (.cons (.leaf (.int .i64)) (.one (.leaf (.int .i64))))))))) a) :
    (-2 ^ 63 ≤ a.1 ∧ a.1 < 2 ^ 63) ∧ (-2 ^ 63 ≤ a.2.1 ∧ a.2.1 < 2 ^ 63) ∧ (-2 ^ 63 ≤ a.2.2.1 ∧ a.2.2.1 < 2 ^ 63) ∧ (-2 ^ 63 ≤ a.2.2.2.1 ∧ a.2.2.2.1 < 2 ^ 63) ∧ (-2 ^ 63 ≤ a.2.2.2.2.1 ∧ a.2.2.2.2.1 < 2 ^ 63) ∧ (-2 ^ 63 ≤ a.2.2.2.2.2.1 ∧ a.2.2.2.2.2.1 < 2 ^ 63) ∧ (-2 ^ 63 ≤ a.2.2.2.2.2.2 ∧ a.2.2.2.2.2.2 < 2 ^ 63) := by
  obtain ⟨h1, h2, h3, h4, h5, h6, h7⟩ := h
  have t : ∀ x : Int, (Lit.int .i64 x).wf = true → -2 ^ 63 ≤ x ∧ x < 2 ^ 63 := fun x hx => by have := wf_i64 hx; omega
  exact ⟨t _ h1, t _ h2, t _ h3, t _ h4, t _ h5, t _ h6, t _ h7⟩
theorem build_ok (k : Nat) (hk : 9 ≤ k) {a : HdrT} (h : okF (.cons (.leaf (.int .i64)) (.cons (.leaf (.int .i64)) (.cons (.leaf (.int .i64)) (.cons (.leaf (.int .i64)) (.cons (.leaf (.int .i64)) (.cons (.leaf (.int .i64)) (.one (.leaf (.int .i64))))))))) a) : F_nethdr_Build.S k a = .ok (hdrB a) := by
  obtain ⟨h1, h2, h3, h4, h5, h6, h7⟩ := okHdr h
  exact hdrBuild_S k hk a h1 h2 h3 h4 h5 h6 h7
theorem Pure.HdrParses : ∀ (a0 : ByteArray) (a1 : Int × Int × Int × Int × Int × Int × Int), a0.size ≤ 140737488351232 → okF (.cons (.leaf (.int .i64)) (.cons (.leaf (.int .i64)) (.cons (.leaf (.int .i64)) (.cons (.leaf (.int .i64)) (.cons (.leaf (.int .i64)) (.cons (.leaf (.int .i64)) (.one (.leaf (.int .i64))))))))) a1 → ∃ k, F_aqueductlaw10_HdrParses.S k a0 a1 = .ok true := by
  intro s h hs hh
  refine ⟨4000000, ?_⟩
  unfold F_aqueductlaw10_HdrParses.S
  rw [hdrParse_S _ (by omega) s hs, rhdrParse_S _ (by omega) s hs, build_ok _ (by omega) hh, rhdrBuild_S _ (by omega) h, fixed10 _ (Nat.le_refl _)]
  simp
end Go.Proofs.Ytkmhbpiphepjoaa
