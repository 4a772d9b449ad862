/- Layer 14: the calls whose answers are fixed; a script's calls. -/
import Derived.Test.YtjdhepioehfmhaaCP14a
import Derived.Test.YtjdhepioehfmhaaCTW
namespace Go.Proofs.Ytjdhepioehfmhaa
open Go.Aq Go.IntWalk
set_option linter.unusedVariables false
set_option maxRecDepth 100000 in
theorem fixed14 (m : Nat) : F_aqueductlaw14_fixed.S (m + 40) = .ok true := by
  rw [T_aqueductlaw14_fixed.S_e]
  show _ = _
  kernel_rfl
theorem wf_u64 {a : Int} (h : (Lit.int .u64 a).wf = true) : 0 ≤ a ∧ a < 18446744073709551616 := by
  simp [Lit.wf, IntKind.min, IntKind.max, IntKind.bits, IntKind.signed] at h; omega
/-- What the row says of a script's calls. -/
def okScr (xs : List TOp) : Prop := xs.length ≤ maxLen ∧ ∀ x ∈ xs, okL [.int .i64, .int .i64, .int .u64, .int .u32, .int .i64, .int .i64, .str, .int .i64, .int .i64, .int .i64, .bool, .int .i64, .bool] x
theorem okScr_at (xs : List TOp) (h : okScr xs) (z : TOp) (i : Nat) (hi : i < xs.length) : okD ((gt z xs (i : Int)).2.2.1, (gt z xs (i : Int)).2.2.2.1, (gt z xs (i : Int)).2.2.2.2.1, (gt z xs (i : Int)).2.2.2.2.2.1) := by
  have e : gt z xs (i : Int) = xs[i] := by unfold gt; rw [Int.toNat_natCast, List.getD_eq_getElem?_getD, List.getElem?_eq_getElem hi]; rfl
  rw [e]
  obtain ⟨_, _, h3, h4, _⟩ := h.2 _ (List.getElem_mem hi)
  have h5 := wf_u32 h4
  exact ⟨wf_u64 h3, h5.1, Int.lt_of_le_of_lt h5.2 (by decide)⟩
end Go.Proofs.Ytjdhepioehfmhaa
