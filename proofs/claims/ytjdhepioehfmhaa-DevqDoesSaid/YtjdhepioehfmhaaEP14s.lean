/- Layer 14: a script's calls. -/
import Derived.Test.YtjdhepioehfmhaaEP14f
namespace Go.Proofs.Ytjdhepioehfmhaa
open Go.Aq Go.IntWalk
set_option linter.unusedVariables false
def okD (d : Int × Int × Int × Int) : Prop := (0 ≤ d.1 ∧ d.1 < 18446744073709551616) ∧ (0 ≤ d.2.1 ∧ d.2.1 < 4294967296)
theorem memory_sat (k : Nat) (hk : 9 ≤ k) (o : Int × Int × (Int × Int × Int × Int) × ByteArray × Int × Int × (Int × Bool × Int) × Bool) (l : TL) (hd : okD o.2.2.1) (hl : l.2.1 ≠ 0) :
    O.sat (F_aqueductlaw14_memory.S k o l) fun _ => True := by
  unfold F_aqueductlaw14_memory.S
  refine O.sat_chk hl (O.sat_cond (fun _ => ?_) fun _ => O.sat_cond (fun _ => ?_) fun _ => O.sat_cond (fun _ => ?_) fun _ => O.sat_cond (fun _ => ?_) fun _ => O.sat_ok trivial)
  · refine O.sat_bind (Mark_sat k _ _ _) fun r _ => ?_
    exact O.sat_eq (rBuild_S k hk (_, _, _, _) hd.1 hd.2) (O.sat_ok trivial)
  · exact O.sat_eq (rBuild_S k hk (_, _, _, _) hd.1 hd.2) (O.sat_ok trivial)
  · exact O.sat_chk (by omega) (O.sat_ok trivial)
  · exact O.sat_eq (rBuild_S k hk (_, _, _, _) hd.1 hd.2) (O.sat_ok trivial)
theorem wf_u64 {a : Int} (h : (Lit.int .u64 a).wf = true) : 0 ≤ a ∧ a < 18446744073709551616 := by
  simp [Lit.wf, IntKind.min, IntKind.max, IntKind.bits, IntKind.signed] at h; omega
/-- What the row says of a script's calls. -/
def okScr (xs : List TOp) : Prop := xs.length ≤ maxLen ∧ ∀ x ∈ xs, okL [.int .i64, .int .i64, .int .u64, .int .u32, .int .i64, .int .i64, .str, .int .i64, .int .i64, .int .i64, .bool, .int .i64, .bool] x
theorem okScr_at (xs : List TOp) (h : okScr xs) (z : TOp) (i : Nat) (hi : i < xs.length) : okD ((gt z xs (i : Int)).2.2.1, (gt z xs (i : Int)).2.2.2.1, (gt z xs (i : Int)).2.2.2.2.1, (gt z xs (i : Int)).2.2.2.2.2.1) := by
  have e : gt z xs (i : Int) = xs[i] := by unfold gt; rw [Int.toNat_natCast, List.getD_eq_getElem?_getD, List.getElem?_eq_getElem hi]; rfl
  rw [e]
  obtain ⟨_, _, h3, h4, _⟩ := h.2 _ (List.getElem_mem hi)
  have h5 := wf_u32 h4
  exact ⟨wf_u64 h3, h5.1, Int.lt_of_le_of_lt h5.2 (by decide)⟩
end Go.Proofs.Ytjdhepioehfmhaa
