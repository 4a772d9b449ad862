/- Layer 14: copies; chains that are the same. -/
import Derived.Test.YtjdhepioehfmhaaEP14c
namespace Go.Proofs.Ytjdhepioehfmhaa
open Go.Aq Go.IntWalk
set_option linter.unusedVariables false
theorem Acc_S' (k : Nat) (l : List (Int × Int × Int × Bool)) (h : l.length ≤ 1048576) : F_api_Access.S k l = .ok l := by
  by_cases h0 : 0 < l.length
  · exact Acc_S k l ⟨h0, h⟩
  · obtain rfl : l = [] := List.length_eq_zero_iff.1 (by omega)
    unfold F_api_Access.S
    rw [O.cond_neg (by simp), O.cond_true, O.cond_false, O.chk_dec (by simp), O.same_eq]; simp
theorem CloneB_S (k : Nat) (l : List Int) (h : 0 < l.length ∧ l.length ≤ 1048576) : F_slices_Clone_byte_byte.S k l = .ok l := by
  unfold F_slices_Clone_byte_byte.S
  rw [O.cond_pos (by omega), O.cond_false, O.chk_dec (by omega)]; rfl
theorem Same14_refl (k : Nat) (c : CH) (hc : c.2.2.length ≤ 64) (hk : 80 ≤ k) : F_aqueductref14_Same.S k c c = .ok true := by
  have lp : ∀ (m i j : Nat), i + m = c.2.2.length → m < j → F_aqueductref14_Same.l0 k c c j (i : Int) = .ok true := by
    intro m
    induction m with
    | zero =>
      intro i j hi hj
      obtain ⟨j, rfl⟩ : ∃ i, j = i + 1 := ⟨j - 1, by omega⟩
      show F_aqueductref14_Same.l0_b k c c _ _ = _
      unfold F_aqueductref14_Same.l0_b
      rw [O.cond_neg (by omega)]
    | succ m ih =>
      intro i j hi hj
      obtain ⟨j, rfl⟩ : ∃ i, j = i + 1 := ⟨j - 1, by omega⟩
      show F_aqueductref14_Same.l0_b k c c _ _ = _
      unfold F_aqueductref14_Same.l0_b
      rw [O.cond_pos (by omega), O.chk_dec (by omega), O.chk_dec (by omega), O.chk_dec (by omega), O.chk_dec (by omega)]
      simp only [decide_true, Bool.and_self, Bool.not_true, O.cond_false]
      rw [i64_in ((i : Int) + 1) (by omega)]
      exact ih (i + 1) j (by omega) (by omega)
  unfold F_aqueductref14_Same.S F_aqueductref14_Same.top
  rw [O.cond_neg (by simp), O.cond_neg (by simp), O.cond_neg (by simp)]
  exact lp _ 0 k (Nat.zero_add _) (by omega)
theorem q0_ok (l : TL) (n : Int) (h : OkL l n) : OkQ (q0 l) n := ⟨h, ⟨Int.le_refl 0, h.lo⟩, ⟨Int.le_refl 0, h.lo⟩, ⟨Int.le_refl 0, h.lo⟩, ⟨Int.le_refl 0, by have := h.lo; show (0 : Int) ≤ 2 * l.2.1; omega⟩, ⟨Int.le_refl 0, by have := h.lo; show (0 : Int) ≤ l.2.1; omega⟩⟩
end Go.Proofs.Ytjdhepioehfmhaa
