/- What words.Get, and the document's, come to. -/
import Derived.Test.YtpfddjdkafjjfaaGreatDS6
import Derived.Test.YtpfddjdkafjjfaaGreatV18
namespace Go.Proofs.YtpfddjdkafjjfaaGreat
open Go.Aq Go.IntWalk
set_option linter.unusedVariables false
/-- A number of so many bytes at a place, or none. -/
theorem Get_S (k : Nat) (hk : 9 ≤ k) (s : ByteArray) (hs : s.size ≤ 140737488351232) (i n : Nat) (hn : 1 ≤ n ∧ n ≤ 8) (hi : i ≤ 140737488351232) : F_words_Get.S k s (i : Int) (n : Int) true = .ok (if i + n ≤ s.size then (be s i n, 0) else (0, 10)) := by
  have lp : i + n ≤ s.size → ∀ (m o j : Nat), o + m = n → m < j → F_words_Get.l1 k s (i : Int) (n : Int) j (be s i o) (o : Int) = .ok (be s i n, 0) := by
    intro hin m
    induction m with
    | zero =>
      intro o j ho hj
      obtain ⟨j, rfl⟩ : ∃ i, j = i + 1 := ⟨j - 1, by omega⟩
      obtain rfl : o = n := by omega
      show F_words_Get.l1_b k s _ _ _ _ _ = _
      unfold F_words_Get.l1_b
      rw [O.cond_neg (by omega)]
    | succ m ih =>
      intro o j ho hj
      obtain ⟨j, rfl⟩ : ∃ i, j = i + 1 := ⟨j - 1, by omega⟩
      show F_words_Get.l1_b k s _ _ _ _ _ = _
      unfold F_words_Get.l1_b
      have e : (IntKind.i64.wrap ((i : Int) + (n : Int))).toNat = i + n := by rw [i64_in _ (by omega)]; omega
      have hb := be_lo s i o
      have hp : (256 : Int) ^ o ≤ 2 ^ 56 := by
        rw [show (256 : Int) = 2 ^ 8 from rfl, ← Int.pow_mul]
        exact_mod_cast Nat.pow_le_pow_right (by decide) (by omega : 8 * o ≤ 56)
      have sz : (s.extract i (i + n)).size = n := by rw [ext_size]; omega
      have b1 := bt_lo s ((i + o : Nat) : Int)
      have b2 := bt_hi s ((i + o : Nat) : Int)
      rw [Int.toNat_natCast, e, sz, bt_ext s i (i + n) o (by omega), O.cond_pos (by omega), O.chk_dec (by omega), step_u64 _ _ ⟨hb.1, by omega⟩ ⟨b1, b2⟩, i64_in _ (by omega)]
      exact ih (o + 1) j (by omega) (by omega)
  unfold F_words_Get.S F_words_Get.top
  rw [O.cond_neg (by omega), O.cond_neg (by omega), O.cond_neg (by omega), i64_in ((s.size : Int) - _) (by omega), i64_in _ (by omega)]
  by_cases h : i + n ≤ s.size
  · rw [O.cond_neg (by omega), O.chk_dec (by omega), if_pos h]
    show O.cond false _ _ = _
    rw [O.cond_false]
    exact lp h n 0 k (by omega) (by omega)
  · rw [O.cond_pos (by omega), if_neg h]
end Go.Proofs.YtpfddjdkafjjfaaGreat
