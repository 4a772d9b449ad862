/- What the document's Put comes to, the low byte first. -/
import Derived.Test.YtjdhepioehfmhaaEPP
namespace Go.Proofs.Ytjdhepioehfmhaa
open Go.Aq Go.IntWalk
set_option linter.unusedVariables false
/-- A number's bytes, the low one first. -/
def putL (v : Int) (n : Nat) : ByteArray := revT (putT v n)
theorem putL_size (v : Int) (n : Nat) : (putL v n).size = n := by unfold putL; rw [revT_size, putT_size]
theorem putL_succ (v : Int) (n : Nat) : putL v (n + 1) = putL v n ++ strOf [v / 256 ^ n % 256] := by
  show revT (strOf (v / 256 ^ n % 256 :: wb v n)) = revT (strOf (wb v n)) ++ _
  apply list_eq
  rw [app_list]
  simp [strOf, revT]
theorem rPutL_S (k : Nat) (hk : 9 ≤ k) (v : Int) (n : Nat) (hv : 0 ≤ v ∧ v < 18446744073709551616) (hn : 1 ≤ n ∧ n ≤ 8) :
    F_aqueductref01_Put.S k v (n : Int) false = .ok (if v < 256 ^ n then (putL v n, 0) else (⟨#[]⟩, 1)) := by
  have lp : ∀ (m i j : Nat), i + m = n → m < j → ∀ t : ByteArray, t.size = i → F_aqueductref01_Put.l0 k (n : Int) false j (v / 256 ^ i) (putL v i) t (i : Int) = .ok (if v < 256 ^ n then (putL v n, 0) else (⟨#[]⟩, 1)) := by
    intro m
    induction m with
    | zero =>
      intro i j hi hj t ht
      obtain ⟨j, rfl⟩ : ∃ i, j = i + 1 := ⟨j - 1, by omega⟩
      obtain rfl : i = n := by omega
      show F_aqueductref01_Put.l0_b k _ _ _ _ _ _ _ = _
      unfold F_aqueductref01_Put.l0_b
      have hp : (0 : Int) < 256 ^ i := Int.pow_pos (by decide)
      rw [O.cond_neg (by omega)]
      by_cases h : v < 256 ^ i
      · rw [if_pos h, Int.ediv_eq_zero_of_lt hv.1 h, O.cond_neg (by omega), O.cond_false]
      · have h1 : 1 ≤ v / 256 ^ i := by rw [Int.le_ediv_iff_mul_le hp]; omega
        rw [if_neg h, O.cond_pos (by omega)]
    | succ m ih =>
      intro i j hi hj t ht
      obtain ⟨j, rfl⟩ : ∃ i, j = i + 1 := ⟨j - 1, by omega⟩
      show F_aqueductref01_Put.l0_b k _ _ _ _ _ _ _ = _
      unfold F_aqueductref01_Put.l0_b
      have h0 : 0 ≤ v / 256 ^ i := Int.ediv_nonneg hv.1 (Int.pow_nonneg (by decide))
      have h1 : v / 256 ^ i ≤ v := Int.ediv_le_self _ hv.1
      have e : IntKind.u8.wrap (Int.tmod (v / 256 ^ i) 256) = v / 256 ^ i % 256 := by
        rw [rem_in _ _ h0, u8_in _ (by omega)]
      have e2 : IntKind.u64.wrap (Int.tdiv (v / 256 ^ i) 256) = v / 256 ^ (i + 1) := by
        rw [quo_in _ _ h0, u64_in _ (by omega), Int.pow_succ, Int.ediv_ediv_of_nonneg (Int.pow_nonneg (by decide))]
      have hs1 : (strOf [v / 256 ^ i % 256]).size = 1 := by rw [size_strOf]; rfl
      rw [O.cond_pos (by omega), e, e2, O.chk_dec (by rw [hs1, putL_size]; omega), O.chk_dec (by rw [hs1]; omega), ← putL_succ, i64_in _ (by omega)]
      exact ih (i + 1) j (by omega) (by omega) _ (by rw [app_size, hs1]; omega)
  unfold F_aqueductref01_Put.S F_aqueductref01_Put.top
  rw [O.cond_neg (by omega), O.cond_neg (by omega)]
  have h := lp n 0 k (by omega) (by omega) (⟨#[]⟩) rfl
  simpa [putL, putT, wb, strOf, revT] using h
theorem PutL_S (k : Nat) (hk : 9 ≤ k) (v : Int) (n : Nat) (hv : 0 ≤ v ∧ v < 18446744073709551616) (hn : 1 ≤ n ∧ n ≤ 8) :
    F_words_Put.S k v (n : Int) false = .ok (if v < 256 ^ n then (putL v n, 0) else (⟨#[]⟩, 1)) := by
  rw [Put_S k hk v n hv hn false]; rfl
end Go.Proofs.Ytjdhepioehfmhaa
