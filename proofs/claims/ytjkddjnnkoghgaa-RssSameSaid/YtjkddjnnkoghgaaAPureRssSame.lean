/- The law RssSame, in plain words. -/
import Derived.Test.YtjkddjnnkoghgaaAPureRssChooses
namespace Go.Proofs.Ytjkddjnnkoghgaa
open Go.Aq Go.IntWalk
set_option linter.unusedVariables false
theorem Pure.RssSame : ∀ (a0 : Int × List Int × ByteArray × Int) (a1 : ByteArray) (a2 : ByteArray), okF (.cons (.leaf (.int .i64)) (.cons (.row false 3 [.int .i64]) (.cons (.leaf .str) (.one (.leaf (.int .i64)))))) a0 → a1.size ≤ 140737488351232 → a2.size ≤ 140737488351232 → ∃ k, F_aqueductlaw11_RssSame.S k a0 a1 a2 = .ok true := by
  intro r s t w hs ht
  obtain ⟨w1, w2, w3⟩ := okF_rss w
  refine ⟨4000, ?_⟩
  have hr : fitR (cutR r) := w1
  unfold F_aqueductlaw11_RssSame.S F_aqueductlaw11_RssSame.top
  rw [chk_two (by omega) (by omega), O.chk_dec (by omega), O.chk_dec (by omega), O.chk_dec (by omega), flowOf_S _ (by decide), O.bind_ok, flowOf_S _ (by decide), O.bind_ok, fixed_S _ (by decide)]
  by_cases h : flowP (s.extract 0 (min (s.size : Int) 1600).toNat) = flowP (t.extract 0 (min (t.size : Int) 1600).toNat)
  · rw [h]
    simp only [decide_true, Bool.and_true, Bool.not_true, O.cond_false]
    have lp : ∀ (m j : Nat) (i : Int), 1 ≤ i → i + m = 9 → m < j → F_aqueductlaw11_RssSame.l0 4000 r s t j i = .ok true := by
      intro m
      induction m with
      | zero =>
        intro j i h0 hi hj
        obtain ⟨j, rfl⟩ : ∃ i, j = i + 1 := ⟨j - 1, by omega⟩
        show F_aqueductlaw11_RssSame.l0_b 4000 r s t _ _ = _
        unfold F_aqueductlaw11_RssSame.l0_b
        rw [O.cond_neg (by omega), fixed_S _ (by decide), O.bind_ok]
      | succ m ih =>
        intro j i h0 hi hj
        obtain ⟨j, rfl⟩ : ∃ i, j = i + 1 := ⟨j - 1, by omega⟩
        show F_aqueductlaw11_RssSame.l0_b 4000 r s t _ _ = _
        unfold F_aqueductlaw11_RssSame.l0_b
        rw [O.cond_pos (by omega)]
        have hm : 0 ≤ min (r.2.1.length : Int) 300 ∧ min (r.2.1.length : Int) 300 ≤ (r.2.1.length : Int) := by omega
        simp only [O.chk_dec hm]
        show O.bind (F_rss_Choose.S 4000 (cutR r) _ _) (fun r3 => O.bind (F_rss_Choose.S 4000 (cutR r) _ _) _) = _
        rw [choose_S _ (by decide) _ hr, O.bind_ok, choose_S _ (by decide) _ hr, O.bind_ok, h, O.cond_neg (by simp), i64_in (i + 1) (by omega)]
        exact ih j (i + 1) (by omega) (by omega) (by omega)
    exact lp 8 4000 1 (by decide) (by decide) (by decide)
  · have : (decide ((flowP (s.extract 0 (min (s.size : Int) 1600).toNat)).1 = (flowP (t.extract 0 (min (t.size : Int) 1600).toNat)).1) && (decide ((flowP (s.extract 0 (min (s.size : Int) 1600).toNat)).2 = (flowP (t.extract 0 (min (t.size : Int) 1600).toNat)).2) && true)) = false := by
      rw [Bool.and_true, ← Bool.decide_and]
      exact decide_eq_false fun c => h (Prod.ext c.1 c.2)
    rw [this, Bool.not_false, O.cond_true, O.bind_ok]
end Go.Proofs.Ytjkddjnnkoghgaa
