/- The law RssDefault, in plain words. -/
import Derived.Test.YtjkddjnnkoghgaaAPureRssChooses
namespace Go.Proofs.Ytjkddjnnkoghgaa
open Go.Aq Go.IntWalk
set_option linter.unusedVariables false
theorem and7 (a : Int) : 0 ≤ bAnd .i64 a 7 ∧ bAnd .i64 a 7 ≤ 7 := bAnd_le a 7 (by decide)
theorem Pure.RssDefault : ∀ (a0 : Int × List Int × ByteArray × Int) (a1 : ByteArray) (a2 : Int), okF (.cons (.leaf (.int .i64)) (.cons (.row false 3 [.int .i64]) (.cons (.leaf .str) (.one (.leaf (.int .i64)))))) a0 → a1.size ≤ 140737488351232 → (Lit.int .i64 a2).wf = true → ∃ k, F_aqueductlaw11_RssDefault.S k a0 a1 a2 = .ok true := by
  intro r s q w hs hq
  obtain ⟨w1, w2, w3⟩ := okF_rss w
  refine ⟨4000, ?_⟩
  have hr : fitR (cutR (0, r.2)) := ⟨(by decide : (-9223372036854775808 : Int) ≤ 0), (by decide : (0 : Int) ≤ 9223372036854775807)⟩
  have n := and7 q
  unfold F_aqueductlaw11_RssDefault.S
  rw [chk_two (by omega) (by omega), O.chk_dec (by omega), O.chk_dec (by omega)]
  have hm : 0 ≤ min (r.2.1.length : Int) 300 ∧ min (r.2.1.length : Int) 300 ≤ (r.2.1.length : Int) := by omega
  simp only [O.chk_dec hm]
  show O.bind (F_rss_Choose.S 4000 (cutR (0, r.2)) _ _) (fun r3 => O.bind (F_rss_Check.S 4000 (cutR (0, r.2))) _) = _
  rw [choose_S _ (by decide) _ hr, O.bind_ok, Check_S _ (by decide) _ hr, O.bind_ok, fixed_S _ (by decide), i64_in (1 + _) (by omega), O.bind_ok]
  generalize flowP (s.extract 0 (min (s.size : Int) 1600).toNat) = f
  have hq : queueP (cutR (0, r.2)) f = r.2.2.2 := by
    have nh : ∀ kd : Int, ¬ hashedP (cutR (0, r.2)) kd := by
      intro kd c
      have c2 : (0 : Int) / 2 ^ kd.toNat % 2 = 1 := c.2
      rw [Int.zero_ediv] at c2
      cases c2
    unfold queueP; rw [if_neg (nh _), if_neg (nh _)]
  by_cases v : validP (cutR (0, r.2))
  · have e : chooseP (cutR (0, r.2)) f (1 + bAnd .i64 q 7) = if r.2.2.2 ≥ 1 + bAnd .i64 q 7 then 0 else r.2.2.2 := by
      unfold chooseP; rw [if_neg (fun c => c v), if_neg (by omega), if_neg (by omega), hq]
    rw [if_pos v, O.cond_neg (by decide), e]
    by_cases c : r.2.2.2 ≥ 1 + bAnd .i64 q 7
    · rw [O.cond_pos c, if_pos c, O.cond_pos rfl]
    · rw [O.cond_neg c, if_neg c, O.cond_pos rfl]
  · have e : chooseP (cutR (0, r.2)) f (1 + bAnd .i64 q 7) = 0 := by unfold chooseP; rw [if_pos v]
    rw [if_neg v, O.cond_pos (by decide), e, O.cond_pos rfl]
end Go.Proofs.Ytjkddjnnkoghgaa
