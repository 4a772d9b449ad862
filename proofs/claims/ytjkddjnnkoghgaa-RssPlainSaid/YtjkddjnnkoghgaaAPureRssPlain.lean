/- The law RssPlain, in plain words. -/
import Derived.Test.YtjkddjnnkoghgaaAPureRssDefault
namespace Go.Proofs.Ytjkddjnnkoghgaa
open Go.Aq Go.IntWalk
set_option linter.unusedVariables false
theorem gt_same (q : Int) (i : Nat) (h : i < 4) : gt 0 [q, q, q, q] (i : Int) = q := by
  rw [gt_nat]
  match i, h with
  | 0, _ => rfl
  | 1, _ => rfl
  | 2, _ => rfl
  | 3, _ => rfl
theorem Pure.RssPlain : ∀ (a0 : Int × List Int × ByteArray × Int) (a1 : ByteArray) (a2 : Int), okF (.cons (.leaf (.int .i64)) (.cons (.row false 3 [.int .i64]) (.cons (.leaf .str) (.one (.leaf (.int .i64)))))) a0 → a1.size ≤ 140737488351232 → (Lit.int .i64 a2).wf = true → ∃ k, F_aqueductlaw11_RssPlain.S k a0 a1 a2 = .ok true := by
  intro r s q w hs hq
  obtain ⟨w1, w2, w3⟩ := okF_rss w
  refine ⟨4000, ?_⟩
  have hn := and7 q
  unfold F_aqueductlaw11_RssPlain.S
  rw [chk_two (by omega) (by omega), O.chk_dec (by omega), O.chk_dec (by omega), fixed_S _ (by decide)]
  generalize bAnd .i64 q 7 = n at *
  generalize hx : ((r.1, [n, n, n, n], r.2.2.1.extract 0 (min (r.2.2.1.size : Int) 60).toNat, n) : RssT) = x
  have hr : fitR x := by subst hx; exact w1
  have h1 : x.2.1 = [n, n, n, n] := by subst hx; rfl
  have h2 : x.2.2.2 = n := by subst hx; rfl
  rw [Check_S _ (by decide) _ hr, O.bind_ok, choose_S _ (by decide) _ hr, O.bind_ok, O.bind_ok]
  generalize flowP (s.extract 0 (min (s.size : Int) 1600).toNat) = f
  by_cases v : validP x
  · have hm : ∀ h : Nat, gt 0 x.2.1 ((h % x.2.1.length : Nat) : Int) = n := by
      intro h; rw [h1]; exact gt_same n _ (Nat.mod_lt _ (by show 0 < 4; decide))
    have hq : queueP x f = n := by
      unfold queueP; rw [hm, hm, h2]; split
      · rfl
      · split <;> rfl
    rw [if_pos v, O.cond_neg (by decide)]
    have e : chooseP x f 8 = n := by
      unfold chooseP; rw [if_neg (fun c => c v), if_neg (by decide), if_neg (by decide), hq, if_neg (by omega)]
    rw [e, O.cond_pos rfl]
  · rw [if_neg v, O.cond_pos (by decide)]
end Go.Proofs.Ytjkddjnnkoghgaa
