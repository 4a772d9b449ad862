/- The law RssChooses, in plain words. -/
import Derived.Test.YtjkddjnnkoghgaaAPRS
namespace Go.Proofs.Ytjkddjnnkoghgaa
open Go.Aq Go.IntWalk
set_option linter.unusedVariables false
theorem okF_rss {a : Int × List Int × ByteArray × Int} (w : okF (.cons (.leaf (.int .i64)) (.cons (.row false 3 [.int .i64]) (.cons (.leaf .str) (.one (.leaf (.int .i64)))))) a) : fitR a ∧ a.2.1.length ≤ maxLen ∧ a.2.2.1.size ≤ maxLen := by
  obtain ⟨h1, h2, h3, h4⟩ := w
  exact ⟨wf_i64 h1, h2.1, h3⟩
abbrev cutR (r : RssT) : RssT := (r.1, sub r.2.1 (sumI []) (min (r.2.1.length : Int) 300), r.2.2.1.extract 0 (min (r.2.2.1.size : Int) 60).toNat, r.2.2.2)
theorem sub_zero_len (l : List Int) (n : Int) : (sub l (sumI []) n).length ≤ n.toNat := by
  unfold sub; rw [List.length_take]; omega
theorem cutR_len (r : RssT) : (cutR r).2.1.length ≤ 300 := by
  have := sub_zero_len r.2.1 (min (r.2.1.length : Int) 300)
  show (sub r.2.1 (sumI []) (min (r.2.1.length : Int) 300)).length ≤ 300
  omega
theorem cutR_key (r : RssT) : (cutR r).2.2.1.size ≤ 60 := by
  show (r.2.2.1.extract 0 (min (r.2.2.1.size : Int) 60).toNat).size ≤ 60
  rw [ext_size]; omega
theorem chk_two {α : Type} {p q : Prop} [Decidable p] [Decidable q] {x : O α} (h1 : p) (h2 : q) : O.chk (decide p && decide q) x = x := by rw [← Bool.decide_and, O.chk_dec ⟨h1, h2⟩]
theorem cut_ok (s : ByteArray) (n : Nat) : (s.extract 0 (min (s.size : Int) n).toNat).size ≤ n ∧ (0 ≤ min (s.size : Int) n ∧ min (s.size : Int) n ≤ (s.size : Int)) := by
  rw [ext_size]; omega
theorem Pure.RssChooses : ∀ (a0 : Int × List Int × ByteArray × Int) (a1 : ByteArray) (a2 : Int), okF (.cons (.leaf (.int .i64)) (.cons (.row false 3 [.int .i64]) (.cons (.leaf .str) (.one (.leaf (.int .i64)))))) a0 → a1.size ≤ 140737488351232 → (Lit.int .i64 a2).wf = true → ∃ k, F_aqueductlaw11_RssChooses.S k a0 a1 a2 = .ok true := by
  intro r s q w hs hq
  obtain ⟨w1, w2, w3⟩ := okF_rss w
  refine ⟨4000, ?_⟩
  unfold F_aqueductlaw11_RssChooses.S
  have hr : fitR (cutR r) := w1
  have c1 := cutR_len r
  have c2 := cutR_key r
  rw [chk_two (by omega) (by omega), O.chk_dec (by omega), O.chk_dec (by omega), fixed_S _ (by decide), O.bind_ok, O.cond_true]
  have hm : 0 ≤ min (r.2.1.length : Int) 300 ∧ min (r.2.1.length : Int) 300 ≤ (r.2.1.length : Int) := by omega
  simp only [O.chk_dec hm]
  show O.bind (F_rss_Choose.S 4000 (cutR r) _ _) (fun r3 => O.bind (F_aqueductref11_Choose.S 4000 (cutR r) _ _) _) = _
  rw [choose_S _ (by decide) _ hr, O.bind_ok, rchoose_S _ (by decide) _ hr c1 (by omega), O.bind_ok]
  simp
end Go.Proofs.Ytjkddjnnkoghgaa
