/- The law RssOne, in plain words. -/
import Derived.Test.YtjkddjnnkoghgaaAPureRssChooses
import Derived.Test.YtjkddjnnkoghgaaAPEB
namespace Go.Proofs.Ytjkddjnnkoghgaa
open Go.Aq Go.IntWalk
set_option linter.unusedVariables false
theorem flowP_same (s t : ByteArray) (h1 : (ethP s).2 = 0) (h2 : (ethP t).2 = 0) (h3 : (ethP s).1.2.2.2.2.1 = (ethP t).1.2.2.2.2.1) (h4 : (ethP s).1.2.2.2.2.2 = (ethP t).1.2.2.2.2.2) : flowP s = flowP t := by
  unfold flowP; rw [h1, h2, h3, h4]
/-- A tag makes no difference to a flow. -/
theorem flowP_tag (s : ByteArray) (v : Int) (h : (tagP s v).2 = 0) : flowP (tagP s v).1 = flowP s := by
  unfold tagP at h ⊢
  by_cases c : (ethP s).2 ≠ 0
  · rw [if_pos c] at h; exact (c h).elim
  · rw [if_neg c] at h ⊢
    obtain ⟨e, _⟩ := ethP_B _ h
    refine flowP_same _ _ ?_ (Decidable.not_not.1 c) ?_ ?_ <;> rw [e]
theorem okT_get (l : List Int) (h : okT l = true) (i : Nat) : 0 ≤ gt 0 l (i : Int) := by
  rw [gt_nat, List.getD_eq_getElem?_getD]
  cases hx : l[i]? with
  | none => exact Int.le_refl 0
  | some x =>
    have := List.all_eq_true.1 h x (List.mem_of_getElem? hx)
    exact (of_decide_eq_true this).1
theorem chooseP_lo (r : RssT) (f : Int × ByteArray) (q : Int) (hq : 1 ≤ q) : 0 ≤ chooseP r f q ∧ chooseP r f q < q := by
  unfold chooseP
  split
  · omega
  · rename_i v
    obtain ⟨v1, v2, v3, v4, v5, v6, v7, v8, v9⟩ := Decidable.not_not.1 v
    split
    · omega
    · split
      · omega
      · have : 0 ≤ queueP r f := by
          unfold queueP
          split
          · exact okT_get _ v9 _
          · split
            · exact okT_get _ v9 _
            · exact v7
        split <;> omega
theorem Pure.RssOne : ∀ (a0 : Int × List Int × ByteArray × Int) (a1 : ByteArray) (a2 : Int), okF (.cons (.leaf (.int .i64)) (.cons (.row false 3 [.int .i64]) (.cons (.leaf .str) (.one (.leaf (.int .i64)))))) a0 → a1.size ≤ 140737488351232 → (Lit.int .i64 a2).wf = true → ∃ k, F_aqueductlaw11_RssOne.S k a0 a1 a2 = .ok true := by
  intro r s v w hs hv
  obtain ⟨w1, w2, w3⟩ := okF_rss w
  refine ⟨4000, ?_⟩
  have hr : fitR (cutR r) := w1
  have hm : 0 ≤ min (r.2.1.length : Int) 300 ∧ min (r.2.1.length : Int) 300 ≤ (r.2.1.length : Int) := by omega
  unfold F_aqueductlaw11_RssOne.S F_aqueductlaw11_RssOne.top
  rw [chk_two (by omega) (by omega), O.chk_dec (by omega), O.chk_dec (by omega), ethTag_S _ (by decide), O.bind_ok]
  generalize Int.tmod (bAnd .i64 v 65535) 4095 = u
  generalize hp : tagP (s.extract 0 (min (s.size : Int) 1400).toNat) u = p
  have lp : ∀ (m j : Nat) (i : Int), 1 ≤ i → i + m = 9 → m < j → F_aqueductlaw11_RssOne.l0 4000 r s p j i = .ok true := by
    intro m
    induction m with
    | zero =>
      intro j i h0 hi hj
      obtain ⟨j, rfl⟩ : ∃ i, j = i + 1 := ⟨j - 1, by omega⟩
      show F_aqueductlaw11_RssOne.l0_b 4000 r s p _ _ = _
      unfold F_aqueductlaw11_RssOne.l0_b
      rw [O.cond_neg (by omega), fixed_S _ (by decide), O.bind_ok]
    | succ m ih =>
      intro j i h0 hi hj
      obtain ⟨j, rfl⟩ : ∃ i, j = i + 1 := ⟨j - 1, by omega⟩
      show F_aqueductlaw11_RssOne.l0_b 4000 r s p _ _ = _
      unfold F_aqueductlaw11_RssOne.l0_b
      rw [O.cond_pos (by omega)]
      simp only [O.chk_dec hm]
      show O.bind (F_rss_Choose.S 4000 (cutR r) _ _) (fun r12 => O.cond (decide (r12 < 0)) _ (O.cond (decide (r12 ≥ i)) _ (O.cond (decide (p.2 = 0)) (O.bind (F_rss_Choose.S 4000 (cutR r) p.1 i) fun r14 => _) _))) = _
      obtain ⟨l1, l2⟩ := chooseP_lo (cutR r) (flowP (s.extract 0 (min (s.size : Int) 1400).toNat)) i h0
      rw [choose_S _ (by decide) _ hr, O.bind_ok, O.cond_neg (by omega), O.cond_neg (by omega), choose_S _ (by decide) _ hr, O.bind_ok, O.cond_dec, i64_in (i + 1) (by omega)]
      have nx := ih j (i + 1) (by omega) (by omega) (by omega)
      split
      · rename_i c
        have e : flowP p.1 = flowP (s.extract 0 (min (s.size : Int) 1400).toNat) := by subst hp; exact flowP_tag _ _ c
        rw [e, O.cond_neg (by simp)]
        exact nx
      · exact nx
  exact lp 8 4000 1 (by decide) (by decide) (by decide)
end Go.Proofs.Ytjkddjnnkoghgaa
