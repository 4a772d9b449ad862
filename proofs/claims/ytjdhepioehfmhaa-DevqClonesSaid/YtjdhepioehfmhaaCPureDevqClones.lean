/- The law DevqClones of its plain function. -/
import Derived.Test.YtjdhepioehfmhaaCP14f
import Derived.Test.YtjdhepioehfmhaaCP14c
namespace Go.Proofs.Ytjdhepioehfmhaa
open Go.Aq Go.IntWalk
set_option linter.unusedVariables false
theorem Acc_S' (k : Nat) (l : List (Int × Int × Int × Bool)) (h : l.length ≤ 1048576) : F_api_Access.S k l = .ok l := by
  by_cases h0 : 0 < l.length
  · exact Acc_S k l ⟨h0, h⟩
  · obtain rfl : l = [] := List.length_eq_zero_iff.1 (by omega)
    unfold F_api_Access.S
    rw [O.cond_neg (by simp), O.cond_true, O.cond_false, O.chk_dec (by simp), O.same_eq]; simp
theorem CloneB_S (k : Nat) (l : List Int) (h : 0 < l.length ∧ l.length ≤ 1048576) : F_slices_Clone_byte_byte.S k l = .ok l := by
  unfold F_slices_Clone_byte_byte.S
  rw [O.cond_pos (by omega), O.cond_false, O.chk_dec (by omega)]; rfl
theorem Same14_refl (k : Nat) (c : CH) (hc : c.2.2.length ≤ 64) (hk : 80 ≤ k) : F_aqueductref14_Same.S k c c = .ok true := by
  have lp : ∀ (m i j : Nat), i + m = c.2.2.length → m < j → F_aqueductref14_Same.l0 k c c j (i : Int) = .ok true := by
    intro m
    induction m with
    | zero =>
      intro i j hi hj
      obtain ⟨j, rfl⟩ : ∃ i, j = i + 1 := ⟨j - 1, by omega⟩
      show F_aqueductref14_Same.l0_b k c c _ _ = _
      unfold F_aqueductref14_Same.l0_b
      rw [O.cond_neg (by omega)]
    | succ m ih =>
      intro i j hi hj
      obtain ⟨j, rfl⟩ : ∃ i, j = i + 1 := ⟨j - 1, by omega⟩
      show F_aqueductref14_Same.l0_b k c c _ _ = _
      unfold F_aqueductref14_Same.l0_b
      rw [O.cond_pos (by omega), O.chk_dec (by omega), O.chk_dec (by omega), O.chk_dec (by omega), O.chk_dec (by omega)]
      simp only [decide_true, Bool.and_self, Bool.not_true, O.cond_false]
      rw [i64_in ((i : Int) + 1) (by omega)]
      exact ih (i + 1) j (by omega) (by omega)
  unfold F_aqueductref14_Same.S F_aqueductref14_Same.top
  rw [O.cond_neg (by simp), O.cond_neg (by simp), O.cond_neg (by simp)]
  exact lp _ 0 k (Nat.zero_add _) (by omega)
theorem q0_ok (l : TL) (n : Int) (h : OkL l n) : OkQ (q0 l) n := ⟨h, ⟨Int.le_refl 0, h.lo⟩, ⟨Int.le_refl 0, h.lo⟩, ⟨Int.le_refl 0, h.lo⟩, ⟨Int.le_refl 0, by have := h.lo; show (0 : Int) ≤ 2 * l.2.1; omega⟩, ⟨Int.le_refl 0, by have := h.lo; show (0 : Int) ≤ l.2.1; omega⟩⟩
theorem Pure.DevqClones : ∀ (a0 : Int × (Int × Int × Int × Int) × (List (Int × Int × Int × Int × Int × Int × ByteArray × Int × Int × Int × Bool × Int × Bool))), okF (.cons (.leaf (.int .i64)) (.cons (.agg (.cons (.leaf (.int .i64)) (.cons (.leaf (.int .i64)) (.cons (.leaf (.int .i64)) (.one (.leaf (.int .i64)) []))))) (.one (.row false 61 [.int .i64, .int .i64, .int .u64, .int .u32, .int .i64, .int .i64, .str, .int .i64, .int .i64, .int .i64, .bool, .int .i64, .bool]) []))) a0 → ∃ k, F_aqueductlaw14_DevqClones.S k a0 = .ok true := by
  intro a0 h0
  have hs : okScr a0.2.2 := h0.2.2
  have hlen : a0.2.2.length ≤ maxLen := hs.1
  have hml : maxLen = 9223372036854775807 := by decide
  have fx : F_aqueductlaw14_fixed.S 100 = .ok true := fixed14 60
  refine ⟨100, ?_⟩
  unfold F_aqueductlaw14_DevqClones.S F_aqueductlaw14_DevqClones.top
  rw [laid_S]
  by_cases hc : chkE a0.2.1 (many a0.1) = 0
  · rw [if_pos hc]
    have ok := chkE_ok _ _ hc
    have hn := many_le a0.1
    have fin : ∀ (q : TQ) (g : TM), okM g → g.1.length = many a0.1 → OkQ q (many a0.1) → q.1 = a0.2.1 → ∀ T : O Bool,
        T = (O.bind (F_slices_Clone_byte_byte.S 100 g.1) fun r74 => O.bind (F_api_Access.S 100 g.2.2) fun r75 => O.cond false (.ok false) (O.cond false (.ok false)
          (O.bind (F_devq_Queue_Next.S 100 q (r74, g.2.1, r75)) fun r77 => O.cond (decide (q.2.2.2.2.2.1 ≠ q.2.2.2.2.2.1)) (.ok false) (O.cond (decide (q.2.2.2.2.2.2 ≠ q.2.2.2.2.2.2)) (.ok false)
          (O.bind (F_devq_Queue_Next.S 100 q g) fun r78 => O.bind (F_aqueductref14_Same.S 100 r77.1.1 r78.1.1) fun r79 => O.cond r79 (O.cond (decide (r77.1.2.1 = r78.1.2.1)) (O.cond (decide (r77.1.2.2 = r78.1.2.2))
          (O.cond (decide (r77.2.1.2.2.2.2.2.1 = r78.2.1.2.2.2.2.2.1)) (O.cond (decide (r77.2.1.2.2.2.2.2.2 = r78.2.1.2.2.2.2.2.2)) (O.bind (F_devq_Check.S 100 a0.2.1 r78.2.2) fun r80 => O.cond (decide (r80 = (0 : Int)))
          (O.bind (F_aqueductlaw14_fixed.S 100) fun r81 => .ok r81) (.ok false)) (.ok false)) (.ok false)) (.ok false)) (.ok false)) (.ok false)))))) → T = .ok true := by
      intro q g hg hl hq hql T hT
      rw [hT, CloneB_S _ _ (by omega), O.bind_ok, Acc_S' _ _ (by have := hg.2; omega), O.bind_ok, O.cond_false, O.cond_false]
      obtain ⟨r, hr, p1, p2, p3⟩ := Next_S 100 (by omega) q g hg (by rw [hl]; exact hq)
      have hp := (nextR_ok q g.1 (by rw [hl]; exact hq)).2.2
      rw [← p1] at hp
      have hlr : r.2.2.1.length = many a0.1 := by rw [p3.1, hl]
      rw [show ((g.1, g.2.1, g.2.2) : TM) = g from rfl, hr, O.bind_ok, O.cond_neg (by simp), O.cond_neg (by simp), O.bind_ok, Same14_refl _ _ hp (by omega), O.bind_ok, O.cond_true, O.cond_pos rfl, O.cond_pos rfl, O.cond_pos rfl, O.cond_pos rfl, Check_S _ _ _ (by omega), O.bind_ok, hlr, hc, O.cond_pos rfl, fx, O.bind_ok]
    have lp : ∀ (m i j : Nat), i + m = 50 → m < j → ∀ (q : TQ) (g : TM), okM g → g.1.length = many a0.1 → OkQ q (many a0.1) → q.1 = a0.2.1 → flatQ (F_aqueductlaw14_DevqClones.l2 100 a0 j (i : Int) g.2.1) q g.1 g.2.2 = .ok true := by
      intro m
      induction m with
      | zero =>
        intro i j hi hj q g hg hl hq hql
        obtain ⟨j, rfl⟩ : ∃ i, j = i + 1 := ⟨j - 1, by omega⟩
        show F_aqueductlaw14_DevqClones.l2_b _ _ _ _ _ _ _ _ _ _ _ _ _ _ _ _ _ _ _ _ = _
        unfold F_aqueductlaw14_DevqClones.l2_b
        by_cases h1 : (i : Int) < a0.2.2.length
        · rw [O.cond_pos h1, O.cond_neg (by omega)]
          exact fin q g hg hl hq hql _ rfl
        · rw [O.cond_neg h1]
          exact fin q g hg hl hq hql _ rfl
      | succ m ih =>
        intro i j hi hj q g hg hl hq hql
        obtain ⟨j, rfl⟩ : ∃ i, j = i + 1 := ⟨j - 1, by omega⟩
        show F_aqueductlaw14_DevqClones.l2_b _ _ _ _ _ _ _ _ _ _ _ _ _ _ _ _ _ _ _ _ = _
        unfold F_aqueductlaw14_DevqClones.l2_b
        by_cases h1 : (i : Int) < a0.2.2.length
        · rw [O.cond_pos h1, O.cond_pos (by omega), O.chk_dec (by omega), O.chk_dec (by omega)]
          obtain ⟨r, hr, _⟩ := memory_sat 100 (by omega) ((gt ((0 : Int), (0 : Int), (0 : Int), (0 : Int), (0 : Int), (0 : Int), ByteArray.empty, (0 : Int), (0 : Int), (0 : Int), false, (0 : Int), false) a0.2.2 (i : Int)).1, (gt ((0 : Int), (0 : Int), (0 : Int), (0 : Int), (0 : Int), (0 : Int), ByteArray.empty, (0 : Int), (0 : Int), (0 : Int), false, (0 : Int), false) a0.2.2 (i : Int)).2.1, (_, _, _, _), _, _, _, (_, _, _), _) a0.2.1 (okScr_at _ hs _ i (by omega)) (by have := ok.lo; omega)
          rw [hr, O.bind_ok, i64_in _ (by omega)]
          have stp : ∀ g : TM, okM g → g.1.length = many a0.1 → ∀ T : O Bool, T = (O.chk (decide (0 ≤ (i : Int) ∧ (i : Int) < (List.length a0.2.2 : Int) ∧ (List.length a0.2.2 : Int) ≤ (List.length a0.2.2 : Int))) (
              O.chk (decide (0 ≤ (i : Int) ∧ (i : Int) < (List.length a0.2.2 : Int))) (
              O.cond (decide ((gt ((0 : Int), (0 : Int), (0 : Int), (0 : Int), (0 : Int), (0 : Int), ByteArray.empty, (0 : Int), (0 : Int), (0 : Int), false, (0 : Int), false) a0.2.2 (i : Int)).1 = (4 : Int))) (
              O.bind (F_devq_Queue_Next.S 100 q g) fun r72 => flatQ (F_aqueductlaw14_DevqClones.l2 100 a0 j ((i : Int) + 1) r72.2.2.2.1) r72.2.1 r72.2.2.1 r72.2.2.2.2) (
              flatQ (F_aqueductlaw14_DevqClones.l2 100 a0 j ((i : Int) + 1) g.2.1) q g.1 g.2.2)))) → T = .ok true := by
            intro g hg hl T hT
            rw [hT, O.chk_dec (by omega), O.chk_dec (by omega)]
            by_cases h4 : (gt ((0 : Int), (0 : Int), (0 : Int), (0 : Int), (0 : Int), (0 : Int), ByteArray.empty, (0 : Int), (0 : Int), (0 : Int), false, (0 : Int), false) a0.2.2 (i : Int)).1 = (4 : Int)
            · rw [O.cond_pos h4]
              obtain ⟨r, hr, p1, p2, p3⟩ := Next_S 100 (by omega) q g hg (by rw [hl]; exact hq)
              have hp := nextR_ok q g.1 (by rw [hl]; exact hq)
              rw [← p2, hl] at hp
              rw [hr, O.bind_ok]
              exact ih (i + 1) j (by omega) (by omega) r.2.1 r.2.2 (sameM_ok hg p3) (by rw [p3.1, hl]) hp.1 (hp.2.1.trans hql)
            · rw [O.cond_neg h4]
              exact ih (i + 1) j (by omega) (by omega) q g hg hl hq hql
          cases hb : r.2.2
          · rw [O.cond_false]; exact stp g hg hl _ rfl
          · rw [O.cond_true, show (g.1, g.2.1, g.2.2) = g from rfl, Write_S _ _ _ _ hg, O.bind_ok]
            by_cases hm : mayM r.1 r.2.1.size g.1.length = true
            · rw [if_pos hm]
              have := wrM_ok g _ _ hg hm
              exact stp _ this.1 (by rw [this.2, hl]) _ rfl
            · rw [if_neg hm]; exact stp g hg hl _ rfl
        · rw [O.cond_neg h1]
          exact fin q g hg hl hq hql _ rfl
    have h := lp 50 0 100 (by omega) (by omega) (q0 a0.2.1) (mem0 (many a0.1)) ⟨by simp [mem0]; omega, by simp [mem0]⟩ (by simp [mem0]) (q0_ok _ _ ok) rfl
    simpa [flatQ] using h
  · rw [if_neg hc]
    simp [fx]
end Go.Proofs.Ytjdhepioehfmhaa
