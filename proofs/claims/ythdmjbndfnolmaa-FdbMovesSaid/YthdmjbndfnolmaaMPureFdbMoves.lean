/- The law FdbMoves of its plain function. -/
import Derived.Test.YthdmjbndfnolmaaMPFm
namespace Go.Proofs.Ythdmjbndfnolmaa
open Go.Aq Go.IntWalk
set_option linter.unusedVariables false
structure Mov (g : GT) : Prop where
  inv : Inv g
  room : g.1 = 100
  keys : ∀ e ∈ g.2.2, e.1.2 = ownB 1 ∧ 0 ≤ e.1.1 ∧ e.1.1 < 8
theorem Mov.len {g : GT} (h : Mov g) : g.2.2.length ≤ 8 := by
  have hn : (g.2.2.map fun e => e.1.1).Nodup := by
    have := h.inv.nodup
    unfold List.Nodup at this ⊢
    rw [List.pairwise_map] at this ⊢
    refine List.Pairwise.imp_of_mem ?_ this
    intro a b ha hb hab e
    exact hab (Prod.ext e ((h.keys a ha).1.trans (h.keys b hb).1.symm))
  have := nodup_len 8 _ hn (fun x hx => by
    obtain ⟨e, he, rfl⟩ := List.mem_map.1 hx
    exact (h.keys e he).2)
  simpa using this
theorem Mov.step {g : GT} (h : Mov g) (v p : Int) (hv : 0 ≤ v ∧ v < 8) (hp : 0 ≤ p ∧ p < 16) : learnG v (ownB 1) p g = (true, g.1, g.2.1, mput g.2.2 (v, ownB 1) (v, ownB 1, p, (0 : Int))) ∧ Mov (g.1, g.2.1, mput g.2.2 (v, ownB 1) (v, ownB 1, p, (0 : Int))) := by
  have hl := learn_yes (g := g) (okLearn_iff.2 ⟨hv.1, by omega, kind_own 1, hp.1, hp.2⟩) (.inr (by have := h.len; have := h.room; omega))
  have hi := inv_learn h.inv v (ownB 1) p
  rw [hl] at hi
  refine ⟨hl, hi, h.room, fun e he => ?_⟩
  rcases mput_mem he with rfl | he
  · exact ⟨rfl, hv⟩
  · exact h.keys e he
theorem Pure.FdbMoves : ∀ (a0 : List Int), okS (.row false 3 [.int .i64]) a0 → ∃ k, F_aqueductlaw18_FdbMoves.S k a0 = .ok true := by
  intro a0 h0
  have hlen : a0.length ≤ maxLen := h0.1
  rw [max_len] at hlen
  refine ⟨100, ?_⟩
  have fx : F_aqueductlaw18_fixed.S 100 = .ok true := fixed18 100 (by omega)
  have lp : ∀ (m i j : Nat), i + m = 40 → m < j → ∀ g : GT, Mov g → F_aqueductlaw18_FdbMoves.l1 100 a0 j (i : Int) g.1 g.2.1 g.2.2 = .ok true := by
    intro m
    induction m with
    | zero =>
      intro i j hi hj g hg
      obtain ⟨j, rfl⟩ : ∃ i, j = i + 1 := ⟨j - 1, by omega⟩
      show F_aqueductlaw18_FdbMoves.l1_b _ _ _ _ _ _ _ = _
      unfold F_aqueductlaw18_FdbMoves.l1_b
      by_cases h1 : (i : Int) < a0.length
      · rw [O.cond_pos h1, O.cond_neg (by omega), fx, O.bind_ok]
      · rw [O.cond_neg h1, fx, O.bind_ok]
    | succ m ih =>
      intro i j hi hj g hg
      obtain ⟨j, rfl⟩ : ∃ i, j = i + 1 := ⟨j - 1, by omega⟩
      show F_aqueductlaw18_FdbMoves.l1_b _ _ _ _ _ _ _ = _
      unfold F_aqueductlaw18_FdbMoves.l1_b
      by_cases h1 : (i : Int) < a0.length
      · rw [O.cond_pos h1, O.cond_pos (by omega), O.chk_dec (by omega), O.chk_dec (by omega), O.chk_dec (by omega), O.chk_dec (by omega)]
        generalize gt (0 : Int) a0 (i : Int) = x
        have hv := bAnd_3 (shR .i64 x (4 : Int))
        have hp := bAnd_15 x
        generalize bAnd .i64 (shR .i64 x (4 : Int)) (3 : Int) = v at hv ⊢
        generalize bAnd .i64 x (15 : Int) = p at hp ⊢
        rw [i64_in (v + 4) (by omega), i64_in (15 - p) (by omega), i64_in (v + 8) (by omega), i64_in ((i : Int) + 1) (by omega)]
        simp only [own_S, O.bind_ok, Learn_S]
        obtain ⟨s1, m1⟩ := hg.step v p (by omega) (by omega)
        rw [show ((g.1, g.2.1, g.2.2) : GT) = g from rfl, s1, Bool.not_true, O.cond_false]
        obtain ⟨s2, m2⟩ := m1.step (v + 4) (15 - p) (by omega) (by omega)
        rw [s2, Bool.not_true, O.cond_false]
        have hne : ((v + 4, ownB 1) : KT) ≠ (v, ownB 1) := fun e => by have h : v + 4 = v := congrArg Prod.fst e; omega
        have e1 : mget ((0 : Int), ByteArray.empty, (0 : Int), (0 : Int)) (mput (mput g.2.2 (v, ownB 1) (v, ownB 1, p, (0 : Int))) (v + 4, ownB 1) (v + 4, ownB 1, 15 - p, (0 : Int))) (v, ownB 1) = (v, ownB 1, p, (0 : Int)) := by
          rw [mget_other _ _ _ _ _ hne, mget_put]
        have e2 : mget ((0 : Int), ByteArray.empty, (0 : Int), (0 : Int)) (mput (mput g.2.2 (v, ownB 1) (v, ownB 1, p, (0 : Int))) (v + 4, ownB 1) (v + 4, ownB 1, 15 - p, (0 : Int))) (v + 4, ownB 1) = (v + 4, ownB 1, 15 - p, (0 : Int)) := mget_put _ _ _ _
        have e3 : mhas (mput (mput g.2.2 (v, ownB 1) (v, ownB 1, p, (0 : Int))) (v + 4, ownB 1) (v + 4, ownB 1, 15 - p, (0 : Int))) (v, ownB 1) = true := by simp [mhas_put]
        have e4 : mhas (mput (mput g.2.2 (v, ownB 1) (v, ownB 1, p, (0 : Int))) (v + 4, ownB 1) (v + 4, ownB 1, 15 - p, (0 : Int))) (v + 4, ownB 1) = true := by simp [mhas_put]
        have e5 : mhas (mput (mput g.2.2 (v, ownB 1) (v, ownB 1, p, (0 : Int))) (v + 4, ownB 1) (v + 4, ownB 1, 15 - p, (0 : Int))) (v + 8, ownB 1) = false := by
          rw [mhas_not]
          intro h
          obtain ⟨e, he, hk⟩ := List.mem_map.1 h
          have := (m2.keys e he).2
          have h8 : e.1.1 = v + 8 := congrArg Prod.fst hk
          omega
        have hl := m2.len
        rw [e1, O.cond_neg (by simp), e3, Bool.not_true, O.cond_false, e2, O.cond_neg (by simp), e4, Bool.not_true, O.cond_false, e5, O.cond_false, Rows_S 100 m2.inv, O.bind_ok, rows_len, O.cond_neg (by omega)]
        exact ih (i + 1) j (by omega) (by omega) _ m2
      · rw [O.cond_neg h1, fx, O.bind_ok]
  unfold F_aqueductlaw18_FdbMoves.S F_aqueductlaw18_FdbMoves.top
  rw [New_ok 100 100 9 (by omega), O.sum_inr, O.cond_false, O.cond_neg (by simp)]
  exact lp 40 0 100 (by omega) (by omega) (100, 9, []) ⟨inv_new 100 9 (by omega) (by omega), rfl, by simp⟩
end Go.Proofs.Ythdmjbndfnolmaa
