/- The law HdrOnly, in plain words. -/
import Derived.Test.YtkmhbpiphepjoaaAPureHdrFinishes
namespace Go.Proofs.Ytkmhbpiphepjoaa
open Go.Aq Go.IntWalk
/-- How often texts differ that differ at two places at most. -/
theorem only_loop (k : Nat) (s : ByteArray) (r : ByteArray × Int) (p : Nat) (hk : 4000000 ≤ k) (hs : (s.extract 0 (min (s.size : Int) 1600).toNat).size ≤ 1600) (hz : r.1.size = (s.extract 0 (min (s.size : Int) 1600).toNat).size)
    (hd : ∀ j : Nat, j < r.1.size → j ≠ p → j ≠ p + 1 → bt (s.extract 0 (min (s.size : Int) 1600).toNat) (j : Int) = bt r.1 (j : Int)) :
    ∀ (m i j : Nat), i + m = r.1.size → m < j → ∀ v : Int, 0 ≤ v → v ≤ (if p < i then 1 else 0) + (if p + 1 < i then 1 else 0) → F_aqueductlaw10_HdrOnly.l0 k s r j v (i : Int) = .ok true := by
  intro m
  induction m with
  | zero =>
    intro i j hi hj v h0 hv
    obtain ⟨j, rfl⟩ : ∃ i, j = i + 1 := ⟨j - 1, by omega⟩
    show F_aqueductlaw10_HdrOnly.l0_b k s r _ _ _ = _
    unfold F_aqueductlaw10_HdrOnly.l0_b
    rw [O.cond_neg (by omega), O.cond_pos (by split at hv <;> split at hv <;> omega), fixed10 _ hk, O.bind_ok]
  | succ m ih =>
    intro i j hi hj v h0 hv
    obtain ⟨j, rfl⟩ : ∃ i, j = i + 1 := ⟨j - 1, by omega⟩
    show F_aqueductlaw10_HdrOnly.l0_b k s r _ _ _ = _
    unfold F_aqueductlaw10_HdrOnly.l0_b
    rw [O.cond_pos (by omega), O.chk_dec (by omega), O.chk_dec (by omega)]
    have e : IntKind.i64.wrap ((i : Int) + 1) = ((i + 1 : Nat) : Int) := by rw [i64_in _ (by omega)]; push_cast; rfl
    rw [e]
    by_cases c : bt (s.extract 0 (min (s.size : Int) 1600).toNat) (i : Int) = bt r.1 (i : Int)
    · rw [O.cond_neg (fun h => h c)]
      refine ih (i + 1) j (by omega) (by omega) v h0 ?_
      split at hv <;> split at hv <;> split <;> split <;> omega
    · have hp : i = p ∨ i = p + 1 := by
        by_cases c1 : i = p
        · exact .inl c1
        · by_cases c2 : i = p + 1
          · exact .inr c2
          · exact absurd (hd i (by omega) c1 c2) c
      rw [O.cond_pos c, i64_in (v + 1) (by split at hv <;> split at hv <;> omega)]
      refine ih (i + 1) j (by omega) (by omega) (v + 1) (by omega) ?_
      split at hv <;> split at hv <;> split <;> split <;> omega
theorem Pure.HdrOnly : ∀ (a0 : Int × Int × Int × Int × Int × Int × Int) (a1 : ByteArray), okF (.cons (.leaf (.int .i64)) (.cons (.leaf (.int .i64)) (.cons (.leaf (.int .i64)) (.cons (.leaf (.int .i64)) (.cons (.leaf (.int .i64)) (.cons (.leaf (.int .i64)) (.one (.leaf (.int .i64))))))))) a0 → a1.size ≤ 140737488351232 → ∃ k, F_aqueductlaw10_HdrOnly.S k a0 a1 = .ok true := by
  intro h s hh hs
  refine ⟨4000000, ?_⟩
  unfold F_aqueductlaw10_HdrOnly.S F_aqueductlaw10_HdrOnly.top
  obtain ⟨h1, h2⟩ := cut_size s hs
  rw [O.chk_dec h2, finish_S _ _ (by omega) (by omega) h, O.bind_ok, fixed10 _ (Nat.le_refl _), bAnd_one]
  have lp := fun (r : ByteArray × Int) (p : Nat) hz hd => only_loop 4000000 s r p (Nat.le_refl _) h1 hz hd
  generalize ht : s.extract 0 (min (s.size : Int) 1600).toNat = t at h1 lp
  have same : ∀ r : ByteArray × Int, r = (t, 0) → O.cond (decide (r.2 ≠ 0)) (O.cond (decide (r.1 = (⟨#[]⟩ : ByteArray))) (O.bind (.ok true) fun r7 => .ok r7) (.ok false)) (O.cond (decide ((r.1.size : Int) ≠ (t.size : Int))) (.ok false) (O.cond (decide (h.1 % 2 = 0)) (O.cond (decide (r.1 ≠ t)) (.ok false) (F_aqueductlaw10_HdrOnly.l0 4000000 s r 4000000 0 0)) (F_aqueductlaw10_HdrOnly.l0 4000000 s r 4000000 0 0))) = .ok true := by
    rintro r rfl
    have l0 := lp (t, 0) 0 rfl (fun j hj _ _ => rfl) t.size 0 4000000 (by simp) (by omega) 0 (by omega) (by simp)
    have l1 : F_aqueductlaw10_HdrOnly.l0 4000000 s (t, 0) 4000000 0 0 = .ok true := l0
    rw [O.cond_neg (fun h => h rfl), O.cond_neg (fun h => h rfl)]
    by_cases c : h.1 % 2 = 0
    · rw [O.cond_pos c, O.cond_neg (fun h => h rfl), l1]
    · rw [O.cond_neg c, l1]
  unfold finP
  by_cases c1 : h.2.1 ≠ 0
  · rw [if_pos c1, O.cond_pos (by decide), O.cond_pos rfl, O.bind_ok]
  · rw [if_neg c1]
    by_cases c2 : h.1 % 2 = 0
    · rw [if_pos c2]; exact same (t, 0) rfl
    · rw [if_neg c2]
      by_cases c3 : (compP t h.2.2.2.2.1 h.2.2.2.2.2.1).2 ≠ 0
      · rw [if_pos c3, O.cond_pos (by decide), O.cond_pos rfl, O.bind_ok]
      · rw [if_neg c3]
        unfold compP at c3 ⊢
        split at c3
        · exact absurd (by decide) c3
        · rename_i c4
          rw [if_neg c4]
          generalize hp : (h.2.2.2.2.1 + h.2.2.2.2.2.1).toNat = p
          have hp2 : p + 2 ≤ t.size := by omega
          generalize fullP _ = n
          have hz := set2_size t p n hp2
          have l0 := lp (set2 t p n, 0) p hz (fun j hj n1 n2 => by
            show bt t (j : Int) = bt (set2 t p n) (j : Int)
            have hj : j < (set2 t p n).size := hj
            rw [bt_set2 t p n hp2 j (by omega)]
            split
            · rfl
            · rw [if_neg (by omega)]) t.size 0 4000000 (by show 0 + t.size = (set2 t p n).size; omega) (by omega) 0 (by omega) (by simp)
          rw [O.cond_neg (fun h => h rfl), hz, O.cond_neg (fun h => h rfl), O.cond_neg c2]
          exact l0
end Go.Proofs.Ytkmhbpiphepjoaa
