/- The plain law of SumTurns: the order of a text's words makes no difference to its sum; noughts behind it neither. -/
import Derived.Test.YtmpmdfgjejkaiaaBP02
namespace Go.Proofs.Ytmpmdfgjejkaiaa.Pure
open Go.Aq Go.IntWalk
theorem SumTurns : ∀ (a0 : ByteArray) (a1 : Int), a0.size ≤ 140737488351232 → (Lit.int .i64 a1).wf = true → ∃ k, F_aqueductlaw02_SumTurns.S k a0 a1 = .ok true := by
  intro a0 a1 h0 h1
  refine ⟨5000, ?_⟩
  obtain ⟨m, hm, hm1, hm2⟩ := evenCut a0 h0
  have hsz : (a0.extract 0 (2 * m)).size = 2 * m := by rw [ext_size]; omega
  have fin : ∀ (v1 : Int) (q : Nat) (v2 : ByteArray) (v3 : Int) (R : ByteArray → Int → O Bool), v1 = ((2 * q : Nat) : Int) → 2 * q ≤ 2 * m → v3 < 0 → v2.size ≤ 1000 → tot v2.data.toList = tot (a0.extract 0 (2 * m)).data.toList →
      F_aqueductlaw02_SumTurns.l1_b 5000 a0 v1 R v2 v3 = .ok true := by
    intro v1 q v2 v3 R hv hq h3 hs2 ht
    unfold F_aqueductlaw02_SumTurns.l1_b
    rw [hm, Int.toNat_natCast]
    generalize hS : a0.extract 0 (2 * m) = S at *
    have e1 : (S.extract v1.toNat S.size ++ S.extract 0 v1.toNat).size = S.size := by rw [app_size, ext_size, ext_size]; omega
    have e0 : (⟨#[0, 0, 0]⟩ : ByteArray).size = 3 := rfl
    have t1 : tot (S.extract v1.toNat S.size ++ S.extract 0 v1.toNat).data.toList = tot S.data.toList := by
      subst hv
      rw [app_list, ext_list, ext_list, Int.toNat_natCast, Nat.sub_zero, List.drop_zero, List.take_of_length_le (by rw [List.length_drop, ← size_list]; omega), tot_even _ _ (by rw [List.length_drop, ← size_list]; omega), Int.add_comm,
        ← tot_even _ _ (by rw [List.length_take, ← size_list]; omega), List.take_append_drop]
    have t2 : tot (S ++ ⟨#[0, 0, 0]⟩).data.toList = tot S.data.toList := by
      rw [app_list, tot_even _ _ (by rw [← size_list]; omega)]
      show _ + tot [0, 0, 0] = _
      rw [show tot [0, 0, 0] = 0 from rfl, Int.add_zero]
    rw [O.cond_neg (by omega), fixed_S _ (by omega), O.bind_ok, O.cond_true, O.chk_dec (by omega), O.chk_dec (by omega), O.chk_dec (by rw [← app_size, e1]; omega), On_S _ 0 _ (by omega) (by omega) (by omega), O.bind_ok,
      On_S _ 0 S (by omega) (by omega) (by omega), O.bind_ok, t1, O.cond_pos rfl, On_S _ 0 v2 (by omega) (by omega) (by omega), O.bind_ok, O.bind_ok, ht, O.cond_pos rfl, O.chk_dec (by omega),
      On_S _ 0 _ (by omega) (by rw [app_size]; omega) (by rw [app_size]; omega), O.bind_ok, O.bind_ok, t2]
    simp
  have lp : ∀ (v1 : Int) (q : Nat), v1 = ((2 * q : Nat) : Int) → 2 * q ≤ 2 * m → ∀ (n j : Nat) (v2 : ByteArray), n < j → n ≤ m → v2.size + 2 * n = 2 * m → tot v2.data.toList + tot ((a0.extract 0 (2 * m)).data.toList.take (2 * n)) = tot (a0.extract 0 (2 * m)).data.toList →
      F_aqueductlaw02_SumTurns.l1 5000 a0 v1 j v2 (2 * (n : Int) - 2) = .ok true := by
    intro v1 q hv hq n
    induction n with
    | zero =>
      intro j v2 hj _ hs ht
      obtain ⟨j, rfl⟩ : ∃ i, j = i + 1 := ⟨j - 1, by omega⟩
      exact fin v1 q v2 _ _ hv hq (by omega) (by omega) (by simpa [tot] using ht)
    | succ n ih =>
      intro j v2 hj hn hs ht
      obtain ⟨j, rfl⟩ : ∃ i, j = i + 1 := ⟨j - 1, by omega⟩
      show F_aqueductlaw02_SumTurns.l1_b 5000 a0 v1 _ v2 _ = _
      unfold F_aqueductlaw02_SumTurns.l1_b
      rw [hm, Int.toNat_natCast]
      have e : (2 * ((n + 1 : Nat) : Int) - 2) = ((2 * n : Nat) : Int) := by omega
      rw [e, i64_in (_ + 2) (by omega), i64_in (_ - 2) (by omega), O.cond_pos (by omega), O.chk_dec (by omega)]
      have e2 : (((2 * n : Nat) : Int) + 2).toNat = 2 * n + 2 := by omega
      have e3 : (((2 * n : Nat) : Int) - 2) = 2 * (n : Int) - 2 := by omega
      rw [e2, e3, Int.toNat_natCast]
      have hx : ((a0.extract 0 (2 * m)).extract (2 * n) (2 * n + 2)).size = 2 := by rw [ext_size]; omega
      rw [O.chk_dec (by rw [hx]; omega)]
      refine ih j _ (by omega) (by omega) (by rw [app_size, hx]; omega) ?_
      rw [app_list, tot_even _ _ (by rw [← size_list]; omega), ext_list, ← ht, show 2 * (n + 1) = 2 * n + 2 from rfl, List.take_add, tot_even _ _ (by rw [List.length_take, ← size_list]; omega), Nat.add_sub_cancel_left]
      omega
  have lp2 : ∀ (v1 : Int) (q : Nat), v1 = ((2 * q : Nat) : Int) → 2 * q ≤ 2 * m → F_aqueductlaw02_SumTurns.j4 5000 a0 v1 = .ok true := by
    intro v1 q hv hq
    unfold F_aqueductlaw02_SumTurns.j4 F_aqueductlaw02_SumTurns.j4_b
    rw [hm, Int.toNat_natCast, hsz, i64_in _ (by omega), show ((2 * m : Nat) : Int) - 2 = 2 * (m : Int) - 2 by omega]
    refine lp v1 q hv hq m 5000 _ (by omega) (Nat.le_refl _) ?_ ?_
    · show 0 + 2 * m = 2 * m; omega
    · show tot [] + _ = _
      rw [List.take_of_length_le (by rw [← size_list]; omega)]; simp [tot]
  unfold F_aqueductlaw02_SumTurns.S F_aqueductlaw02_SumTurns.top
  rw [hm, Int.toNat_natCast, hsz, O.chk_dec (by omega)]
  by_cases hp : 0 < m
  · have hb := bAnd_lo a1
    generalize bAnd .i64 a1 65535 = x at *
    have e : ((2 * m : Nat) : Int) / 2 = m := by omega
    have y0 := Int.emod_nonneg x (b := (m : Int)) (by omega)
    have y1 := Int.emod_lt_of_pos x (b := (m : Int)) (by omega)
    rw [quo_in _ 2 (by omega), e, i64_in (m : Int) (by omega), O.cond_pos (by omega), O.chk_dec (by omega), rem_in _ _ hb.1, i64_in _ (by omega)]
    exact lp2 _ (x % m).toNat (by omega) (by omega)
  · rw [O.cond_neg (by omega)]
    exact lp2 0 0 (by omega) (by omega)
end Go.Proofs.Ytmpmdfgjejkaiaa.Pure
