/- The plain law of SumChanges: a word that is another one makes just the sum that Update tells, but for 0 and 65535. -/
import Derived.Test.YtmpmdfgjejkaiaaBP02
namespace Go.Proofs.Ytmpmdfgjejkaiaa.Pure
open Go.Aq Go.IntWalk
theorem SumChanges : ∀ (a0 : ByteArray) (a1 : Int) (a2 : Int), a0.size ≤ 140737488351232 → (Lit.int .i64 a1).wf = true → (Lit.int .u16 a2).wf = true → ∃ k, F_aqueductlaw02_SumChanges.S k a0 a1 a2 = .ok true := by
  intro a0 a1 a2 h0 h1 h2
  have h2 := wf_u16 h2
  refine ⟨5000, ?_⟩
  obtain ⟨m, hm, hm1, hm2⟩ := evenCut a0 h0
  unfold F_aqueductlaw02_SumChanges.S
  rw [hm, Int.toNat_natCast]
  have hsz : (a0.extract 0 (2 * m)).size = 2 * m := by rw [ext_size]; omega
  generalize a0.extract 0 (2 * m) = S at *
  rw [hsz, O.chk_dec (by omega), fixed_S _ (by omega)]
  by_cases hp : 0 < m
  · have hb := bAnd_lo a1
    generalize bAnd .i64 a1 65535 = x at *
    have e : ((2 * m : Nat) : Int) / 2 = m := by omega
    have y0 := Int.emod_nonneg x (b := (m : Int)) (by omega)
    have y1 := Int.emod_lt_of_pos x (b := (m : Int)) (by omega)
    rw [quo_in _ 2 (by omega), e, i64_in (m : Int) (by omega), O.cond_neg (by omega), O.chk_dec (by omega), rem_in _ _ hb.1, i64_in (_ * _) (by omega)]
    obtain ⟨q, hq⟩ : ∃ q : Nat, x % (m : Int) * 2 = ((2 * q : Nat) : Int) := ⟨(x % m).toNat, by omega⟩
    rw [hq, i64_in (_ + 1) (by omega), i64_in (_ + 2) (by omega), Int.toNat_natCast, show (((2 * q : Nat) : Int) + 2).toNat = 2 * q + 2 by omega, show ((2 * q : Nat) : Int) + 1 = ((2 * q + 1 : Nat) : Int) by omega]
    have ws := word_size a2 h2; have wt := word_list a2 h2
    generalize strOf [IntKind.u8.wrap (shR .u16 a2 8), IntKind.u8.wrap a2] = wd at *
    have sl : S.data.toList.length = 2 * m := by rw [← size_list]; exact hsz
    have b1 := bt_lo S ((2 * q : Nat) : Int); have b2 := bt_hi S ((2 * q : Nat) : Int); have b3 := bt_lo S ((2 * q + 1 : Nat) : Int); have b4 := bt_hi S ((2 * q + 1 : Nat) : Int)
    have tS : tot S.data.toList = tot (S.data.toList.take (2 * q)) + (bt S ((2 * q : Nat) : Int) * 256 + bt S ((2 * q + 1 : Nat) : Int)) + tot (S.data.toList.drop (2 * q + 2)) := by
      conv => lhs; rw [← List.take_append_drop (2 * q) S.data.toList]
      rw [tot_even _ _ (by rw [List.length_take]; omega), tot_drop2 _ (2 * q) (by omega), bt_at S (2 * q) (by omega), bt_at S (2 * q + 1) (by omega)]
      omega
    have sT : (S.extract 0 (2 * q) ++ wd ++ S.extract (2 * q + 2) (2 * m)).size = 2 * m := by rw [app_size, app_size, ext_size, ext_size, ws]; omega
    have tT : tot (S.extract 0 (2 * q) ++ wd ++ S.extract (2 * q + 2) (2 * m)).data.toList = tot (S.data.toList.take (2 * q)) + a2 + tot (S.data.toList.drop (2 * q + 2)) := by
      rw [app_list, app_list, ext_list, ext_list, wt, Nat.sub_zero, List.drop_zero, List.take_of_length_le (l := S.data.toList.drop (2 * q + 2)) (by rw [List.length_drop]; omega), List.append_assoc, tot_even _ _ (by rw [List.length_take]; omega)]
      rw [List.cons_append, List.cons_append, List.nil_append, word_tot a2 h2]
      omega
    have z0 := tot_nonneg (S.data.toList.take (2 * q)); have z1 := tot_nonneg (S.data.toList.drop (2 * q + 2)); have zS := tot_nonneg S.data.toList
    have nS := nrm_lo zS
    rw [O.chk_dec (by omega), O.chk_dec (by omega), O.chk_dec (by omega), O.chk_dec (by omega), O.chk_dec (by rw [ext_size, ws]; omega), O.chk_dec (by rw [app_size, ext_size, ext_size, ws]; omega), Sum_S _ S (by omega) (by omega), O.bind_ok,
      word_u16 _ _ ⟨b1, b2⟩ ⟨b3, b4⟩, Update_S _ (by omega) _ _ _ (by omega) (by omega) h2, O.bind_ok, Sum_S _ _ (by omega) (by omega), O.bind_ok, O.bind_ok, O.cond_true, tT]
    generalize hA : tot (S.data.toList.take (2 * q)) = A at *
    generalize hB : tot (S.data.toList.drop (2 * q + 2)) = B at *
    generalize hO : bt S ((2 * q : Nat) : Int) * 256 + bt S ((2 * q + 1 : Nat) : Int) = O' at *
    have hu : upd (65535 - nrm (tot S.data.toList)) O' a2 = 65535 - nrm (A + a2 + B + 65535) := by
      unfold upd
      rw [show 65535 - (65535 - nrm (tot S.data.toList)) + (65535 - O') = nrm (tot S.data.toList) + (65535 - O') by omega, nrm_add zS (by omega), nrm_add (by omega) (by omega), tS]
      congr 2; omega
    rw [hu]
    by_cases hz : A + a2 + B = 0
    · rw [hz]; rw [O.cond_neg (by decide), O.cond_pos (by decide)]; rfl
    · rw [show nrm (A + a2 + B + 65535) = nrm (A + a2 + B) from nrm_congr (by omega) (by omega) (by omega) (by omega), O.cond_pos rfl]
  · rw [O.cond_pos (by omega), O.bind_ok]
end Go.Proofs.Ytmpmdfgjejkaiaa.Pure
