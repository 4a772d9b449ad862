/- The plain law of SumParts: a text's sum goes on from any even place; joined sums of two texts are that of both; a text with its sum behind it is right. -/
import Derived.Test.YtmpmdfgjejkaiaaBP02
namespace Go.Proofs.Ytmpmdfgjejkaiaa.Pure
open Go.Aq Go.IntWalk
theorem SumParts : ∀ (a0 : ByteArray) (a1 : ByteArray), a0.size ≤ 140737488351232 → a1.size ≤ 140737488351232 → ∃ k, F_aqueductlaw02_SumParts.S k a0 a1 = .ok true := by
  intro a0 a1 h0 h1
  refine ⟨5000, ?_⟩
  unfold F_aqueductlaw02_SumParts.S
  rw [O.chk_dec (by omega), O.chk_dec (by omega)]
  generalize ha : a0.extract 0 (min (a0.size : Int) 2000).toNat = a
  generalize hb : a1.extract 0 (min (a1.size : Int) 2000).toNat = b
  have sa : a.size ≤ 2000 := by rw [← ha, ByteArray.size_extract]; omega
  have sb : b.size ≤ 2000 := by rw [← hb, ByteArray.size_extract]; omega
  have sab := app_size a b
  have ta := tot_nonneg a.data.toList; have tb := tot_nonneg b.data.toList
  have na := nrm_lo ta; have nb := nrm_lo tb
  rw [O.chk_dec (by omega), On_S _ 0 _ (by omega) (by omega) (by omega), O.bind_ok, On_S _ 0 _ (by omega) (by omega) (by omega), O.bind_ok, On_S _ 0 _ (by omega) (by omega) (by omega), O.bind_ok]
  simp only [Int.zero_add]
  rw [Join_S _ (by omega) _ _ _ na nb, O.bind_ok, jn_tot _ _ _ (by rw [size_list]), ← app_list, O.cond_neg (by simp), fixed_S _ (by omega), O.bind_ok]
  by_cases hp : a.size % 2 = 0
  · have hlen : a.data.toList.length % 2 = 0 := by rw [← size_list]; exact hp
    have hw : 0 ≤ 65535 - nrm (tot a.data.toList) ∧ 65535 - nrm (tot a.data.toList) ≤ 65535 := by omega
    have ws := word_size _ hw
    have wt := word_tot1 _ hw
    rw [O.cond_pos (by rw [rem_in _ _ (by omega)]; omega), Sum_S _ _ (by omega) (by omega), O.bind_ok, O.bind_ok, On_S _ _ _ na (by omega) (by omega), O.bind_ok, nrm_add ta tb, app_list, tot_even _ _ hlen, O.cond_neg (by simp), O.chk_dec (by rw [ws]; omega),
      Right_S _ _ (by rw [app_size, ws]; omega) (by rw [app_size, ws]; omega), O.bind_ok, app_list, tot_even _ _ hlen, wt]
    have : nrm (tot a.data.toList + (65535 - nrm (tot a.data.toList))) = 65535 := by
      unfold nrm; split <;> split <;> omega
    rw [this]
    simp
  · rw [O.cond_neg (by rw [rem_in _ _ (by omega)]; omega)]
end Go.Proofs.Ytmpmdfgjejkaiaa.Pure
