/- The law FdbNever of its plain function. -/
import Derived.Test.YthdmjbndfnolmaaEPFm
namespace Go.Proofs.Ythdmjbndfnolmaa
open Go.Aq Go.IntWalk
set_option linter.unusedVariables false
def n0 : GT := (100, 9, [(((1 : Int), ownB 1), (1 : Int), ownB 1, (2 : Int), (0 : Int))])
theorem n0_inv : Inv n0 := ⟨by simp [n0], by simp [n0, keyV], by simp [n0], by simp [n0]⟩
def manyB (n : Int) : ByteArray := (⟨#[1]⟩ : ByteArray) ++ (ByteArray.extract (ownB n) 1 (ByteArray.size (ownB n)))
theorem many_list (n : Int) : (manyB n).data.toList = 1 :: (ownB n).data.toList.tail := by
  unfold manyB
  rw [ByteArray.data_append, ByteArray.data_extract, own_size]
  have h := own_list n
  simp [h]
theorem kind_many (n : Int) : kindB (manyB n) = 2 := by
  have hs : (manyB n).size = 6 := by
    show (manyB n).data.size = 6
    rw [← Array.length_toList, many_list, own_list]; rfl
  unfold kindB
  rw [if_neg (by rw [hs]; decide), if_neg, if_pos]
  · unfold bt
    rw [many_list]
    simp only [Int.toNat_zero, List.getD_cons_zero]
    decide
  · intro h
    have := congrArg (fun m : ByteArray => m.data.toList) h
    simp only [many_list] at this
    have := congrArg List.head? this
    simp at this
theorem ext1_size (n : Int) : (ByteArray.extract (ownB n) 1 (ByteArray.size (ownB n))).size = 5 := by
  rw [ByteArray.size_extract, own_size]; rfl
theorem Pure.FdbNever : ∀ (a0 : List (Int × Int × Int × ByteArray)), okS (.row false 42 [.int .i64, .int .i64, .int .i64, .str]) a0 → ∃ k, F_aqueductlaw18_FdbNever.S k a0 = .ok true := by
  intro a0 h0
  have hlen : a0.length ≤ maxLen := h0.1
  rw [max_len] at hlen
  refine ⟨100, ?_⟩
  have fx : F_aqueductlaw18_fixed.S 100 = .ok true := fixed18 100 (by omega)
  have hm : mget ((0 : Int), ByteArray.empty, (0 : Int), (0 : Int)) n0.2.2 ((1 : Int), ownB 1) = ((1 : Int), ownB 1, (2 : Int), (0 : Int)) := by simp [n0, mget]
  have hh : mhas n0.2.2 ((1 : Int), ownB 1) = true := by simp [n0, mhas]
  have lp : ∀ (m i j : Nat), i + m = 40 → m < j → F_aqueductlaw18_FdbNever.l0 100 a0 j (i : Int) n0.1 n0.2.1 n0.2.2 = .ok true := by
    intro m
    induction m with
    | zero =>
      intro i j hi hj
      obtain ⟨j, rfl⟩ : ∃ i, j = i + 1 := ⟨j - 1, by omega⟩
      show F_aqueductlaw18_FdbNever.l0_b _ _ _ _ _ _ _ = _
      unfold F_aqueductlaw18_FdbNever.l0_b
      by_cases h1 : (i : Int) < a0.length
      · rw [O.cond_pos h1, O.cond_neg (by omega), own_S, O.bind_ok, hm, O.cond_pos rfl, hh, O.cond_true, fx, O.bind_ok]
      · rw [O.cond_neg h1, own_S, O.bind_ok, hm, O.cond_pos rfl, hh, O.cond_true, fx, O.bind_ok]
    | succ m ih =>
      intro i j hi hj
      obtain ⟨j, rfl⟩ : ∃ i, j = i + 1 := ⟨j - 1, by omega⟩
      show F_aqueductlaw18_FdbNever.l0_b _ _ _ _ _ _ _ = _
      unfold F_aqueductlaw18_FdbNever.l0_b
      by_cases h1 : (i : Int) < a0.length
      · rw [O.cond_pos h1, O.cond_pos (by omega), O.chk_dec (by omega), O.chk_dec (by omega)]
        generalize gt ((0 : Int), (0 : Int), (0 : Int), ByteArray.empty) a0 (i : Int) = x
        have hv := bAnd_255 x.2.1
        have hp := bAnd_255 x.2.2.1
        rw [show ((n0.1, n0.2.1, n0.2.2) : GT) = n0 from rfl, Rows_S 100 n0_inv, O.bind_ok, Learn_S, O.bind_ok, i64_in (-1 - _) (by omega), learn_no (okLearn_not.2 (by omega)), Learn_S, O.bind_ok, i64_in (4095 + _) (by omega), learn_no (okLearn_not.2 (by omega)), own_S, O.bind_ok]
        rw [O.chk_dec (by rw [own_size]; omega), O.chk_dec (by rw [ext1_size]; decide), Learn_S, O.bind_ok]
        rw [show (⟨#[1]⟩ : ByteArray) ++ (ByteArray.extract (ownB x.2.2.1) 1 (ByteArray.size (ownB x.2.2.1))) = manyB x.2.2.1 from rfl, learn_no (okLearn_not.2 (by rw [kind_many]; omega)), O.bind_ok, Learn_S, O.bind_ok, i64_in (16 + _) (by omega), learn_no (okLearn_not.2 (by omega)), O.cond_false, O.cond_false, O.cond_false, O.cond_false, Rows_S 100 n0_inv, O.bind_ok, O.cond_neg (by simp), i64_in ((i : Int) + 1) (by omega)]
        exact ih (i + 1) j (by omega) (by omega)
      · rw [O.cond_neg h1, own_S, O.bind_ok, hm, O.cond_pos rfl, hh, O.cond_true, fx, O.bind_ok]
  unfold F_aqueductlaw18_FdbNever.S F_aqueductlaw18_FdbNever.top
  have hl := learn_yes (v := 1) (m := ownB 1) (p := 2) (g := (100, 9, [])) (okLearn_iff.2 ⟨by omega, by omega, kind_own 1, by omega, by omega⟩) (.inr (by simp))
  rw [New_ok 100 100 9 (by omega), O.sum_inr, O.cond_false, O.cond_neg (by simp), own_S, O.bind_ok, Learn_S, hl, O.bind_ok, Bool.not_true, O.cond_false]
  exact lp 40 0 100 (by omega) (by omega)
end Go.Proofs.Ythdmjbndfnolmaa
