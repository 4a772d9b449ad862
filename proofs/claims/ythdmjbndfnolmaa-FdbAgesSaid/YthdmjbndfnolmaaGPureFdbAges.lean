/- The law FdbAges of its plain function. -/
import Derived.Test.YthdmjbndfnolmaaGPFm
namespace Go.Proofs.Ythdmjbndfnolmaa
open Go.Aq Go.IntWalk
set_option linter.unusedVariables false
def aE (p : Int) (a : Int) : List (KT × VT) := [(((7 : Int), ownB 1), (7 : Int), ownB 1, p, a)]
theorem aE_inv (K p a : Int) : Inv (4, K, aE p a) := ⟨by simp [aE], by simp [aE, keyV], by simp [aE], by simp⟩
theorem aE_stay {K p a : Int} (h : 0 ≤ a ∧ a + 1 < K ∧ K ≤ 1000) : tickE K (aE p a) = aE p (a + 1) := by
  unfold tickE aE
  have e : bumpE K (((7 : Int), ownB 1), (7 : Int), ownB 1, p, a) = some (((7 : Int), ownB 1), (7 : Int), ownB 1, p, a + 1) := by
    unfold bumpE upV
    rw [i64_in _ (by show -9223372036854775808 ≤ a + 1 ∧ a + 1 ≤ 9223372036854775807; omega), if_neg (by show ¬ K ≤ a + 1; omega)]
  rw [List.filterMap_cons, e]; rfl
theorem aE_go {K p a : Int} (h : 0 ≤ a ∧ a + 1 = K ∧ K ≤ 1000) : tickE K (aE p a) = [] := by
  unfold tickE aE
  have e : bumpE K (((7 : Int), ownB 1), (7 : Int), ownB 1, p, a) = none := by
    unfold bumpE upV
    rw [i64_in _ (by show -9223372036854775808 ≤ a + 1 ∧ a + 1 ≤ 9223372036854775807; omega), if_pos (by show K ≤ a + 1; omega)]
  rw [List.filterMap_cons, e]; rfl
theorem aE_has (p a : Int) : mhas (aE p a) ((7 : Int), ownB 1) = true := by simp [aE, mhas]
theorem aE_get (p a : Int) : mget ((0 : Int), ByteArray.empty, (0 : Int), (0 : Int)) (aE p a) ((7 : Int), ownB 1) = ((7 : Int), ownB 1, p, a) := by simp [aE, mget]
theorem aE_put (p a q : Int) : mput (aE p a) ((7 : Int), ownB 1) ((7 : Int), ownB 1, q, (0 : Int)) = aE q 0 := by simp [aE, mput]
theorem Pure.FdbAges : ∀ (a0 : Int) (a1 : Int) (a2 : Int), (Lit.int .i64 a0).wf = true → (Lit.int .i64 a1).wf = true → (Lit.int .i64 a2).wf = true → ∃ k, F_aqueductlaw18_FdbAges.S k a0 a1 a2 = .ok true := by
  intro a0 a1 a2 _ _ _
  refine ⟨1000, ?_⟩
  have fx : F_aqueductlaw18_fixed.S 1000 = .ok true := fixed18 1000 (by omega)
  have hK := bAnd_127 a0
  have hN := bAnd_65535 a1
  have hp := bAnd_15 a2
  have hq := bAnd_15 (shR .i64 a2 (4 : Int))
  obtain ⟨K, eK⟩ : ∃ K : Nat, IntKind.i64.wrap ((1 : Int) + (bAnd .i64 a0 (127 : Int))) = (K : Int) := ⟨(1 + bAnd .i64 a0 (127 : Int)).toNat, by rw [i64_in _ (by omega)]; omega⟩
  have hK' : 1 ≤ K ∧ K ≤ 128 := by rw [i64_in _ (by omega)] at eK; omega
  obtain ⟨n, en, hn⟩ : ∃ n : Nat, Int.tmod (bAnd .i64 a1 (65535 : Int)) (K : Int) = (n : Int) ∧ n < K := by
    rw [Int.tmod_eq_emod_of_nonneg hN.1]
    have h1 := Int.emod_nonneg (bAnd .i64 a1 (65535 : Int)) (b := (K : Int)) (by omega)
    have h2 := Int.emod_lt_of_pos (bAnd .i64 a1 (65535 : Int)) (b := (K : Int)) (by omega)
    exact ⟨(bAnd .i64 a1 (65535 : Int) % (K : Int)).toNat, by omega, by omega⟩
  have lp1 : ∀ (R : Int → Int → Int → List (KT × VT) → O Bool) (m i j : Nat), i + m + 1 = K → m + 1 < j → F_aqueductlaw18_FdbAges.l1 1000 a0 a2 R j (i : Int) 4 (K : Int) (aE (bAnd .i64 (shR .i64 a2 (4 : Int)) (15 : Int)) (i : Int)) = .ok true := by
    intro R m
    induction m with
    | zero =>
      intro i j hi hj
      obtain ⟨j, rfl⟩ : ∃ i, j = i + 2 := ⟨j - 2, by omega⟩
      show F_aqueductlaw18_FdbAges.l1_b _ _ _ _ _ _ _ _ _ = _
      unfold F_aqueductlaw18_FdbAges.l1_b
      rw [eK, O.cond_pos (by omega), own_S, O.bind_ok, aE_has, Bool.not_true, O.cond_false, aE_get, O.cond_neg (by simp), O.chk_dec (by omega), Tick_S' 1000 (aE_inv (K : Int) _ (i : Int)), O.bind_ok]
      have hg : tickE ((4 : Int), (K : Int), aE (bAnd .i64 (shR .i64 a2 (4 : Int)) (15 : Int)) (i : Int)).2.1 (aE (bAnd .i64 (shR .i64 a2 (4 : Int)) (15 : Int)) (i : Int)) = [] := aE_go (K := (K : Int)) (by omega)
      have hq1 : IntKind.i64.wrap (Int.tdiv (IntKind.i64.wrap ((i : Int) + 1)) (K : Int)) = 1 := by
        rw [i64_in ((i : Int) + 1) (by omega), show (i : Int) + 1 = (K : Int) by omega, Int.tdiv_self (by omega)]; rfl
      unfold tickG
      rw [hg, hq1, O.cond_neg (by simp [aE]), i64_in ((i : Int) + 1) (by omega)]
      show F_aqueductlaw18_FdbAges.l1_b _ _ _ _ _ _ _ _ _ = _
      unfold F_aqueductlaw18_FdbAges.l1_b
      rw [eK, O.cond_neg (by omega), own_S, O.bind_ok, show mhas ([] : List (KT × VT)) ((7 : Int), ownB 1) = false from rfl, Bool.not_false, O.cond_true, Rows_S 1000 (inv_new 4 (K : Int) (by omega) (by omega)), O.bind_ok]
      show O.cond (decide ((0 : Int) = 0)) _ _ = _
      rw [O.cond_pos rfl, fx, O.bind_ok]
    | succ m ih =>
      intro i j hi hj
      obtain ⟨j, rfl⟩ : ∃ i, j = i + 1 := ⟨j - 1, by omega⟩
      show F_aqueductlaw18_FdbAges.l1_b _ _ _ _ _ _ _ _ _ = _
      unfold F_aqueductlaw18_FdbAges.l1_b
      rw [eK, O.cond_pos (by omega), own_S, O.bind_ok, aE_has, Bool.not_true, O.cond_false, aE_get, O.cond_neg (by simp), O.chk_dec (by omega), Tick_S' 1000 (aE_inv (K : Int) _ (i : Int)), O.bind_ok]
      have hg : tickE ((4 : Int), (K : Int), aE (bAnd .i64 (shR .i64 a2 (4 : Int)) (15 : Int)) (i : Int)).2.1 (aE (bAnd .i64 (shR .i64 a2 (4 : Int)) (15 : Int)) (i : Int)) = aE (bAnd .i64 (shR .i64 a2 (4 : Int)) (15 : Int)) ((i : Int) + 1) := aE_stay (K := (K : Int)) (by omega)
      have hq1 : IntKind.i64.wrap (Int.tdiv (IntKind.i64.wrap ((i : Int) + 1)) (K : Int)) = 0 := by
        rw [i64_in ((i : Int) + 1) (by omega), Int.tdiv_eq_ediv_of_nonneg (by omega), Int.ediv_eq_zero_of_lt (by omega) (by omega)]; rfl
      unfold tickG
      rw [hg, hq1, O.cond_neg (by simp [aE]), i64_in ((i : Int) + 1) (by omega)]
      exact ih (i + 1) j (by omega) (by omega)
  have lp0 : ∀ (m i j : Nat), i + m = n → m < j → F_aqueductlaw18_FdbAges.l0 1000 a0 a1 a2 j (i : Int) 4 (K : Int) (aE (bAnd .i64 a2 (15 : Int)) (i : Int)) = .ok true := by
    intro m
    induction m with
    | zero =>
      intro i j hi hj
      obtain ⟨j, rfl⟩ : ∃ i, j = i + 1 := ⟨j - 1, by omega⟩
      show F_aqueductlaw18_FdbAges.l0_b _ _ _ _ _ _ _ _ _ _ = _
      unfold F_aqueductlaw18_FdbAges.l0_b
      rw [eK, en, O.cond_neg (by omega), own_S, O.bind_ok, Learn_S, O.bind_ok, learn_yes (okLearn_iff.2 ⟨by omega, by omega, kind_own 1, by omega, by omega⟩) (.inl (aE_has _ _)), Bool.not_true, O.cond_false, aE_put]
      exact lp1 _ (K - 1) 0 1000 (by omega) (by omega)
    | succ m ih =>
      intro i j hi hj
      obtain ⟨j, rfl⟩ : ∃ i, j = i + 1 := ⟨j - 1, by omega⟩
      show F_aqueductlaw18_FdbAges.l0_b _ _ _ _ _ _ _ _ _ _ = _
      unfold F_aqueductlaw18_FdbAges.l0_b
      have hg : tickE ((4 : Int), (K : Int), aE (bAnd .i64 a2 (15 : Int)) (i : Int)).2.1 (aE (bAnd .i64 a2 (15 : Int)) (i : Int)) = aE (bAnd .i64 a2 (15 : Int)) ((i : Int) + 1) := aE_stay (K := (K : Int)) (by omega)
      rw [eK, en, O.cond_pos (by omega), Tick_S' 1000 (aE_inv (K : Int) _ (i : Int)), O.bind_ok]
      unfold tickG
      rw [hg, O.cond_neg (by simp [aE]), i64_in ((i : Int) + 1) (by omega)]
      exact ih (i + 1) j (by omega) (by omega)
  unfold F_aqueductlaw18_FdbAges.S F_aqueductlaw18_FdbAges.top
  rw [eK, O.chk_dec (by omega), New_ok 1000 4 (K : Int) (by omega), O.sum_inr, O.cond_false, O.cond_neg (by simp), own_S, O.bind_ok, Learn_S, O.bind_ok, learn_yes (okLearn_iff.2 ⟨by omega, by omega, kind_own 1, by omega, by omega⟩) (.inr (by simp)), Bool.not_true, O.cond_false]
  exact lp0 n 0 1000 (by omega) (by omega)
end Go.Proofs.Ythdmjbndfnolmaa
