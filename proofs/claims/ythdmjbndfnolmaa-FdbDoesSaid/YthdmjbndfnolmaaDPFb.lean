/- Layer 18, plain: New, Same, and the calls whose answers the document fixes. -/
import Derived.Test.YthdmjbndfnolmaaDPFa
namespace Go.Proofs.Ythdmjbndfnolmaa
open Go.Aq Go.IntWalk
set_option linter.unusedVariables false
theorem New_ok (k : Nat) (a b : Int) (h : 1 ≤ a ∧ a ≤ 1024 ∧ 1 ≤ b ∧ b ≤ 65535) : F_fdb_New.S k a b = .ok (.inr ((0 : Int), a, b, [])) := by
  unfold F_fdb_New.S
  rw [O.cond_neg (by omega), O.cond_neg (by omega), O.cond_neg (by omega), O.cond_neg (by omega)]
theorem New_no (k : Nat) (a b : Int) (h : ¬ (1 ≤ a ∧ a ≤ 1024 ∧ 1 ≤ b ∧ b ≤ 65535)) : F_fdb_New.S k a b = .ok (.inl (180 : Int)) := by
  unfold F_fdb_New.S
  rw [O.cond_dec, O.cond_dec, O.cond_dec, O.cond_dec]
  split
  · rfl
  split
  · rfl
  split
  · rfl
  split
  · rfl
  exfalso; omega
theorem gt_at {α : Type} (d : α) (xs : List α) (i : Nat) (h : i < xs.length) : gt d xs (i : Int) = xs[i] := by
  unfold gt
  rw [Int.toNat_natCast, List.getD_eq_getElem?_getD, List.getElem?_eq_getElem h]; rfl
theorem Same_S (k : Nat) (a b : List VT) (hk : a.length < k) (ha : a.length ≤ 1000000) : F_aqueductref18_Same.S k a b = .ok (decide (a = b)) := by
  unfold F_aqueductref18_Same.S F_aqueductref18_Same.top
  by_cases hl : a.length = b.length
  · rw [O.cond_neg (by omega)]
    have lp : ∀ (m i j : Nat), i + m = a.length → m < j → (∀ t, t < i → a[t]? = b[t]?) → F_aqueductref18_Same.l0 k a b j (i : Int) = .ok (decide (a = b)) := by
      intro m
      induction m with
      | zero =>
        intro i j hi hj hs
        obtain ⟨j, rfl⟩ : ∃ i, j = i + 1 := ⟨j - 1, by omega⟩
        show F_aqueductref18_Same.l0_b _ _ _ _ _ = _
        unfold F_aqueductref18_Same.l0_b
        rw [O.cond_neg (by omega)]
        have : a = b := by
          apply List.ext_getElem?
          intro t
          by_cases ht : t < i
          · exact hs t ht
          · rw [List.getElem?_eq_none (by omega), List.getElem?_eq_none (by omega)]
        rw [decide_eq_true this]
      | succ m ih =>
        intro i j hi hj hs
        obtain ⟨j, rfl⟩ : ∃ i, j = i + 1 := ⟨j - 1, by omega⟩
        show F_aqueductref18_Same.l0_b _ _ _ _ _ = _
        unfold F_aqueductref18_Same.l0_b
        rw [O.cond_pos (by omega), O.chk_dec (by omega), O.chk_dec (by omega), O.chk_dec (by omega), O.chk_dec (by omega), gt_at _ a i (by omega), gt_at _ b i (by omega), i64_in _ (by omega)]
        by_cases he : a[i] = b[i]
        · have hc : (!(decide ((a[i]).1 = (b[i]).1) && (decide ((a[i]).2.1 = (b[i]).2.1) && (decide ((a[i]).2.2.1 = (b[i]).2.2.1) && (decide ((a[i]).2.2.2 = (b[i]).2.2.2) && true))))) = false := by rw [he]; simp
          rw [hc, O.cond_false]
          refine ih (i + 1) j (by omega) (by omega) fun t ht => ?_
          by_cases h' : t < i
          · exact hs t h'
          · obtain rfl : t = i := by omega
            rw [List.getElem?_eq_getElem (by omega), List.getElem?_eq_getElem (by omega), he]
        · have hc : (!(decide ((a[i]).1 = (b[i]).1) && (decide ((a[i]).2.1 = (b[i]).2.1) && (decide ((a[i]).2.2.1 = (b[i]).2.2.1) && (decide ((a[i]).2.2.2 = (b[i]).2.2.2) && true))))) = true := by
            rw [Bool.not_eq_true']
            cases hx : (decide ((a[i]).1 = (b[i]).1) && (decide ((a[i]).2.1 = (b[i]).2.1) && (decide ((a[i]).2.2.1 = (b[i]).2.2.1) && (decide ((a[i]).2.2.2 = (b[i]).2.2.2) && true)))) with
            | false => rfl
            | true =>
              simp only [Bool.and_eq_true, decide_eq_true_eq, Bool.and_true] at hx
              exact absurd (Prod.ext hx.1 (Prod.ext hx.2.1 (Prod.ext hx.2.2.1 hx.2.2.2))) he
          rw [hc, O.cond_true]
          have : a ≠ b := fun h => he (by subst h; rfl)
          rw [decide_eq_false this]
    exact lp a.length 0 k (by omega) hk (fun t ht => by omega)
  · rw [O.cond_pos (by omega)]
    have : a ≠ b := fun h => hl (by rw [h])
    rw [decide_eq_false this]
theorem own_ne {a b : Int} (h : (ownB a).data.toList ≠ (ownB b).data.toList) : ownB a ≠ ownB b := fun e => h (by rw [e])
def g1 : GT := (1, 2, [(((0 : Int), ownB 1), (0 : Int), ownB 1, (3 : Int), (0 : Int))])
theorem g1_inv : Inv g1 := ⟨by simp [g1], by simp [g1, keyV], by simp [g1], by simp [g1]⟩
theorem learn1 : learnG 0 (ownB 1) 3 (1, 2, []) = (true, g1) := by
  unfold learnG okLearn
  rw [if_pos (by rw [kind_own]; decide), if_neg (by simp)]
  rfl
theorem learn2 : learnG 0 (ownB 2) 4 g1 = (false, g1) := by
  unfold learnG okLearn
  rw [if_pos (by rw [kind_own]; decide), if_pos]
  have : ownB 1 ≠ ownB 2 := own_ne (by rw [own_list, own_list]; decide)
  exact ⟨by simp [g1, mhas, this], by simp [g1]⟩
theorem learn3 : learnG 0 (⟨#[255, 255, 255, 255, 255, 255]⟩ : ByteArray) 4 g1 = (false, g1) := by
  unfold learnG okLearn
  rw [if_neg (by rw [kind_all]; decide)]
theorem fixed18 (k : Nat) (hk : 2 ≤ k) : F_aqueductlaw18_fixed.S k = .ok true := by
  unfold F_aqueductlaw18_fixed.S
  rw [New_ok k 1 2 (by omega), O.sum_inr, New_no k 0 2 (by omega), O.sum_inl, New_no k 1 0 (by omega), O.sum_inl, O.cond_false, O.cond_neg (by decide)]
  simp only [own_S, O.bind_ok, Learn_S, learn1, learn2, learn3, Rows_S k g1_inv]
  rw [Tick_S, O.bind_ok, Tick_S, O.bind_ok]
  have h1 : isort (vals g1) = [((0 : Int), ownB 1, (3 : Int), (0 : Int))] := rfl
  have hne : ¬ ((0 : Int), ownB 1) = ((1 : Int), ownB 1) := by simp
  have h2 : mhas g1.2.2 ((0 : Int), ownB 1) = true := by simp [g1, mhas]
  have h3 : mhas g1.2.2 ((1 : Int), ownB 1) = false := by simp [g1, mhas]
  have h4 : mget ((0 : Int), ByteArray.empty, (0 : Int), (0 : Int)) g1.2.2 ((0 : Int), ownB 1) = ((0 : Int), ownB 1, (3 : Int), (0 : Int)) := by simp [g1, mget]
  have e1 : tickE g1.2.1 g1.2.2 = [(((0 : Int), ownB 1), (0 : Int), ownB 1, (3 : Int), (1 : Int))] := rfl
  have e2 : tickE (tickG g1).2.1 (tickG g1).2.2 = [] := by show tickE 2 (tickE g1.2.1 g1.2.2) = []; rw [e1]; rfl
  have e3 : (tickG (tickG g1)).2.2 = [] := e2
  have e4 : (tickG g1).2.2 = [(((0 : Int), ownB 1), (0 : Int), ownB 1, (3 : Int), (1 : Int))] := e1
  rw [h1, Same_S k _ _ (by simp; omega) (by simp), O.bind_ok, O.cond_pos (by decide), O.cond_pos (by decide), O.cond_true, Bool.not_false, O.cond_true, O.cond_true, h4, O.cond_pos rfl, h2, O.cond_true, h3, Bool.not_false, O.cond_true, O.cond_pos rfl, e1, e2, e3, e4, O.cond_pos (by decide), O.cond_pos (by decide)]
  rfl
end Go.Proofs.Ythdmjbndfnolmaa
