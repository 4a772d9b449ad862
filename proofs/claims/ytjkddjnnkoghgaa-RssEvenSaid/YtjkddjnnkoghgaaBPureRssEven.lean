/- The plain law of RssEven: an even table may stand in rules, if its size may be; each queue stands in it as often as any other one, but for one. -/
import Derived.Test.YtjkddjnnkoghgaaBP11
namespace Go.Proofs.Ytjkddjnnkoghgaa.Pure
open Go.Aq Go.IntWalk
/-- How often each queue has been dealt so far. -/
def cnt (q i : Nat) : List Int := (List.range 8).map fun j => if j < q then (((i + q - 1 - j) / q : Nat) : Int) else 0
theorem cnt_len (q i : Nat) : (cnt q i).length = 8 := by simp [cnt]
theorem cnt_get (q i j : Nat) (h : j < 8) : (cnt q i).getD j 0 = if j < q then (((i + q - 1 - j) / q : Nat) : Int) else 0 := by
  simp [cnt, List.getD_eq_getElem?_getD, h]
theorem cnt_zero (q : Nat) : cnt q 0 = List.replicate 8 0 := by
  apply List.ext_getElem
  · simp [cnt]
  · intro j h1 h2
    simp only [cnt, List.getElem_map, List.getElem_range, List.getElem_replicate]
    split
    · rw [Nat.div_eq_of_lt (by omega)]; rfl
    · rfl
theorem deal (q : Nat) (hq : 1 ≤ q ∧ q ≤ 8) (i j : Nat) (hj : j < q) : (i + 1 + q - 1 - j) / q = (i + q - 1 - j) / q + if i % q = j then 1 else 0 := by
  obtain rfl | rfl | rfl | rfl | rfl | rfl | rfl | rfl : q = 1 ∨ q = 2 ∨ q = 3 ∨ q = 4 ∨ q = 5 ∨ q = 6 ∨ q = 7 ∨ q = 8 := by omega
  all_goals (split <;> omega)
theorem cnt_succ (q : Nat) (hq : 1 ≤ q ∧ q ≤ 8) (i : Nat) (hi : i < 128) : su (cnt q i) ((i % q : Nat) : Int) (IntKind.i64.wrap ((cnt q i).getD (i % q) 0 + 1)) = cnt q (i + 1) := by
  have hm : i % q < q := Nat.mod_lt _ (by omega)
  rw [cnt_get q i _ (by omega), if_pos hm]
  have hb : (i + q - 1 - i % q) / q ≤ 200 := Nat.le_trans (Nat.div_le_self _ _) (by omega)
  have hw : IntKind.i64.wrap ((((i + q - 1 - i % q) / q : Nat) : Int) + 1) = (((i + q - 1 - i % q) / q : Nat) : Int) + 1 := by
    generalize (i + q - 1 - i % q) / q = X at hb ⊢
    exact i64_in _ (by omega)
  rw [hw]
  unfold su
  rw [Int.toNat_natCast]
  apply List.ext_getElem
  · simp [cnt]
  · intro j h1 h2
    simp only [cnt, List.getElem_set, List.getElem_map, List.getElem_range]
    by_cases e : i % q = j
    · subst e
      rw [if_pos rfl, if_pos hm, deal q hq i _ hm, if_pos rfl]; push_cast; rfl
    · rw [if_neg e]
      by_cases hj : j < q
      · rw [if_pos hj, if_pos hj, deal q hq i j hj, if_neg e]; rfl
      · rw [if_neg hj, if_neg hj]
theorem okT_evL (q n : Nat) (hq : 1 ≤ q ∧ q ≤ 8) : okT (evL q n) = true := by
  unfold okT
  rw [List.all_eq_true]
  intro x hx
  simp only [evL, List.mem_map, List.mem_range] at hx
  obtain ⟨i, _, rfl⟩ := hx
  have := Nat.mod_lt i (show 0 < q by omega)
  exact decide_eq_true (by omega)
theorem RssEven : ∀ (a0 : Int) (a1 : Int), (Lit.int .i64 a0).wf = true → (Lit.int .i64 a1).wf = true → ∃ k, F_aqueductlaw11_RssEven.S k a0 a1 = .ok true := by
  intro a0 a1 _ _
  refine ⟨2000, ?_⟩
  have b0 := bAnd_le a0 127 (by omega)
  have b1 := bAnd_le a1 7 (by omega)
  rw [show ((127 : Nat) : Int) = 127 from rfl] at b0
  rw [show ((7 : Nat) : Int) = 7 from rfl] at b1
  obtain ⟨n, hn, hn1⟩ : ∃ n : Nat, IntKind.i64.wrap (1 + bAnd .i64 a0 127) = (n : Int) ∧ 1 ≤ n ∧ n ≤ 128 := ⟨(1 + bAnd .i64 a0 127).toNat, by rw [i64_in _ (by omega)]; omega, by omega, by omega⟩
  obtain ⟨q, hq, hq1⟩ : ∃ q : Nat, IntKind.i64.wrap (1 + bAnd .i64 a1 7) = (q : Int) ∧ 1 ≤ q ∧ q ≤ 8 := ⟨(1 + bAnd .i64 a1 7).toNat, by rw [i64_in _ (by omega)]; omega, by omega, by omega⟩
  have lp1 : ∀ (m i j : Nat) (R : Int → List Int → O Bool), i + m = q → 1 ≤ i → m < j → F_aqueductlaw11_RssEven.l1 2000 a0 a1 (evL q n) (cnt q n) R j (i : Int) = .ok true := by
    intro m
    induction m with
    | zero =>
      intro i j R hi h1 hj
      obtain ⟨j, rfl⟩ : ∃ i, j = i + 1 := ⟨j - 1, by omega⟩
      show F_aqueductlaw11_RssEven.l1_b 2000 a0 a1 _ _ _ _ _ = _
      unfold F_aqueductlaw11_RssEven.l1_b
      rw [hq, hn, O.cond_neg (by omega), fixed_S _ (by omega)]
      have sz : (⟨#[97, 98, 99, 100]⟩ : ByteArray).size = 4 := rfl
      have hk : bAndNot .i64 0 126 = 0 := by decide
      by_cases hp : bAnd .i64 (n : Int) (IntKind.i64.wrap ((n : Int) - 1)) = 0
      · rw [Check_good _ (by omega) _ (by unfold bad11; simp only [hk, evL_len, sz, hp]; omega), okT_evL q n hq1, O.bind_ok, O.bind_ok, hp]
        simp
      · rw [Check_bad _ _ (by unfold bad11; simp only [evL_len]; exact .inr (.inr (.inr (.inl hp)))), O.bind_ok, O.bind_ok]
        simp [hp]
    | succ m ih =>
      intro i j R hi h1 hj
      obtain ⟨j, rfl⟩ : ∃ i, j = i + 1 := ⟨j - 1, by omega⟩
      show F_aqueductlaw11_RssEven.l1_b 2000 a0 a1 _ _ _ _ _ = _
      unfold F_aqueductlaw11_RssEven.l1_b
      have g1 : gt (0 : Int) (cnt q n) (i : Int) = (((n + q - 1 - i) / q : Nat) : Int) := by rw [gt_nat, cnt_get q n i (by omega), if_pos (by omega)]
      have g2 : gt (0 : Int) (cnt q n) ((i - 1 : Nat) : Int) = (((n + q - 1 - (i - 1)) / q : Nat) : Int) := by rw [gt_nat, cnt_get q n (i - 1) (by omega), if_pos (by omega)]
      have g3 : gt (0 : Int) (cnt q n) 0 = (((n + q - 1) / q : Nat) : Int) := by
        have := cnt_get q n 0 (by omega)
        rw [if_pos (by omega)] at this
        rw [show (0 : Int) = ((0 : Nat) : Int) from rfl, gt_nat]; exact this
      have le1 : (n + q - 1 - i) / q ≤ (n + q - 1 - (i - 1)) / q := Nat.div_le_div_right (by omega)
      have le2 : (n + q - 1) / q ≤ (n + q - 1 - i) / q + 1 := by
        have : (n + q - 1) / q ≤ (n + q - 1 - i + q) / q := Nat.div_le_div_right (by omega)
        rwa [Nat.add_div_right _ (by omega)] at this
      have le3 : (n + q - 1) / q ≤ 200 := Nat.le_trans (Nat.div_le_self _ _) (by omega)
      have ei : IntKind.i64.wrap ((i : Int) - 1) = ((i - 1 : Nat) : Int) := by rw [i64_in _ (by omega)]; omega
      generalize (n + q - 1 - i) / q = A at *
      generalize (n + q - 1 - (i - 1)) / q = B at *
      generalize (n + q - 1) / q = C at *
      rw [hq, ei, g1, g2, g3, cnt_len, O.cond_pos (by omega), O.chk_dec (by omega), O.chk_dec (by omega), O.chk_dec (by omega), O.chk_dec (by omega), O.cond_neg (by omega), O.chk_dec (by omega), O.chk_dec (by omega), O.chk_dec (by omega), O.chk_dec (by omega),
        i64_in ((C : Int) - 1) (by omega), O.cond_neg (by omega), i64_in ((i : Int) + 1) (by omega)]
      exact ih (i + 1) j R (by omega) (by omega) (by omega)
  have lp0 : ∀ (m i j : Nat), i + m = n → m < j → F_aqueductlaw11_RssEven.l0 2000 a0 a1 (evL q n) j (i : Int) (cnt q i) = .ok true := by
    intro m
    induction m with
    | zero =>
      intro i j hi hj
      obtain ⟨j, rfl⟩ : ∃ i, j = i + 1 := ⟨j - 1, by omega⟩
      obtain rfl : i = n := by omega
      show F_aqueductlaw11_RssEven.l0_b 2000 a0 a1 _ _ _ _ _ = _
      unfold F_aqueductlaw11_RssEven.l0_b
      rw [hn, O.cond_neg (by omega)]
      exact lp1 (q - 1) 1 2000 _ (by omega) (by omega) (by omega)
    | succ m ih =>
      intro i j hi hj
      obtain ⟨j, rfl⟩ : ∃ i, j = i + 1 := ⟨j - 1, by omega⟩
      show F_aqueductlaw11_RssEven.l0_b 2000 a0 a1 _ _ _ _ _ = _
      unfold F_aqueductlaw11_RssEven.l0_b
      have hm : i % q < q := Nat.mod_lt _ (by omega)
      have g : gt (0 : Int) (evL q n) (i : Int) = ((i % q : Nat) : Int) := by rw [gt_nat, evL_get q n i (by omega)]
      rw [hn, hq, g, gt_nat, cnt_succ q hq1 i (by omega), evL_len, cnt_len, O.cond_pos (by omega), O.chk_dec (by omega), O.chk_dec (by omega), O.cond_neg (by omega), O.chk_dec (by omega), O.chk_dec (by omega), O.cond_neg (by omega), O.chk_dec (by omega), O.chk_dec (by omega),
        O.chk_dec (by omega), O.chk_dec (by omega), O.chk_dec (by omega), O.chk_dec (by omega), i64_in ((i : Int) + 1) (by omega)]
      exact ih (i + 1) j (by omega) (by omega)
  unfold F_aqueductlaw11_RssEven.S F_aqueductlaw11_RssEven.top
  rw [hn, hq, Even_S _ q n (by omega) hn1 hq1, O.bind_ok, evL_len, O.cond_neg (by simp), O.chk_dec (by omega)]
  have := lp0 n 0 2000 (by omega) (by omega)
  rw [cnt_zero] at this
  exact this
end Go.Proofs.Ytjkddjnnkoghgaa.Pure
