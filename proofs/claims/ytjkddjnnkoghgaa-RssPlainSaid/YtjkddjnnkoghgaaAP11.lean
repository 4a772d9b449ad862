/- What the functions of rss come to: even tables, checked rules; the calls whose answers the document fixes. -/
import Derived.Test.YtjkddjnnkoghgaaAS3
import Derived.Test.YtjkddjnnkoghgaaV14
namespace Go.Proofs.Ytjkddjnnkoghgaa
open Go.Aq Go.IntWalk
set_option linter.unusedVariables false
theorem bAnd_le (a : Int) (m : Nat) (hm : m < 1000000) : 0 ≤ bAnd .i64 a (m : Int) ∧ bAnd .i64 a (m : Int) ≤ m := by
  have e : (BitVec.ofInt 64 (m : Int)).toNat = m := natOf_ofInt .i64 m (by show m < 2 ^ 64; omega)
  have h : (BitVec.ofInt 64 a &&& BitVec.ofInt 64 (m : Int)).toNat ≤ m := by
    rw [BitVec.toNat_and, e]; exact Nat.and_le_right
  unfold bAnd
  rw [show IntKind.i64.bits = 64 from rfl, i64_in _ (by omega)]
  omega
theorem gt_nat {α : Type} (d : α) (xs : List α) (i : Nat) : gt d xs (i : Int) = xs.getD i d := by unfold gt; rw [Int.toNat_natCast]
/-- A table that deals evenly. -/
def evL (q n : Nat) : List Int := (List.range n).map fun i => ((i % q : Nat) : Int)
theorem evL_len (q n : Nat) : (evL q n).length = n := by simp [evL]
theorem evL_get (q n i : Nat) (h : i < n) : (evL q n).getD i 0 = ((i % q : Nat) : Int) := by simp [evL, List.getD_eq_getElem?_getD, h]
def evTo (q n i : Nat) : List Int := (List.range n).map fun j => if j < i then ((j % q : Nat) : Int) else 0
theorem evTo_len (q n i : Nat) : (evTo q n i).length = n := by simp [evTo]
theorem evTo_zero (q n : Nat) : evTo q n 0 = List.replicate n 0 := by
  apply List.ext_getElem <;> simp [evTo]
theorem evTo_all (q n : Nat) : evTo q n n = evL q n := by
  apply List.ext_getElem
  · simp [evTo, evL]
  · intro i h1 h2
    simp only [evTo, evL, List.getElem_map, List.getElem_range]
    rw [if_pos (by simpa [evTo] using h1)]
theorem evTo_succ (q n i : Nat) : su (evTo q n i) (i : Int) ((i % q : Nat) : Int) = evTo q n (i + 1) := by
  unfold su
  rw [Int.toNat_natCast]
  apply List.ext_getElem
  · simp [evTo]
  · intro j h1 h2
    simp only [evTo, List.getElem_set, List.getElem_map, List.getElem_range]
    by_cases e : i = j
    · subst e; simp
    · rw [if_neg e]
      by_cases hj : j < i
      · rw [if_pos hj, if_pos (by omega)]
      · rw [if_neg hj, if_neg (by omega)]
theorem Even_S (k q n : Nat) (hk : 200 ≤ k) (hn : 1 ≤ n ∧ n ≤ 128) (hq : 1 ≤ q ∧ q ≤ 8) : F_rss_Even.S k (n : Int) (q : Int) = .ok (evL q n) := by
  have lp : ∀ (m i j : Nat), i + m = n → m < j → F_rss_Even.l0 k (n : Int) (q : Int) j (i : Int) (evTo q n i) = .ok (evL q n) := by
    intro m
    induction m with
    | zero =>
      intro i j hi hj
      obtain ⟨j, rfl⟩ : ∃ i, j = i + 1 := ⟨j - 1, by omega⟩
      obtain rfl : i = n := by omega
      show F_rss_Even.l0_b k _ _ _ _ _ = _
      unfold F_rss_Even.l0_b
      rw [Int.toNat_natCast, List.length_replicate, O.cond_neg (by omega), evTo_all]
    | succ m ih =>
      intro i j hi hj
      obtain ⟨j, rfl⟩ : ∃ i, j = i + 1 := ⟨j - 1, by omega⟩
      show F_rss_Even.l0_b k _ _ _ _ _ = _
      unfold F_rss_Even.l0_b
      have e : Int.tmod (i : Int) (q : Int) = ((i % q : Nat) : Int) := by rw [rem_in _ _ (by omega)]; push_cast; rfl
      rw [Int.toNat_natCast, List.length_replicate, e, evTo_succ, evTo_len, O.cond_pos (by omega), O.chk_dec (by omega), O.chk_dec (by omega), O.chk_dec (by omega), i64_in (_ + 1) (by omega)]
      exact ih (i + 1) j (by omega) (by omega)
  unfold F_rss_Even.S F_rss_Even.top
  rw [O.cond_neg (by omega), O.cond_neg (by omega), O.cond_neg (by omega), O.cond_neg (by omega), O.chk_dec (by omega), Int.toNat_natCast, ← evTo_zero q n]
  exact lp n 0 k (by omega) (by omega)
def okT (t : List Int) : Bool := t.all fun q => decide (0 ≤ q ∧ q < 8)
/-- May rules be? -/
def bad11 (x : Int × List Int × ByteArray × Int) : Prop :=
  bAndNot .i64 x.1 126 ≠ 0 ∨ (x.2.1.length : Int) < 1 ∨ (x.2.1.length : Int) > 128 ∨ bAnd .i64 (x.2.1.length : Int) (IntKind.i64.wrap ((x.2.1.length : Int) - 1)) ≠ 0 ∨ (x.2.2.1.size : Int) < 4 ∨ (x.2.2.1.size : Int) > 52 ∨ x.2.2.2 < 0 ∨ x.2.2.2 ≥ 8
theorem Check_bad (k : Nat) (x : Int × List Int × ByteArray × Int) (h : bad11 x) : F_rss_Check.S k x = .ok 110 := by
  unfold bad11 at h
  unfold F_rss_Check.S F_rss_Check.top
  by_cases h1 : bAndNot .i64 x.1 126 ≠ 0
  · rw [O.cond_pos h1]
  rw [O.cond_neg h1]
  by_cases h2 : (x.2.1.length : Int) < 1
  · rw [O.cond_pos h2]
  rw [O.cond_neg h2]
  by_cases h3 : (x.2.1.length : Int) > 128
  · rw [O.cond_pos h3]
  rw [O.cond_neg h3]
  by_cases h4 : bAnd .i64 (x.2.1.length : Int) (IntKind.i64.wrap ((x.2.1.length : Int) - 1)) ≠ 0
  · rw [O.cond_pos h4]
  rw [O.cond_neg h4]
  by_cases h5 : (x.2.2.1.size : Int) < 4
  · rw [O.cond_pos h5]
  rw [O.cond_neg h5]
  by_cases h6 : (x.2.2.1.size : Int) > 52
  · rw [O.cond_pos h6]
  rw [O.cond_neg h6]
  by_cases h7 : x.2.2.2 < 0
  · rw [O.cond_pos h7]
  rw [O.cond_neg h7]
  by_cases h8 : x.2.2.2 ≥ 8
  · rw [O.cond_pos h8]
  simp_all
theorem Check_good (k : Nat) (hk : 200 ≤ k) (x : Int × List Int × ByteArray × Int) (h : ¬ bad11 x) : F_rss_Check.S k x = .ok (if okT x.2.1 then 0 else 110) := by
  unfold bad11 at h
  simp only [not_or] at h
  obtain ⟨h1, h2, h3, h4, h5, h6, h7, h8⟩ := h
  have lp : ∀ (m i j : Nat), i + m = x.2.1.length → m < j → F_rss_Check.l0 k x j (i : Int) = .ok (if okT (x.2.1.drop i) then 0 else 110) := by
    intro m
    induction m with
    | zero =>
      intro i j hi hj
      obtain ⟨j, rfl⟩ : ∃ i, j = i + 1 := ⟨j - 1, by omega⟩
      show F_rss_Check.l0_b k x _ _ = _
      unfold F_rss_Check.l0_b
      rw [O.cond_neg (by omega), List.drop_eq_nil_of_le (by omega)]
      rfl
    | succ m ih =>
      intro i j hi hj
      obtain ⟨j, rfl⟩ : ∃ i, j = i + 1 := ⟨j - 1, by omega⟩
      show F_rss_Check.l0_b k x _ _ = _
      unfold F_rss_Check.l0_b
      have hg : gt (0 : Int) x.2.1 (i : Int) = x.2.1[i]'(by omega) := by rw [gt_nat, List.getD_eq_getElem?_getD, List.getElem?_eq_getElem (by omega)]; rfl
      rw [O.cond_pos (by omega), O.chk_dec (by omega), O.chk_dec (by omega), hg, List.drop_eq_getElem_cons (by omega : i < x.2.1.length)]
      generalize x.2.1[i]'(by omega) = y at *
      have ih' := ih (i + 1) j (by omega) (by omega)
      unfold okT at ih' ⊢
      rw [List.all_cons]
      by_cases y1 : y < 0
      · have : decide (0 ≤ y ∧ y < 8) = false := decide_eq_false (by omega)
        rw [O.cond_pos y1, this]; rfl
      · rw [O.cond_neg y1]
        by_cases y2 : y ≥ 8
        · have : decide (0 ≤ y ∧ y < 8) = false := decide_eq_false (by omega)
          rw [O.cond_pos y2, this]; rfl
        · have : decide (0 ≤ y ∧ y < 8) = true := decide_eq_true (by omega)
          rw [O.cond_neg y2, this, Bool.true_and, i64_in ((i : Int) + 1) (by omega)]
          exact ih'
  unfold F_rss_Check.S F_rss_Check.top
  rw [O.cond_neg h1, O.cond_neg h2, O.cond_neg h3, O.cond_neg h4, O.cond_neg h5, O.cond_neg h6, O.cond_neg h7, O.cond_neg h8]
  exact lp _ 0 k (Nat.zero_add _) (by omega)
theorem Same_refl (k : Nat) (a : List Int) (ha : a.length < 1000) (hk : 1000 ≤ k) : F_aqueductref11_Same.S k a a = .ok true := by
  have lp : ∀ (m i j : Nat), i + m = a.length → m < j → F_aqueductref11_Same.l0 k a a j (i : Int) = .ok true := by
    intro m
    induction m with
    | zero =>
      intro i j hi hj
      obtain ⟨j, rfl⟩ : ∃ i, j = i + 1 := ⟨j - 1, by omega⟩
      show F_aqueductref11_Same.l0_b k a a _ _ = _
      unfold F_aqueductref11_Same.l0_b
      rw [O.cond_neg (by omega)]
    | succ m ih =>
      intro i j hi hj
      obtain ⟨j, rfl⟩ : ∃ i, j = i + 1 := ⟨j - 1, by omega⟩
      show F_aqueductref11_Same.l0_b k a a _ _ = _
      unfold F_aqueductref11_Same.l0_b
      rw [O.cond_pos (by omega), O.chk_dec (by omega), O.chk_dec (by omega), O.chk_dec (by omega), O.chk_dec (by omega), O.cond_neg (by simp), i64_in ((i : Int) + 1) (by omega)]
      exact ih (i + 1) j (by omega) (by omega)
  unfold F_aqueductref11_Same.S F_aqueductref11_Same.top
  rw [O.cond_neg (by simp)]
  exact lp _ 0 k (Nat.zero_add _) (by omega)
theorem Of_none (k : Nat) : F_flow_Of.S k ⟨#[110, 111, 110, 101]⟩ = .ok (0, ByteArray.empty) := by
  have hp : F_eth_Parse.S k ⟨#[110, 111, 110, 101]⟩ = .ok ((ByteArray.empty, ByteArray.empty, 0, 0, 0, ByteArray.empty), 60) := by
    unfold F_eth_Parse.S
    rw [O.cond_neg (by decide), O.cond_pos (by decide)]
  have hv : F_flow_version.S k 0 = .ok 0 := by
    unfold F_flow_version.S
    rw [O.cond_neg (by decide), O.cond_neg (by decide)]
  unfold F_flow_Of.S
  rw [hp, O.bind_ok]
  show O.bind (F_flow_version.S k 0) _ = _
  rw [hv, O.bind_ok, O.cond_pos (by decide)]
theorem Less_none (k : Nat) : F_flow_Less.S k (0, ByteArray.empty) = .ok (0, ByteArray.empty) := by
  unfold F_flow_Less.S
  simp
theorem fixed_S (k : Nat) (hk : 1000 ≤ k) : F_aqueductlaw11_fixed.S k = .ok true := by
  have c1 : F_rss_Check.S k (126, [5], ⟨#[97, 98, 99, 100]⟩, 3) = .ok 0 := by
    rw [Check_good k (by omega) _ (by unfold bad11; decide)]; rfl
  have c2 : F_rss_Check.S k (0, [], ByteArray.empty, 0) = .ok 110 := Check_bad k _ (by unfold bad11; decide)
  have c3 : ∀ q : Int, 1 ≤ q → q ≤ 8 → F_rss_Choose.S k (126, [5], ⟨#[97, 98, 99, 100]⟩, 3) ⟨#[110, 111, 110, 101]⟩ q = .ok (if (3 : Int) ≥ q then 0 else 3) := by
    intro q h1 h2
    unfold F_rss_Choose.S
    rw [c1, O.bind_ok, O.cond_neg (by decide), O.cond_neg (by omega), O.cond_neg (by omega), Of_none, O.bind_ok, O.cond_pos rfl, O.cond_true, Less_none, O.bind_ok, O.cond_pos rfl, O.cond_true, O.cond_dec]
    split <;> rfl
  have e0 : F_rss_Even.S k 0 1 = .ok [] := by
    unfold F_rss_Even.S F_rss_Even.top
    rw [O.cond_pos (by decide)]
  have e1 : F_rss_Even.S k 4 3 = .ok [0, 1, 2, 0] := Even_S k 3 4 (by omega) (by omega) (by omega)
  unfold F_aqueductlaw11_fixed.S
  rw [c1, O.bind_ok, O.cond_pos rfl, c2, O.bind_ok, O.cond_pos rfl, c3 8 (by decide) (by decide), O.bind_ok, O.cond_pos (by decide), c3 2 (by decide) (by decide), O.bind_ok, O.cond_pos (by decide), e1, O.bind_ok, Same_refl k _ (by decide) hk, O.bind_ok, O.cond_true, e0, O.bind_ok]
  rfl
end Go.Proofs.Ytjkddjnnkoghgaa
