/- Layer 14: what Tell and Ask come to, the document's and devq's. -/
import Derived.Test.YtjdhepioehfmhaaEP14i
namespace Go.Proofs.Ytjdhepioehfmhaa
open Go.Aq Go.IntWalk
set_option linter.unusedVariables false
/-! ### Gaps -/
def pp (s : Int × Bool) (size : Int) : Int := s.1 + (bif s.2 then 0 else size)
def gapP (a b : Int × Bool) (size : Int) : Int := (pp b size - pp a size) % (2 * size)
theorem mod_lo (x m : Int) (h : 0 ≤ x ∧ x < m) : x % m = x := Int.emod_eq_of_lt h.1 h.2
theorem mod_neg (x m : Int) (h : -m ≤ x ∧ x < 0) : x % m = x + m := by rw [← Int.add_emod_right, mod_lo _ _ (by omega)]
theorem mod_hi (x m : Int) (h : m ≤ x ∧ x < 2 * m) : x % m = x - m := by
  have := Int.add_emod_right (x - m) m
  rw [show x - m + m = x by omega] at this
  rw [this, mod_lo _ _ (by omega)]
theorem pp_in (s : Int × Bool) (size : Int) (h : 0 ≤ s.1 ∧ s.1 < size) : 0 ≤ pp s size ∧ pp s size < 2 * size := by unfold pp; cases s.2 <;> simp <;> omega
theorem gap_in (a b : Int × Bool) (size : Int) (h : 0 < size) : 0 ≤ gapP a b size ∧ gapP a b size < 2 * size :=
  ⟨Int.emod_nonneg _ (by omega), Int.emod_lt_of_pos _ (by omega)⟩
theorem pp_inj (a b : Int × Bool) (size : Int) (ha : 0 ≤ a.1 ∧ a.1 < size) (hb : 0 ≤ b.1 ∧ b.1 < size) (h : pp a size = pp b size) : a = b := by
  obtain ⟨x, u⟩ := a; obtain ⟨y, v⟩ := b
  unfold pp at h
  cases u <;> cases v <;> simp at * <;> omega
theorem gap_zero (a b : Int × Bool) (size : Int) (ha : 0 ≤ a.1 ∧ a.1 < size) (hb : 0 ≤ b.1 ∧ b.1 < size) : gapP a b size = 0 ↔ a = b := by
  constructor
  · intro h
    apply pp_inj a b size ha hb
    have h1 := pp_in a size ha; have h2 := pp_in b size hb
    unfold gapP at h
    by_cases c : 0 ≤ pp b size - pp a size
    · rw [mod_lo _ _ (by omega)] at h; omega
    · rw [mod_neg _ _ (by omega)] at h; omega
  · intro h; subst h; unfold gapP; rw [Int.sub_self, Int.zero_emod]
theorem gap_step (a b : Int × Bool) (size : Int) (ha : 0 ≤ a.1 ∧ a.1 < size) (hb : 0 ≤ b.1 ∧ b.1 < size) (h : a ≠ b) : gapP (nextSp a 1 size) b size = gapP a b size - 1 := by
  have hz : gapP a b size ≠ 0 := fun e => h ((gap_zero a b size ha hb).1 e)
  have h1 := pp_in a size ha; have h2 := pp_in b size hb
  have e : pp (nextSp a 1 size) size = if pp a size + 1 = 2 * size then 0 else pp a size + 1 := by
    obtain ⟨x, u⟩ := a
    unfold nextSp pp
    by_cases c : x + 1 ≥ size
    · simp only [if_pos c]
      cases u <;> simp <;> first | (intro hh; simp at ha; omega) | (split <;> simp at * <;> omega)
    · simp only [if_neg c]
      cases u <;> simp <;> first | (intro hh; simp at ha; omega) | (split <;> simp at * <;> omega)
  unfold gapP at hz ⊢
  rw [e]
  by_cases c : 0 ≤ pp b size - pp a size
  · rw [mod_lo _ _ (by omega)] at hz ⊢
    split
    · omega
    · rw [mod_lo _ _ (by omega)]; omega
  · rw [mod_neg (pp b size - pp a size) _ (by omega)]
    split
    · rw [mod_lo _ _ (by omega)]; omega
    · rw [mod_neg _ _ (by omega)]; omega
theorem spotCheck_ok (k : Nat) (s : Int × Bool) (size : Int) (hz : 1 ≤ size ∧ size ≤ 32768) (hs : 0 ≤ s.1 ∧ s.1 < size) : F_spot_Check.S k s size = .ok 0 := by
  unfold F_spot_Check.S
  rw [O.cond_neg (by omega), O.cond_neg (by omega), O.cond_neg (by omega), O.cond_neg (by omega)]
theorem spotCheck_bad (k : Nat) (s : Int × Bool) (size : Int) (hz : 1 ≤ size ∧ size ≤ 32768) (hs : size ≤ s.1) : F_spot_Check.S k s size = .ok 1 := by
  unfold F_spot_Check.S
  rw [O.cond_neg (by omega), O.cond_neg (by omega), O.cond_neg (by omega), O.cond_pos (by omega)]
theorem spotGap_S (k : Nat) (hk : 5 ≤ k) (a b : Int × Bool) (size : Int) (hz : 1 ≤ size ∧ size ≤ 32768) (ha : 0 ≤ a.1 ∧ a.1 < size) (hb : 0 ≤ b.1) :
    F_spot_Gap.S k a b size = .ok (if b.1 < size then (gapP a b size, 0) else (0, 1)) := by
  obtain ⟨j, rfl⟩ : ∃ j, k = j + 3 := ⟨k - 3, by omega⟩
  unfold F_spot_Gap.S F_spot_Gap.top
  show F_spot_Gap.l0_b _ a b size (F_spot_Gap.l0 (j + 3) a b size (j + 2)) 0 = _
  unfold F_spot_Gap.l0_b
  rw [O.cond_pos (by omega), O.chk_dec (by simp), O.chk_dec (by simp), show gt ((0 : Int), false) [a, b] 0 = a from rfl, spotCheck_ok _ a size hz ha, O.bind_ok, O.cond_neg (by decide)]
  show F_spot_Gap.l0_b _ a b size (F_spot_Gap.l0 (j + 3) a b size (j + 1)) 1 = _
  unfold F_spot_Gap.l0_b
  rw [O.cond_pos (by omega), O.chk_dec (by simp), O.chk_dec (by simp), show gt ((0 : Int), false) [a, b] 1 = b from rfl]
  by_cases hv : b.1 < size
  · rw [spotCheck_ok _ b size hz ⟨hb, hv⟩, O.bind_ok, O.cond_neg (by decide), if_pos hv]
    show F_spot_Gap.l0_b _ a b size (F_spot_Gap.l0 (j + 3) a b size j) 2 = _
    unfold F_spot_Gap.l0_b
    rw [O.cond_neg (by omega)]
    obtain ⟨x, u⟩ := a; obtain ⟨y, v⟩ := b
    simp only at ha hb hv
    unfold gapP pp
    simp only
    rw [i64_in (y - x) (by omega), i64_in (2 * size) (by omega), i64_in (y - x + size) (by omega)]
    by_cases c : u ≠ v
    · rw [O.cond_pos c, O.cond_neg (by omega)]
      cases u <;> cases v <;> simp at c ⊢
      · rw [mod_neg _ _ (by omega)]; omega
      · rw [mod_lo _ _ (by omega)]; omega
    · rw [O.cond_neg c]
      have : u = v := by simpa using c
      subst this
      have e : y + (bif u then 0 else size) - (x + (bif u then 0 else size)) = y - x := by omega
      rw [e]
      by_cases c2 : y - x < 0
      · rw [O.cond_pos c2, i64_in _ (by omega), mod_neg _ _ (by omega)]
      · rw [O.cond_neg c2, mod_lo _ _ (by omega)]
  · rw [spotCheck_bad _ b size hz (by omega), O.bind_ok, O.cond_pos (by decide), if_neg hv]
theorem rGap_S (k : Nat) (a b : Int × Bool) (size : Int) (hz : 1 ≤ size ∧ size ≤ 32768) (ha : 0 ≤ a.1 ∧ a.1 < size) (hb : 0 ≤ b.1 ∧ b.1 < size) (hk : 2 * size < k) :
    F_aqueductref13_Gap.S k a b size = .ok (gapP a b size, 0) := by
  have lp : ∀ (r j : Nat) (i : Nat) (s : Int × Bool), 0 ≤ s.1 ∧ s.1 < size → gapP s b size = r → r < j → i + r ≤ 100000 → F_aqueductref13_Gap.l0 k b size j (i : Int) s.1 s.2 = .ok (((i + r : Nat) : Int), 0) := by
    intro r
    induction r with
    | zero =>
      intro j i s hs hg hj hi
      obtain ⟨j, rfl⟩ : ∃ i, j = i + 1 := ⟨j - 1, by omega⟩
      show F_aqueductref13_Gap.l0_b k _ _ _ _ _ _ = _
      unfold F_aqueductref13_Gap.l0_b
      have e := (gap_zero s b size hs hb).1 hg
      rw [decide_eq_true (show s.1 = b.1 by rw [e]), decide_eq_true (show s.2 = b.2 by rw [e])]
      show O.cond false _ _ = _
      rw [O.cond_false]; rfl
    | succ r ih =>
      intro j i s hs hg hj hi
      obtain ⟨j, rfl⟩ : ∃ i, j = i + 1 := ⟨j - 1, by omega⟩
      show F_aqueductref13_Gap.l0_b k _ _ _ _ _ _ = _
      unfold F_aqueductref13_Gap.l0_b
      have hne : s ≠ b := fun e => by have := (gap_zero s b size hs hb).2 e; omega
      have hc : (!(decide (s.1 = b.1) && (decide (s.2 = b.2) && true))) = true := by
        by_cases e1 : s.1 = b.1
        · by_cases e2 : s.2 = b.2
          · exact absurd (Prod.ext e1 e2) hne
          · simp [e2]
        · simp [e1]
      have hg2 := gap_step s b size hs hb hne
      rw [hc, O.cond_true, show ((s.1, s.2) : Int × Bool) = s from rfl, rOne_S k s size hs hz.2, O.bind_ok, i64_in ((i : Int) + 1) (by omega)]
      have := ih j (i + 1) (nextSp s 1 size) (nextSp_in s 1 size hs (by omega)) (by omega) (by omega) (by omega)
      rw [show i + 1 + r = i + (r + 1) by omega] at this
      exact this
  unfold F_aqueductref13_Gap.S F_aqueductref13_Gap.top
  have hg := gap_in a b size (by omega)
  rw [rSpCheck_S k a size hz ha, O.bind_ok, O.cond_neg (by decide), rSpCheck_S k b size hz hb, O.bind_ok, O.cond_neg (by decide)]
  have := lp (gapP a b size).toNat k 0 a ha (by omega) (by omega) (by omega)
  rw [show ((0 + (gapP a b size).toNat : Nat) : Int) = gapP a b size by omega] at this
  exact this
/-- Is it to be told? -/
def needP (e : Int × Bool × Int) (a b : Int × Bool) (size : Int) : Bool :=
  if gapP a b size > size then false else if e.2.2 = 0 then decide (gapP a b size > 0) else if e.2.2 = 2 then decide (e.1 < size ∧ gapP a (e.1, e.2.1) size < gapP a b size) else false
theorem spotNeed_S (k : Nat) (hk : 5 ≤ k) (e : Int × Bool × Int) (a b : Int × Bool) (size : Int) (hz : 1 ≤ size ∧ size ≤ 32768) (ha : 0 ≤ a.1 ∧ a.1 < size) (hb : 0 ≤ b.1 ∧ b.1 < size) (he : 0 ≤ e.1) :
    F_spot_Need.S k e a b size = .ok (needP e a b size) := by
  have hg := gap_in a b size (by omega)
  unfold F_spot_Need.S needP
  rw [spotGap_S k hk a b size hz ha hb.1, if_pos hb.2, O.bind_ok, O.cond_neg (by simp)]
  by_cases c1 : gapP a b size > size
  · rw [O.cond_pos c1, if_pos c1]
  rw [O.cond_neg c1, if_neg c1]
  by_cases c2 : e.2.2 = 0
  · rw [O.cond_pos c2, if_pos c2]
    congr 1
    have := gap_zero a b size ha hb
    by_cases c : a = b
    · have := this.2 c
      rw [decide_eq_true (show a.1 = b.1 by rw [c]), decide_eq_true (show a.2 = b.2 by rw [c]), decide_eq_false (by omega)]; rfl
    · have h0 : gapP a b size ≠ 0 := fun x => c (this.1 x)
      rw [decide_eq_true (show gapP a b size > 0 by omega)]
      by_cases e1 : a.1 = b.1
      · by_cases e2 : a.2 = b.2
        · exact absurd (Prod.ext e1 e2) c
        · simp [e2]
      · simp [e1]
  rw [O.cond_neg c2, if_neg c2]
  by_cases c3 : e.2.2 = 2
  · rw [O.cond_pos c3, if_pos c3, spotGap_S k hk a (e.1, e.2.1) size hz ha he, O.bind_ok]
    by_cases c4 : e.1 < size
    · rw [if_pos c4, O.cond_pos rfl]
      congr 1
      apply decide_eq_decide.2
      exact ⟨fun h => ⟨c4, h⟩, fun h => h.2⟩
    · rw [if_neg c4, O.cond_neg (by decide), decide_eq_false (fun h => c4 h.1)]
  · rw [O.cond_neg c3, if_neg c3]
theorem rNeed_S (k : Nat) (e : Int × Bool × Int) (a b : Int × Bool) (size : Int) (hz : 1 ≤ size ∧ size ≤ 32768) (ha : 0 ≤ a.1 ∧ a.1 < size) (hb : 0 ≤ b.1 ∧ b.1 < size) (he : 0 ≤ e.1) (hk : 2 * size < k) :
    F_aqueductref13_Need.S k e a b size = .ok (needP e a b size) := by
  have hg := gap_in a b size (by omega)
  unfold F_aqueductref13_Need.S F_aqueductref13_Need.top needP
  rw [rGap_S k a b size hz ha hb hk, O.bind_ok, O.cond_neg (by simp)]
  by_cases c1 : gapP a b size > size
  · rw [O.cond_pos c1, if_pos c1]
  rw [O.cond_neg c1, if_neg c1]
  by_cases c2 : e.2.2 = 0
  · rw [O.cond_pos c2, if_pos c2]
  rw [O.cond_neg c2, if_neg c2]
  have lp : ∀ (m j : Nat) (i : Nat) (s : Int × Bool), 0 ≤ s.1 ∧ s.1 < size → ((i + m : Nat) : Int) = gapP a b size → m < j →
      F_aqueductref13_Need.l0 k e size (gapP a b size, 0) j (i : Int) s.1 s.2 = .ok (if e.2.2 = 2 then decide (e.1 < size ∧ gapP s (e.1, e.2.1) size < m) else false) := by
    intro m
    induction m with
    | zero =>
      intro j i s hs hi hj
      obtain ⟨j, rfl⟩ : ∃ i, j = i + 1 := ⟨j - 1, by omega⟩
      show F_aqueductref13_Need.l0_b k _ _ _ _ _ _ _ = _
      unfold F_aqueductref13_Need.l0_b
      have := gap_in s (e.1, e.2.1) size (by omega)
      rw [O.cond_neg (by simp only; omega)]
      congr 1
      split
      · exact (decide_eq_false (by omega)).symm
      · rfl
    | succ m ih =>
      intro j i s hs hi hj
      obtain ⟨j, rfl⟩ : ∃ i, j = i + 1 := ⟨j - 1, by omega⟩
      show F_aqueductref13_Need.l0_b k _ _ _ _ _ _ _ = _
      unfold F_aqueductref13_Need.l0_b
      have hv := nextSp_in s 1 size hs (by omega)
      have nxt := ih j (i + 1) (nextSp s 1 size) hv (by omega) (by omega)
      have go : s ≠ (e.1, e.2.1) → O.bind (F_aqueductref13_one.S k (s.1, s.2) size) (fun r => F_aqueductref13_Need.l0 k e size (gapP a b size, 0) j (IntKind.i64.wrap ((i : Int) + 1)) r.1 r.2) = .ok (if e.2.2 = 2 then decide (e.1 < size ∧ gapP s (e.1, e.2.1) size < ((m + 1 : Nat) : Int)) else false) := by
        intro hne
        rw [show ((s.1, s.2) : Int × Bool) = s from rfl, rOne_S k s size hs hz.2, O.bind_ok, i64_in ((i : Int) + 1) (by omega)]
        refine Eq.trans nxt ?_
        congr 1
        split
        · apply decide_eq_decide.2
          constructor
          · rintro ⟨h1, h2⟩
            rw [gap_step s (e.1, e.2.1) size hs ⟨he, h1⟩ hne] at h2
            exact ⟨h1, by omega⟩
          · rintro ⟨h1, h2⟩
            refine ⟨h1, ?_⟩
            rw [gap_step s (e.1, e.2.1) size hs ⟨he, h1⟩ hne]; omega
        · rfl
      rw [O.cond_pos (by simp only; omega)]
      by_cases c3 : e.2.2 = 2
      · rw [O.cond_pos c3]
        by_cases e1 : s.1 = e.1
        · rw [O.cond_pos e1]
          by_cases e2 : s.2 = e.2.1
          · rw [O.cond_pos e2, if_pos c3, decide_eq_true]
            have : s = (e.1, e.2.1) := Prod.ext e1 e2
            rw [← this, (gap_zero s s size hs hs).2 rfl]
            exact ⟨by omega, by omega⟩
          · rw [O.cond_neg e2]; exact go (fun x => e2 (by rw [x]))
        · rw [O.cond_neg e1]; exact go (fun x => e1 (by rw [x]))
      · rw [O.cond_neg c3]
        rw [show ((s.1, s.2) : Int × Bool) = s from rfl, rOne_S k s size hs hz.2, O.bind_ok, i64_in ((i : Int) + 1) (by omega)]
        refine Eq.trans nxt ?_
        rw [if_neg c3, if_neg c3]
  have := lp (gapP a b size).toNat k 0 a ha (by omega) (by omega)
  rw [show ((gapP a b size).toNat : Int) = gapP a b size by omega] at this
  exact this
end Go.Proofs.Ytjdhepioehfmhaa
