/- Layer 14: what the document's Queue.Next comes to: the same as devq's. -/
import Derived.Test.YtjdhepioehfmhaaEP14d
namespace Go.Proofs.Ytjdhepioehfmhaa
open Go.Aq Go.IntWalk
set_option linter.unusedVariables false
theorem rGetL_S (k : Nat) (hk : 9 ≤ k) (s : ByteArray) (hs : s.size ≤ 140737488351232) (i n : Nat) (hn : 1 ≤ n ∧ n ≤ 8) (hi : i ≤ 140737488351232) : F_aqueductref01_Get.S k s (i : Int) (n : Int) false = .ok (if i + n ≤ s.size then (bl s (i + n) n, 0) else (0, 10)) := by
  have lp : i + n ≤ s.size → ∀ (m o j : Nat), o + m = n → m < j → F_aqueductref01_Get.l0 k s (i : Int) (n : Int) false j (bl s (i + n) o) (o : Int) = .ok (bl s (i + n) n, 0) := by
    intro hin m
    induction m with
    | zero =>
      intro o j ho hj
      obtain ⟨j, rfl⟩ : ∃ i, j = i + 1 := ⟨j - 1, by omega⟩
      obtain rfl : o = n := by omega
      show F_aqueductref01_Get.l0_b k _ _ _ _ _ _ _ = _
      unfold F_aqueductref01_Get.l0_b
      rw [O.cond_neg (by omega)]
    | succ m ih =>
      intro o j ho hj
      obtain ⟨j, rfl⟩ : ∃ i, j = i + 1 := ⟨j - 1, by omega⟩
      show F_aqueductref01_Get.l0_b k _ _ _ _ _ _ _ = _
      unfold F_aqueductref01_Get.l0_b
      have hb := bl_lo s (i + n) o
      have hp := pow56 o (by omega)
      have b1 := bt_lo s ((i + n - 1 - o : Nat) : Int)
      have b2 := bt_hi s ((i + n - 1 - o : Nat) : Int)
      have e : IntKind.i64.wrap (IntKind.i64.wrap (IntKind.i64.wrap ((i : Int) + (n : Int)) - 1) - (o : Int)) = ((i + n - 1 - o : Nat) : Int) := by rw [i64_in ((i : Int) + n) (by omega), i64_in ((i : Int) + n - 1) (by omega), i64_in _ (by omega)]; omega
      rw [O.cond_pos (by omega), O.cond_false, e, O.chk_dec (by omega), step_u64' _ _ ⟨hb.1, by omega⟩ ⟨b1, b2⟩, i64_in _ (by omega)]
      exact ih (o + 1) j (by omega) (by omega)
  unfold F_aqueductref01_Get.S F_aqueductref01_Get.top
  rw [O.cond_neg (by omega), O.cond_neg (by omega), O.cond_neg (by omega), i64_in ((s.size : Int) - _) (by omega)]
  by_cases h : i + n ≤ s.size
  · rw [O.cond_neg (by omega), if_pos h]
    exact lp h n 0 k (by omega) (by omega)
  · rw [O.cond_pos (by omega), if_neg h]
theorem rParse_S (k : Nat) (hk : 9 ≤ k) (s : ByteArray) (h : s.size = 16) : F_aqueductref12_Parse.S k s = .ok (descP s, 0) := by
  unfold F_aqueductref12_Parse.S
  have g1 : F_aqueductref01_Get.S k s (0 : Int) (8 : Int) false = _ := rGetL_S k hk s (by omega) 0 8 (by omega) (by omega)
  have g2 : F_aqueductref01_Get.S k s (8 : Int) (4 : Int) false = _ := rGetL_S k hk s (by omega) 8 4 (by omega) (by omega)
  have g3 : F_aqueductref01_Get.S k s (12 : Int) (2 : Int) false = _ := rGetL_S k hk s (by omega) 12 2 (by omega) (by omega)
  have g4 : F_aqueductref01_Get.S k s (14 : Int) (2 : Int) false = _ := rGetL_S k hk s (by omega) 14 2 (by omega) (by omega)
  rw [if_pos (by omega)] at g1 g2 g3 g4
  have b2 := bl_lo s 12 4; have b3 := bl_lo s 14 2; have b4 := bl_lo s 16 2
  rw [show (256 : Int) ^ 4 = 4294967296 from rfl] at b2
  rw [show (256 : Int) ^ 2 = 65536 from rfl] at b3 b4
  rw [O.cond_neg (by omega), g1, O.bind_ok, g2, O.bind_ok, g3, O.bind_ok, g4, O.bind_ok]
  show O.ok ((_, IntKind.u32.wrap (bl s 12 4), IntKind.i64.wrap (bl s 14 2), IntKind.i64.wrap (bl s 16 2)), (0 : Int)) = _
  rw [u32_in _ (by omega), i64_in _ (by omega), i64_in _ (by omega)]; rfl
theorem ext_sub (b : List Int) (a : Int) (n : Nat) (ha : 0 ≤ a) : (strOf b).extract a.toNat (a + n).toNat = strOf (sub b a n) := by
  rw [strOf_sub]
  congr 2
  · omega
  · omega
/-- A descriptor of the document's memory. -/
theorem rAt_S (k : Nat) (hk : 9 ≤ k) (a : Int) (b : List Int) (ha : 0 ≤ a ∧ a + 16 ≤ b.length) : F_aqueductref12_Parse.S k ((strOf b).extract a.toNat (a + 16).toNat) = .ok (rdD b a, 0) := by
  have := ext_sub b a 16 ha.1
  rw [show a + (16 : Int) = a + ((16 : Nat) : Int) from rfl, this, rParse_S k hk _ (by rw [size_strOf, sub_len _ _ _ (by omega)]; rfl)]; rfl
theorem bit_and (f : Int) (j : Nat) (hj : j ≤ 15) (h : 0 ≤ f ∧ f ≤ 65535) : decide (bAnd .i64 f (2 ^ j) ≠ 0) = decide (f / 2 ^ j % 2 = 1) := by
  rw [bAnd_bit f j h.1 (by omega) (by omega)]
  have hp : (0 : Int) < 2 ^ j := Int.pow_pos (by decide)
  apply decide_eq_decide.2
  generalize f / 2 ^ j = x
  have : x % 2 = 0 ∨ x % 2 = 1 := by omega
  rcases this with e | e
  · rw [e]; simp
  · rw [e]; simp; omega
theorem rbit_S (k : Nat) (d : D4) (hd : rngD d) (j : Nat) (hj : j ≤ 15) : F_aqueductref14_bit.S k d (2 ^ j) = .ok (decide (bAnd .i64 d.2.2.2 (2 ^ j) ≠ 0)) := by
  obtain ⟨_, _, _, _, _, h0, h1⟩ := hd
  have hp : (0 : Int) < 2 ^ j := Int.pow_pos (by decide)
  have hq : 0 ≤ d.2.2.2 / 2 ^ j := Int.ediv_nonneg h0 (by omega)
  have hl : d.2.2.2 / 2 ^ j ≤ d.2.2.2 := Int.ediv_le_self _ h0
  unfold F_aqueductref14_bit.S
  rw [O.chk_dec (by omega), quo_in _ _ h0, i64_in _ (by omega), rem_in _ _ hq, bit_and _ j hj ⟨h0, h1⟩]
theorem rAvail_S (k : Nat) (f : Int) (h : 0 ≤ f ∧ f ≤ 65535) (w : Bool) : F_aqueductref12_Avail.S k f w = .ok (availP f w) := by
  unfold F_aqueductref12_Avail.S availP
  have e1 := bit_and f 7 (by omega) h
  have e2 := bit_and f 15 (by omega) h
  rw [show (2 : Int) ^ 7 = 128 from rfl] at e1
  rw [show (2 : Int) ^ 15 = 32768 from rfl] at e2
  rw [quo_in _ _ h.1, quo_in _ _ h.1, i64_in (f / 128) (by omega), i64_in (f / 32768) (by omega), rem_in _ _ (by omega), rem_in _ _ (by omega), e1, e2]
  generalize decide (f / 128 % 2 = 1) = a
  generalize decide (f / 32768 % 2 = 1) = u
  cases a <;> cases u <;> cases w <;> simp
theorem rOne_S (k : Nat) (s : Int × Bool) (size : Int) (hs : 0 ≤ s.1 ∧ s.1 < size) (hz : size ≤ 32768) : F_aqueductref13_one.S k s size = .ok (nextSp s 1 size) := by
  unfold F_aqueductref13_one.S nextSp
  rw [i64_in (size - 1) (by omega), i64_in (s.1 + 1) (by omega)]
  by_cases h : s.1 = size - 1
  · rw [O.cond_pos h, if_pos (by omega)]
    congr 2; omega
  · rw [O.cond_neg h, if_neg (by omega)]
theorem nextSp_add (s : Int × Bool) (n size : Int) (hs : 0 ≤ s.1 ∧ s.1 < size) (hn : 0 ≤ n ∧ n < size) : nextSp (nextSp s n size) 1 size = nextSp s (n + 1) size := by
  unfold nextSp
  by_cases h1 : s.1 + n ≥ size
  · simp only [if_pos h1, if_pos (show s.1 + (n + 1) ≥ size by omega)]
    rw [if_neg (by omega)]; congr 1; omega
  · simp only [if_neg h1]
    by_cases h2 : s.1 + (n + 1) ≥ size
    · rw [if_pos (by omega), if_pos h2]; congr 1; omega
    · rw [if_neg (by omega), if_neg h2]; congr 1; omega
theorem nextSp_zero (s : Int × Bool) (size : Int) (hs : 0 ≤ s.1 ∧ s.1 < size) : nextSp s 0 size = s := by
  unfold nextSp; rw [if_neg (by omega), Int.add_zero]
theorem rSpCheck_S (k : Nat) (s : Int × Bool) (size : Int) (hz : 1 ≤ size ∧ size ≤ 32768) (hs : 0 ≤ s.1 ∧ s.1 < size) : F_aqueductref13_Check.S k s size = .ok 0 := by
  unfold F_aqueductref13_Check.S
  rw [O.cond_neg (by omega), O.cond_neg (by omega), O.cond_neg (by omega), i64_in _ (by omega), O.cond_neg (by omega)]
theorem rSpNext_S (k : Nat) (s : Int × Bool) (n : Nat) (size : Int) (hs : 0 ≤ s.1 ∧ s.1 < size) (hz : size ≤ 32768) (hn : (n : Int) ≤ size) (hk : n < k) : F_aqueductref13_Next.S k s (n : Int) size = .ok (nextSp s n size, 0) := by
  have lp : ∀ (m i j : Nat), i + m = n → m < j → F_aqueductref13_Next.l0 k (n : Int) size j (i : Int) (nextSp s i size).1 (nextSp s i size).2 = .ok (nextSp s n size, 0) := by
    intro m
    induction m with
    | zero =>
      intro i j hi hj
      obtain ⟨j, rfl⟩ : ∃ i, j = i + 1 := ⟨j - 1, by omega⟩
      obtain rfl : i = n := by omega
      show F_aqueductref13_Next.l0_b k _ _ _ _ _ _ = _
      unfold F_aqueductref13_Next.l0_b
      rw [O.cond_neg (by omega)]
    | succ m ih =>
      intro i j hi hj
      obtain ⟨j, rfl⟩ : ∃ i, j = i + 1 := ⟨j - 1, by omega⟩
      show F_aqueductref13_Next.l0_b k _ _ _ _ _ _ = _
      unfold F_aqueductref13_Next.l0_b
      have hv := nextSp_in s i size hs (by omega)
      rw [O.cond_pos (by omega), show (((nextSp s i size).1, (nextSp s i size).2) : Int × Bool) = nextSp s i size from rfl, rOne_S k _ _ hv hz, O.bind_ok, nextSp_add s i size hs (by omega), i64_in _ (by omega)]
      exact ih (i + 1) j (by omega) (by omega)
  unfold F_aqueductref13_Next.S F_aqueductref13_Next.top
  rw [rSpCheck_S k s size (by omega) hs, O.bind_ok, O.cond_neg (by decide), O.cond_neg (by omega), O.cond_neg (by omega)]
  have := lp n 0 k (by omega) hk
  rw [show ((0 : Nat) : Int) = 0 from rfl, nextSp_zero s size hs] at this
  exact this
/-! ### Parts -/
theorem dec_parts (n : Int) (hn : n ≤ 1048576) (d : D4) (hd : rngD d) (h1 : d.1 ≤ n) (h2 : d.2.1 ≤ n) (h3 : d.2.1 ≠ 0) : partP n d = if mayM d.1 d.2.1 n = true then some (d.1, d.2.1, decide (bAnd .i64 d.2.2.2 2 ≠ 0)) else none := by
  obtain ⟨a1, a2, _⟩ := hd
  unfold partP
  rw [i64_in d.1 (by omega), i64_in d.2.1 (by omega)]
  by_cases h : mayM d.1 d.2.1 n = true
  · rw [if_pos h, if_pos ⟨by have := mayM_iff.1 h; omega, by omega, by omega, h⟩]
  · rw [if_neg h, if_neg (fun x => h x.2.2.2)]
theorem partP_none (n : Int) (hn : n ≤ 1048576) (d : D4) (hd : rngD d) (h : d.2.1 = 0 ∨ d.2.1 > n ∨ d.1 > n) : partP n d = none := by
  obtain ⟨a1, a2, a3, _⟩ := hd
  unfold partP
  rw [if_neg]
  intro x
  have := mayM_iff.1 x.2.2.2
  rw [i64_in d.1 (by omega), i64_in d.2.1 (by omega)] at this
  omega
def rP (o : Option (List P3)) : List P3 × Bool := match o with | none => ([], false) | some ps => (ps, true)
theorem rparts_S (k : Nat) (q : TQ) (h : TR) (hn : h.1.size ≤ 1048576) (L : List D4) (hL : L.length ≤ 64) (hk : 80 ≤ k) (hR : ∀ d ∈ L, rngD d) : F_aqueductref14_Queue_parts.S k L q h = .ok (rP (partsP h.1.size L false []), (q, h)) := by
  have b2 : ∀ i (hi : i < L.length), F_aqueductref14_bit.S k L[i] 2 = .ok (decide (bAnd .i64 L[i].2.2.2 2 ≠ 0)) := fun i hi => rbit_S k L[i] (hR _ (List.getElem_mem hi)) 1 (by omega)
  have lp : ∀ (m i j : Nat) (him : i + m = L.length), m < j → ∀ (acc : List P3) (w : Bool), acc.length ≤ i → (∀ hi : 0 < i, w = decide (bAnd .i64 (L[i - 1]'(by omega)).2.2.2 2 ≠ 0)) → (i = 0 → w = false) →
      F_aqueductref14_Queue_parts.l0 k L q h j (i : Int) acc = .ok (rP (partsP h.1.size (L.drop i) w acc), (q, h)) := by
    intro m
    induction m with
    | zero =>
      intro i j hi hj acc w ha hw h0
      obtain ⟨j, rfl⟩ : ∃ i, j = i + 1 := ⟨j - 1, by omega⟩
      show F_aqueductref14_Queue_parts.l0_b k _ _ _ _ _ _ = _
      unfold F_aqueductref14_Queue_parts.l0_b
      rw [O.cond_neg (by omega), List.drop_eq_nil_of_le (by omega)]; rfl
    | succ m ih =>
      intro i j hi hj acc w ha hw h0
      obtain ⟨j, rfl⟩ : ∃ i, j = i + 1 := ⟨j - 1, by omega⟩
      show F_aqueductref14_Queue_parts.l0_b k _ _ _ _ _ _ = _
      unfold F_aqueductref14_Queue_parts.l0_b
      have hr := hR _ (List.getElem_mem (show i < L.length by omega))
      have hr' := hr
      obtain ⟨a1, a2, a3, _⟩ := hr'
      rw [O.cond_pos (by omega), O.chk_dec (by omega), O.chk_dec (by omega), gt_at _ _ _ (by omega : i < L.length), drop_at _ _ (by omega : i < L.length), u64_in (h.1.size : Int) (by omega)]
      unfold partsP
      by_cases c1 : L[i].2.1 = 0
      · rw [O.cond_pos c1, partP_none _ (by omega) _ hr (Or.inl c1)]; rfl
      rw [O.cond_neg c1, i64_in L[i].2.1 (by omega)]
      by_cases c2 : L[i].2.1 > (h.1.size : Int)
      · rw [O.cond_pos c2, partP_none _ (by omega) _ hr (Or.inr (Or.inl c2))]; rfl
      rw [O.cond_neg c2]
      by_cases c3 : L[i].1 > (h.1.size : Int)
      · rw [O.cond_pos c3, partP_none _ (by omega) _ hr (Or.inr (Or.inr c3))]; rfl
      rw [O.cond_neg c3, i64_in L[i].1 (by omega), rMay_S k _ _ _ hn, O.bind_ok, dec_parts _ (by omega) _ hr (by omega) (by omega) c1]
      by_cases c4 : mayM L[i].1 L[i].2.1 h.1.size = true
      · rw [c4, Bool.not_true, O.cond_false, if_pos rfl]
        simp only
        have nxt := ih (i + 1) j (by omega) (by omega) (acc ++ [(L[i].1, L[i].2.1, decide (bAnd .i64 L[i].2.2.2 2 ≠ 0))]) (decide (bAnd .i64 L[i].2.2.2 2 ≠ 0)) (by simp; omega) (fun _ => by simp) (by omega)
        by_cases hi0 : (i : Int) > 0
        · rw [O.cond_pos hi0, i64_in ((i : Int) - 1) (by omega), O.chk_dec (by omega), O.chk_dec (by omega), show ((i : Int) - 1) = ((i - 1 : Nat) : Int) by omega, gt_at _ _ _ (by omega : i - 1 < L.length), b2 _ (by omega), O.bind_ok, ← hw (by omega), b2 _ (by omega)]
          cases w with
          | true =>
            rw [O.cond_true, O.bind_ok]
            cases hb : decide (bAnd .i64 L[i].2.2.2 2 ≠ 0) with
            | false =>
              rw [hb] at nxt
              rw [Bool.not_false, O.cond_true, if_neg (by simp)]; rfl
            | true =>
              rw [hb] at nxt
              rw [Bool.not_true, O.cond_false, O.bind_ok, O.chk_dec (by simp; omega), i64_in ((i : Int) + 1) (by omega), if_pos (Or.inl rfl)]
              exact nxt
          | false =>
            rw [O.cond_false, O.bind_ok, O.chk_dec (by simp; omega), i64_in ((i : Int) + 1) (by omega), if_pos (Or.inr rfl)]
            exact nxt
        · have hw0 := h0 (by omega)
          subst hw0
          rw [O.cond_neg hi0, b2 _ (by omega), O.bind_ok, O.chk_dec (by simp; omega), i64_in ((i : Int) + 1) (by omega), if_pos (Or.inr rfl)]
          exact nxt
      · rw [Bool.not_eq_true] at c4
        rw [c4, Bool.not_false, O.cond_true, if_neg (by decide)]; rfl
  unfold F_aqueductref14_Queue_parts.S F_aqueductref14_Queue_parts.top
  have := lp L.length 0 k (by omega) (by omega) [] false (by simp) (fun hi => by omega) (fun _ => rfl)
  rw [List.drop_zero] at this
  exact this
end Go.Proofs.Ytjdhepioehfmhaa
