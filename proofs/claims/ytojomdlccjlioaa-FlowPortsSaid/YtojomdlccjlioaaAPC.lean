/- What the functions of csum, and the document's, come to: sums of words, brought to 1 .. 65535. -/
import Derived.Test.YtojomdlccjlioaaAS4
import Derived.Test.YtojomdlccjlioaaV18
namespace Go.Proofs.Ytojomdlccjlioaa
open Go.Aq Go.IntWalk
set_option linter.unusedVariables false
def nrm (n : Int) : Int := if n = 0 then 0 else (n - 1) % 65535 + 1
theorem nrm_lo {n : Int} (h : 0 ≤ n) : 0 ≤ nrm n ∧ nrm n ≤ 65535 := by unfold nrm; split <;> omega
theorem nrm_zero {n : Int} (h : 0 ≤ n) : nrm n = 0 ↔ n = 0 := by unfold nrm; split <;> omega
theorem nrm_mod {n : Int} : (nrm n - n) % 65535 = 0 := by unfold nrm; split <;> omega
theorem nrm_add {n m : Int} (hn : 0 ≤ n) (hm : 0 ≤ m) : nrm (nrm n + m) = nrm (n + m) := by unfold nrm; split <;> split <;> split <;> omega
theorem nrm_self {n : Int} (h : 0 ≤ n ∧ n ≤ 65535) : nrm n = n := by unfold nrm; split <;> omega
theorem nrm_congr {n m : Int} (hn : 0 ≤ n) (hm : 0 ≤ m) (h : (n - m) % 65535 = 0) (hz : n = 0 ↔ m = 0) : nrm n = nrm m := by unfold nrm; split <;> split <;> omega
theorem nrm_ones {a b : Int} (ha : 0 ≤ a ∧ a ≤ 65535) (hb : 0 ≤ b ∧ b ≤ 65535) : (if a + b ≥ 65536 then a + b - 65536 + 1 else a + b) = nrm (a + b) := by unfold nrm; split <;> split <;> omega
def tot : List UInt8 → Int
  | [] => 0
  | [x] => (x.toNat : Int) * 256
  | x :: y :: r => (x.toNat : Int) * 256 + (y.toNat : Int) + tot r
theorem tot_nonneg : ∀ l, 0 ≤ tot l
  | [] => by simp [tot]
  | [x] => by simp [tot]; omega
  | x :: y :: r => by have := tot_nonneg r; simp [tot]; omega
theorem fold_S (k : Nat) (hk : 3 ≤ k) (n : Int) (h : 0 ≤ n ∧ n ≤ 4294967295) : F_csum_fold.S k n = .ok (nrm n) := by
  have st : ∀ j (v : Int), 0 ≤ v → v ≤ 4294967295 → F_csum_fold.l0 k (j + 1) v = if v > 65535 then F_csum_fold.l0 k j (v % 65536 + v / 65536) else .ok v := by
    intro j v h0 h1
    have a1 : bAnd .u32 v 65535 = v % 65536 := by
      have := bAnd_mask .u32 v 16 h0 (by rw [bits32]; omega) (by decide)
      rw [show ((2 : Int) ^ 16 - 1) = 65535 from rfl, show ((2 : Int) ^ 16) = 65536 from rfl] at this
      rw [this, u32_in]; omega
    have a2 : shR .u32 v 16 = v / 65536 := shR_eq .u32 v 16 (by decide)
    show F_csum_fold.l0_b k _ v = _
    unfold F_csum_fold.l0_b
    rw [a1, a2, O.cond_dec]
    split
    · rw [u32_in _ (by omega)]
    · rw [u16_in _ (by omega)]
  obtain ⟨j, rfl⟩ : ∃ j, k = j + 3 := ⟨k - 3, by omega⟩
  show F_csum_fold.l0 (j + 3) (j + 2 + 1) n = _
  rw [st _ _ h.1 h.2]
  split
  · rw [st _ _ (by omega) (by omega)]
    split
    · rw [st _ _ (by omega) (by omega)]
      split
      · omega
      · unfold nrm; congr 1; split <;> omega
    · unfold nrm; congr 1; split <;> omega
  · rw [nrm_self (by omega)]
theorem word_u32 (a b : Int) (ha : 0 ≤ a ∧ a ≤ 255) (hb : 0 ≤ b ∧ b ≤ 255) : bOr .u32 (shL .u32 (IntKind.u32.wrap a) 8) (IntKind.u32.wrap b) = a * 256 + b := by
  have s8 : shL .u32 a 8 = IntKind.u32.wrap (a * 2 ^ 8) := shL_eq .u32 a 8 (by decide)
  rw [u32_in a (by omega), u32_in b (by omega), s8, show ((2 : Int) ^ 8) = 256 from rfl, u32_in _ (by omega)]
  have := bOr_join .u32 a b 8 ha.1 hb.1 (by omega) (by rw [bits32]; omega) (by decide)
  rw [show ((2 : Int) ^ 8) = 256 from rfl] at this
  rw [this, u32_in _ (by omega)]
theorem shl_u32 (a : Int) (ha : 0 ≤ a ∧ a ≤ 255) : shL .u32 (IntKind.u32.wrap a) 8 = a * 256 := by
  have s8 : shL .u32 a 8 = IntKind.u32.wrap (a * 2 ^ 8) := shL_eq .u32 a 8 (by decide)
  rw [u32_in a (by omega), s8, show ((2 : Int) ^ 8) = 256 from rfl, u32_in _ (by omega)]
theorem tot_drop2 (l : List UInt8) (i : Nat) (h : i + 1 < l.length) : tot (l.drop i) = ((l[i]'(by omega)).toNat : Int) * 256 + ((l[i + 1]'h).toNat : Int) + tot (l.drop (i + 2)) := by
  rw [List.drop_eq_getElem_cons (by omega : i < l.length), List.drop_eq_getElem_cons h]; rfl
theorem tot_drop1 (l : List UInt8) (i : Nat) (h : i + 1 = l.length) : tot (l.drop i) = ((l[i]'(by omega)).toNat : Int) * 256 := by
  rw [List.drop_eq_getElem_cons (by omega : i < l.length), List.drop_eq_nil_of_le (by omega)]; rfl
theorem On_S (k : Nat) (a : Int) (s : ByteArray) (ha : 0 ≤ a ∧ a ≤ 65535) (hs : s.size ≤ 140737488351232) (hk : s.size + 4 ≤ k) : F_csum_On.S k a s = .ok (nrm (a + tot s.data.toList)) := by
  have hl := size_list s
  have lp : ∀ (m i : Nat) (v : Int), 2 * i + 2 * m ≥ s.size → 0 ≤ v → v ≤ 65535 → 2 * i ≤ s.size → F_csum_On.l0 k s (m + 1) (i : Int) v = .ok (nrm (v + tot (s.data.toList.drop (2 * i)))) := by
    intro m
    induction m with
    | zero =>
      intro i v hm h0 h1 hi
      have hi' : 2 * i = s.size := by omega
      show F_csum_On.l0_b k s _ _ _ = _
      unfold F_csum_On.l0_b
      rw [O.cond_neg (by rw [quo_in _ 2 (by omega), i64_in _ (by omega)]; omega), O.cond_neg (by rw [rem_in _ _ (by omega)]; omega), List.drop_eq_nil_of_le (by omega)]
      rw [show tot [] = 0 from rfl, Int.add_zero, nrm_self ⟨h0, h1⟩]
    | succ m ih =>
      intro i v hm h0 h1 hi
      show F_csum_On.l0_b k s _ _ _ = _
      unfold F_csum_On.l0_b
      rw [quo_in _ 2 (by omega), i64_in (_ / 2) (by omega), rem_in _ _ (by omega)]
      by_cases hlt : 2 * i + 1 < s.size
      · have e1 : IntKind.i64.wrap (2 * (i : Int)) = ((2 * i : Nat) : Int) := by rw [i64_in _ (by omega)]; push_cast; rfl
        have e2 : IntKind.i64.wrap (((2 * i : Nat) : Int) + 1) = ((2 * i + 1 : Nat) : Int) := by rw [i64_in _ (by omega)]; push_cast; rfl
        have e3 : IntKind.i64.wrap ((i : Int) + 1) = ((i + 1 : Nat) : Int) := by rw [i64_in _ (by omega)]; push_cast; rfl
        have b1 := bt_lo s ((2 * i : Nat) : Int); have b2 := bt_hi s ((2 * i : Nat) : Int); have b3 := bt_lo s ((2 * i + 1 : Nat) : Int); have b4 := bt_hi s ((2 * i + 1 : Nat) : Int)
        rw [O.cond_pos (by omega), e1, e2, e3, O.chk_dec (by omega), O.chk_dec (by omega), word_u32 _ _ ⟨b1, b2⟩ ⟨b3, b4⟩, u32_in v (by omega), u32_in _ (by omega), fold_S k (by omega) _ (by omega), O.bind_ok]
        have hn := nrm_lo (n := v + (bt s ((2 * i : Nat) : Int) * 256 + bt s ((2 * i + 1 : Nat) : Int))) (by omega)
        rw [ih (i + 1) _ (by omega) hn.1 hn.2 (by omega), nrm_add (by omega) (tot_nonneg _), tot_drop2 _ (2 * i) (by omega), bt_at s (2 * i) (by omega), bt_at s (2 * i + 1) (by omega)]
        congr 2
        rw [show 2 * (i + 1) = 2 * i + 2 from by omega]; omega
      · rw [O.cond_neg (by omega)]
        by_cases ho : 2 * i + 1 = s.size
        · have b1 := bt_lo s ((2 * i : Nat) : Int); have b2 := bt_hi s ((2 * i : Nat) : Int)
          have e1 : IntKind.i64.wrap ((s.size : Int) - 1) = ((2 * i : Nat) : Int) := by rw [i64_in _ (by omega)]; omega
          rw [O.cond_pos (by omega), e1, O.chk_dec (by omega), shl_u32 _ ⟨b1, b2⟩, u32_in v (by omega), u32_in _ (by omega), fold_S k (by omega) _ (by omega), O.bind_ok, tot_drop1 _ (2 * i) (by omega), bt_at s (2 * i) (by omega)]
        · rw [O.cond_neg (by omega), List.drop_eq_nil_of_le (by omega), show tot [] = 0 from rfl, Int.add_zero, nrm_self ⟨h0, h1⟩]
  obtain ⟨j, rfl⟩ : ∃ j, k = j + 1 := ⟨k - 1, by omega⟩
  exact lp j 0 a (by omega) ha.1 ha.2 (by omega)
theorem rOnes_S (k : Nat) (a b : Int) (ha : 0 ≤ a ∧ a ≤ 65535) (hb : 0 ≤ b ∧ b ≤ 65535) : F_aqueductref02_Ones.S k a b = .ok (nrm (a + b)) := by
  unfold F_aqueductref02_Ones.S
  rw [i64_in (a + b) (by omega), i64_in _ (by rw [i64_in _ (by omega)]; omega), i64_in _ (by omega), O.cond_dec, ← nrm_ones ha hb]
  split <;> rfl
theorem rOn_S (k : Nat) (a : Int) (s : ByteArray) (ha : 0 ≤ a ∧ a ≤ 65535) (hs : s.size ≤ 140737488351232) (hk : s.size + 4 ≤ k) : F_aqueductref02_On.S k a s = .ok (nrm (a + tot s.data.toList)) := by
  have hl := size_list s
  have lp : ∀ (m i : Nat) (v : Int), 2 * i + 2 * m ≥ s.size → 0 ≤ v → v ≤ 65535 → F_aqueductref02_On.l0 k s (m + 1) v ((2 * i : Nat) : Int) = .ok (nrm (v + tot (s.data.toList.drop (2 * i)))) := by
    intro m
    induction m with
    | zero =>
      intro i v hm h0 h1
      show F_aqueductref02_On.l0_b k s _ _ _ = _
      unfold F_aqueductref02_On.l0_b
      rw [O.cond_neg (by omega), List.drop_eq_nil_of_le (by omega), u16_in _ ⟨h0, h1⟩]
      rw [show tot [] = 0 from rfl, Int.add_zero, nrm_self ⟨h0, h1⟩]
    | succ m ih =>
      intro i v hm h0 h1
      show F_aqueductref02_On.l0_b k s _ _ _ = _
      unfold F_aqueductref02_On.l0_b
      by_cases hlt : 2 * i < s.size
      · rw [O.cond_pos (by omega), O.chk_dec (by omega)]
        have hi : 2 * i < 140737488351232 := by omega
        have e2 : IntKind.i64.wrap (((2 * i : Nat) : Int) + 1) = ((2 * i + 1 : Nat) : Int) := by rw [i64_in _ (by omega)]; push_cast; rfl
        have e3 : IntKind.i64.wrap (((2 * i : Nat) : Int) + 2) = ((2 * (i + 1) : Nat) : Int) := by rw [i64_in _ (by omega)]; push_cast; omega
        have b1 := bt_lo s ((2 * i : Nat) : Int); have b2 := bt_hi s ((2 * i : Nat) : Int); have b3 := bt_lo s ((2 * i + 1 : Nat) : Int); have b4 := bt_hi s ((2 * i + 1 : Nat) : Int)
        rw [e2, e3, i64_in (bt s _) (by omega), i64_in (bt s ((2 * i + 1 : Nat) : Int)) (by omega), i64_in (_ * _) (by omega), i64_in (_ + _) (by omega)]
        by_cases h2 : 2 * i + 1 < s.size
        · rw [O.cond_pos (by omega), O.chk_dec (by omega), rOnes_S k _ _ ⟨h0, h1⟩ (by omega), O.bind_ok]
          have hn := nrm_lo (n := v + (bt s ((2 * i : Nat) : Int) * 256 + bt s ((2 * i + 1 : Nat) : Int))) (by omega)
          rw [ih (i + 1) _ (by omega) hn.1 hn.2, nrm_add (by omega) (tot_nonneg _), tot_drop2 _ (2 * i) (by omega), bt_at s (2 * i) (by omega), bt_at s (2 * i + 1) (by omega)]
          congr 2
          rw [show 2 * (i + 1) = 2 * i + 2 from by omega]; omega
        · rw [O.cond_neg (by omega), rOnes_S k _ _ ⟨h0, h1⟩ (by omega), O.bind_ok]
          have hn := nrm_lo (n := v + (bt s ((2 * i : Nat) : Int) * 256)) (by omega)
          rw [ih (i + 1) _ (by omega) hn.1 hn.2, nrm_add (by omega) (tot_nonneg _), tot_drop1 _ (2 * i) (by omega), bt_at s (2 * i) (by omega), List.drop_eq_nil_of_le (by omega : s.data.toList.length ≤ 2 * (i + 1)), show tot [] = 0 from rfl, Int.add_zero]
      · rw [O.cond_neg (by omega), List.drop_eq_nil_of_le (by omega), u16_in _ ⟨h0, h1⟩, show tot [] = 0 from rfl, Int.add_zero, nrm_self ⟨h0, h1⟩]
  obtain ⟨j, rfl⟩ : ∃ j, k = j + 1 := ⟨k - 1, by omega⟩
  show F_aqueductref02_On.l0 (j + 1) s (j + 1) (IntKind.i64.wrap a) 0 = _
  rw [i64_in a (by omega)]
  exact lp j 0 a (by omega) ha.1 ha.2
theorem Sum_S (k : Nat) (s : ByteArray) (hs : s.size ≤ 140737488351232) (hk : s.size + 4 ≤ k) : F_csum_Sum.S k s = .ok (65535 - nrm (tot s.data.toList)) := by
  have h := nrm_lo (tot_nonneg s.data.toList)
  unfold F_csum_Sum.S
  rw [On_S k 0 s (by omega) hs hk, O.bind_ok, Int.zero_add, u16_in _ (by omega)]
theorem rSum_S (k : Nat) (s : ByteArray) (hs : s.size ≤ 140737488351232) (hk : s.size + 4 ≤ k) : F_aqueductref02_Sum.S k s = .ok (65535 - nrm (tot s.data.toList)) := by
  have h := nrm_lo (tot_nonneg s.data.toList)
  unfold F_aqueductref02_Sum.S
  rw [rOn_S k 0 s (by omega) hs hk, O.bind_ok, Int.zero_add, i64_in (nrm _) (by omega), i64_in _ (by omega), u16_in _ (by omega)]
end Go.Proofs.Ytojomdlccjlioaa
