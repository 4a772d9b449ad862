/- What the functions of csum, and the document's, come to: sums of words, brought to 1 .. 65535. -/
import Derived.Test.YtmpmdfgjejkaiaaBS0
import Derived.Test.YtmpmdfgjejkaiaaV14
namespace Go.Proofs.Ytmpmdfgjejkaiaa
open Go.Aq Go.IntWalk
set_option linter.unusedVariables false

/-- A sum of words, brought to one of sixteen bits. -/
def nrm (n : Int) : Int := if n = 0 then 0 else (n - 1) % 65535 + 1
theorem nrm_lo {n : Int} (h : 0 ≤ n) : 0 ≤ nrm n ∧ nrm n ≤ 65535 := by unfold nrm; split <;> omega
theorem nrm_zero {n : Int} (h : 0 ≤ n) : nrm n = 0 ↔ n = 0 := by unfold nrm; split <;> omega
theorem nrm_mod {n : Int} : (nrm n - n) % 65535 = 0 := by unfold nrm; split <;> omega
theorem nrm_add {n m : Int} (hn : 0 ≤ n) (hm : 0 ≤ m) : nrm (nrm n + m) = nrm (n + m) := by unfold nrm; split <;> split <;> split <;> omega
theorem nrm_self {n : Int} (h : 0 ≤ n ∧ n ≤ 65535) : nrm n = n := by unfold nrm; split <;> omega
/-- Sums that differ by so many times 65535, and are both nought or neither. -/
theorem nrm_congr {n m : Int} (hn : 0 ≤ n) (hm : 0 ≤ m) (h : (n - m) % 65535 = 0) (hz : n = 0 ↔ m = 0) : nrm n = nrm m := by unfold nrm; split <;> split <;> omega
theorem nrm_ones {a b : Int} (ha : 0 ≤ a ∧ a ≤ 65535) (hb : 0 ≤ b ∧ b ≤ 65535) : (if a + b ≥ 65536 then a + b - 65536 + 1 else a + b) = nrm (a + b) := by unfold nrm; split <;> split <;> omega

/-- The sum of a text's words. -/
def tot : List UInt8 → Int
  | [] => 0
  | [x] => (x.toNat : Int) * 256
  | x :: y :: r => (x.toNat : Int) * 256 + (y.toNat : Int) + tot r
theorem tot_nonneg : ∀ l, 0 ≤ tot l
  | [] => by simp [tot]
  | [x] => by simp [tot]; omega
  | x :: y :: r => by have := tot_nonneg r; simp [tot]; omega

theorem fold_S (k : Nat) (hk : 3 ≤ k) (n : Int) (h : 0 ≤ n ∧ n ≤ 4294967295) : F_csum_fold.S k n = .ok (nrm n) := by
  have st : ∀ j (v : Int), 0 ≤ v → v ≤ 4294967295 → F_csum_fold.l0 k (j + 1) v = if v > 65535 then F_csum_fold.l0 k j (v % 65536 + v / 65536) else .ok v := by
    intro j v h0 h1
    have a1 : bAnd .u32 v 65535 = v % 65536 := by
      have := bAnd_mask .u32 v 16 h0 (by rw [bits32]; omega) (by decide)
      rw [show ((2 : Int) ^ 16 - 1) = 65535 from rfl, show ((2 : Int) ^ 16) = 65536 from rfl] at this
      rw [this, u32_in]; omega
    have a2 : shR .u32 v 16 = v / 65536 := shR_eq .u32 v 16 (by decide)
    show F_csum_fold.l0_b k _ v = _
    unfold F_csum_fold.l0_b
    rw [a1, a2, O.cond_dec]
    split
    · rw [u32_in _ (by omega)]
    · rw [u16_in _ (by omega)]
  obtain ⟨j, rfl⟩ : ∃ j, k = j + 3 := ⟨k - 3, by omega⟩
  show F_csum_fold.l0 (j + 3) (j + 2 + 1) n = _
  rw [st _ _ h.1 h.2]
  split
  · rw [st _ _ (by omega) (by omega)]
    split
    · rw [st _ _ (by omega) (by omega)]
      split
      · omega
      · unfold nrm; congr 1; split <;> omega
    · unfold nrm; congr 1; split <;> omega
  · rw [nrm_self (by omega)]

/-- A text's word, as the code reads it. -/
theorem word_u32 (a b : Int) (ha : 0 ≤ a ∧ a ≤ 255) (hb : 0 ≤ b ∧ b ≤ 255) : bOr .u32 (shL .u32 (IntKind.u32.wrap a) 8) (IntKind.u32.wrap b) = a * 256 + b := by
  have s8 : shL .u32 a 8 = IntKind.u32.wrap (a * 2 ^ 8) := shL_eq .u32 a 8 (by decide)
  rw [u32_in a (by omega), u32_in b (by omega), s8, show ((2 : Int) ^ 8) = 256 from rfl, u32_in _ (by omega)]
  have := bOr_join .u32 a b 8 ha.1 hb.1 (by omega) (by rw [bits32]; omega) (by decide)
  rw [show ((2 : Int) ^ 8) = 256 from rfl] at this
  rw [this, u32_in _ (by omega)]
theorem shl_u32 (a : Int) (ha : 0 ≤ a ∧ a ≤ 255) : shL .u32 (IntKind.u32.wrap a) 8 = a * 256 := by
  have s8 : shL .u32 a 8 = IntKind.u32.wrap (a * 2 ^ 8) := shL_eq .u32 a 8 (by decide)
  rw [u32_in a (by omega), s8, show ((2 : Int) ^ 8) = 256 from rfl, u32_in _ (by omega)]

theorem bt_at (s : ByteArray) (i : Nat) (h : i < s.data.toList.length) : bt s (i : Int) = ((s.data.toList[i]'h).toNat : Int) := by
  unfold bt; rw [Int.toNat_natCast, List.getD_eq_getElem?_getD, List.getElem?_eq_getElem h]; rfl
theorem size_list (s : ByteArray) : s.size = s.data.toList.length := Array.length_toList.symm
theorem tot_drop2 (l : List UInt8) (i : Nat) (h : i + 1 < l.length) : tot (l.drop i) = ((l[i]'(by omega)).toNat : Int) * 256 + ((l[i + 1]'h).toNat : Int) + tot (l.drop (i + 2)) := by
  rw [List.drop_eq_getElem_cons (by omega : i < l.length), List.drop_eq_getElem_cons h]; rfl
theorem tot_drop1 (l : List UInt8) (i : Nat) (h : i + 1 = l.length) : tot (l.drop i) = ((l[i]'(by omega)).toNat : Int) * 256 := by
  rw [List.drop_eq_getElem_cons (by omega : i < l.length), List.drop_eq_nil_of_le (by omega)]; rfl

theorem On_S (k : Nat) (a : Int) (s : ByteArray) (ha : 0 ≤ a ∧ a ≤ 65535) (hs : s.size ≤ 140737488351232) (hk : s.size + 4 ≤ k) : F_csum_On.S k a s = .ok (nrm (a + tot s.data.toList)) := by
  have hl := size_list s
  have lp : ∀ (m i : Nat) (v : Int), 2 * i + 2 * m ≥ s.size → 0 ≤ v → v ≤ 65535 → 2 * i ≤ s.size → F_csum_On.l0 k s (m + 1) (i : Int) v = .ok (nrm (v + tot (s.data.toList.drop (2 * i)))) := by
    intro m
    induction m with
    | zero =>
      intro i v hm h0 h1 hi
      have hi' : 2 * i = s.size := by omega
      show F_csum_On.l0_b k s _ _ _ = _
      unfold F_csum_On.l0_b
      rw [O.cond_neg (by rw [quo_in _ 2 (by omega), i64_in _ (by omega)]; omega), O.cond_neg (by rw [rem_in _ _ (by omega)]; omega), List.drop_eq_nil_of_le (by omega)]
      rw [show tot [] = 0 from rfl, Int.add_zero, nrm_self ⟨h0, h1⟩]
    | succ m ih =>
      intro i v hm h0 h1 hi
      show F_csum_On.l0_b k s _ _ _ = _
      unfold F_csum_On.l0_b
      rw [quo_in _ 2 (by omega), i64_in (_ / 2) (by omega), rem_in _ _ (by omega)]
      by_cases hlt : 2 * i + 1 < s.size
      · have e1 : IntKind.i64.wrap (2 * (i : Int)) = ((2 * i : Nat) : Int) := by rw [i64_in _ (by omega)]; push_cast; rfl
        have e2 : IntKind.i64.wrap (((2 * i : Nat) : Int) + 1) = ((2 * i + 1 : Nat) : Int) := by rw [i64_in _ (by omega)]; push_cast; rfl
        have e3 : IntKind.i64.wrap ((i : Int) + 1) = ((i + 1 : Nat) : Int) := by rw [i64_in _ (by omega)]; push_cast; rfl
        have b1 := bt_lo s ((2 * i : Nat) : Int); have b2 := bt_hi s ((2 * i : Nat) : Int); have b3 := bt_lo s ((2 * i + 1 : Nat) : Int); have b4 := bt_hi s ((2 * i + 1 : Nat) : Int)
        rw [O.cond_pos (by omega), e1, e2, e3, O.chk_dec (by omega), O.chk_dec (by omega), word_u32 _ _ ⟨b1, b2⟩ ⟨b3, b4⟩, u32_in v (by omega), u32_in _ (by omega), fold_S k (by omega) _ (by omega), O.bind_ok]
        have hn := nrm_lo (n := v + (bt s ((2 * i : Nat) : Int) * 256 + bt s ((2 * i + 1 : Nat) : Int))) (by omega)
        rw [ih (i + 1) _ (by omega) hn.1 hn.2 (by omega), nrm_add (by omega) (tot_nonneg _), tot_drop2 _ (2 * i) (by omega), bt_at s (2 * i) (by omega), bt_at s (2 * i + 1) (by omega)]
        congr 2
        rw [show 2 * (i + 1) = 2 * i + 2 from by omega]; omega
      · rw [O.cond_neg (by omega)]
        by_cases ho : 2 * i + 1 = s.size
        · have b1 := bt_lo s ((2 * i : Nat) : Int); have b2 := bt_hi s ((2 * i : Nat) : Int)
          have e1 : IntKind.i64.wrap ((s.size : Int) - 1) = ((2 * i : Nat) : Int) := by rw [i64_in _ (by omega)]; omega
          rw [O.cond_pos (by omega), e1, O.chk_dec (by omega), shl_u32 _ ⟨b1, b2⟩, u32_in v (by omega), u32_in _ (by omega), fold_S k (by omega) _ (by omega), O.bind_ok, tot_drop1 _ (2 * i) (by omega), bt_at s (2 * i) (by omega)]
        · rw [O.cond_neg (by omega), List.drop_eq_nil_of_le (by omega), show tot [] = 0 from rfl, Int.add_zero, nrm_self ⟨h0, h1⟩]
  obtain ⟨j, rfl⟩ : ∃ j, k = j + 1 := ⟨k - 1, by omega⟩
  exact lp j 0 a (by omega) ha.1 ha.2 (by omega)

theorem rOnes_S (k : Nat) (a b : Int) (ha : 0 ≤ a ∧ a ≤ 65535) (hb : 0 ≤ b ∧ b ≤ 65535) : F_aqueductref02_Ones.S k a b = .ok (nrm (a + b)) := by
  unfold F_aqueductref02_Ones.S
  rw [i64_in (a + b) (by omega), i64_in _ (by rw [i64_in _ (by omega)]; omega), i64_in _ (by omega), O.cond_dec, ← nrm_ones ha hb]
  split <;> rfl
theorem rOn_S (k : Nat) (a : Int) (s : ByteArray) (ha : 0 ≤ a ∧ a ≤ 65535) (hs : s.size ≤ 140737488351232) (hk : s.size + 4 ≤ k) : F_aqueductref02_On.S k a s = .ok (nrm (a + tot s.data.toList)) := by
  have hl := size_list s
  have lp : ∀ (m i : Nat) (v : Int), 2 * i + 2 * m ≥ s.size → 0 ≤ v → v ≤ 65535 → F_aqueductref02_On.l0 k s (m + 1) v ((2 * i : Nat) : Int) = .ok (nrm (v + tot (s.data.toList.drop (2 * i)))) := by
    intro m
    induction m with
    | zero =>
      intro i v hm h0 h1
      show F_aqueductref02_On.l0_b k s _ _ _ = _
      unfold F_aqueductref02_On.l0_b
      rw [O.cond_neg (by omega), List.drop_eq_nil_of_le (by omega), u16_in _ ⟨h0, h1⟩]
      rw [show tot [] = 0 from rfl, Int.add_zero, nrm_self ⟨h0, h1⟩]
    | succ m ih =>
      intro i v hm h0 h1
      show F_aqueductref02_On.l0_b k s _ _ _ = _
      unfold F_aqueductref02_On.l0_b
      by_cases hlt : 2 * i < s.size
      · rw [O.cond_pos (by omega), O.chk_dec (by omega)]
        have hi : 2 * i < 140737488351232 := by omega
        have e2 : IntKind.i64.wrap (((2 * i : Nat) : Int) + 1) = ((2 * i + 1 : Nat) : Int) := by rw [i64_in _ (by omega)]; push_cast; rfl
        have e3 : IntKind.i64.wrap (((2 * i : Nat) : Int) + 2) = ((2 * (i + 1) : Nat) : Int) := by rw [i64_in _ (by omega)]; push_cast; omega
        have b1 := bt_lo s ((2 * i : Nat) : Int); have b2 := bt_hi s ((2 * i : Nat) : Int); have b3 := bt_lo s ((2 * i + 1 : Nat) : Int); have b4 := bt_hi s ((2 * i + 1 : Nat) : Int)
        rw [e2, e3, i64_in (bt s _) (by omega), i64_in (bt s ((2 * i + 1 : Nat) : Int)) (by omega), i64_in (_ * _) (by omega), i64_in (_ + _) (by omega)]
        by_cases h2 : 2 * i + 1 < s.size
        · rw [O.cond_pos (by omega), O.chk_dec (by omega), rOnes_S k _ _ ⟨h0, h1⟩ (by omega), O.bind_ok]
          have hn := nrm_lo (n := v + (bt s ((2 * i : Nat) : Int) * 256 + bt s ((2 * i + 1 : Nat) : Int))) (by omega)
          rw [ih (i + 1) _ (by omega) hn.1 hn.2, nrm_add (by omega) (tot_nonneg _), tot_drop2 _ (2 * i) (by omega), bt_at s (2 * i) (by omega), bt_at s (2 * i + 1) (by omega)]
          congr 2
          rw [show 2 * (i + 1) = 2 * i + 2 from by omega]; omega
        · rw [O.cond_neg (by omega), rOnes_S k _ _ ⟨h0, h1⟩ (by omega), O.bind_ok]
          have hn := nrm_lo (n := v + (bt s ((2 * i : Nat) : Int) * 256)) (by omega)
          rw [ih (i + 1) _ (by omega) hn.1 hn.2, nrm_add (by omega) (tot_nonneg _), tot_drop1 _ (2 * i) (by omega), bt_at s (2 * i) (by omega), List.drop_eq_nil_of_le (by omega : s.data.toList.length ≤ 2 * (i + 1)), show tot [] = 0 from rfl, Int.add_zero]
      · rw [O.cond_neg (by omega), List.drop_eq_nil_of_le (by omega), u16_in _ ⟨h0, h1⟩, show tot [] = 0 from rfl, Int.add_zero, nrm_self ⟨h0, h1⟩]
  obtain ⟨j, rfl⟩ : ∃ j, k = j + 1 := ⟨k - 1, by omega⟩
  show F_aqueductref02_On.l0 (j + 1) s (j + 1) (IntKind.i64.wrap a) 0 = _
  rw [i64_in a (by omega)]
  exact lp j 0 a (by omega) ha.1 ha.2

theorem Sum_S (k : Nat) (s : ByteArray) (hs : s.size ≤ 140737488351232) (hk : s.size + 4 ≤ k) : F_csum_Sum.S k s = .ok (65535 - nrm (tot s.data.toList)) := by
  have h := nrm_lo (tot_nonneg s.data.toList)
  unfold F_csum_Sum.S
  rw [On_S k 0 s (by omega) hs hk, O.bind_ok, Int.zero_add, u16_in _ (by omega)]
theorem Right_S (k : Nat) (s : ByteArray) (hs : s.size ≤ 140737488351232) (hk : s.size + 4 ≤ k) : F_csum_Right.S k s = .ok (decide (nrm (tot s.data.toList) = 65535)) := by
  unfold F_csum_Right.S
  rw [On_S k 0 s (by omega) hs hk, O.bind_ok, Int.zero_add]
theorem rSum_S (k : Nat) (s : ByteArray) (hs : s.size ≤ 140737488351232) (hk : s.size + 4 ≤ k) : F_aqueductref02_Sum.S k s = .ok (65535 - nrm (tot s.data.toList)) := by
  have h := nrm_lo (tot_nonneg s.data.toList)
  unfold F_aqueductref02_Sum.S
  rw [rOn_S k 0 s (by omega) hs hk, O.bind_ok, Int.zero_add, i64_in (nrm _) (by omega), i64_in _ (by omega), u16_in _ (by omega)]
/-- What a sum is when a word was another one. -/
def upd (a b c : Int) : Int := 65535 - nrm (nrm (65535 - a + (65535 - b)) + c)
theorem Update_S (k : Nat) (hk : 3 ≤ k) (a b c : Int) (ha : 0 ≤ a ∧ a ≤ 65535) (hb : 0 ≤ b ∧ b ≤ 65535) (hc : 0 ≤ c ∧ c ≤ 65535) : F_csum_Update.S k a b c = .ok (upd a b c) := by
  unfold F_csum_Update.S
  have h := nrm_lo (n := 65535 - a + (65535 - b)) (by omega)
  have h2 := nrm_lo (n := nrm (65535 - a + (65535 - b)) + c) (by omega)
  rw [u16_in (65535 - a) (by omega), u16_in (65535 - b) (by omega), u32_in (65535 - a) (by omega), u32_in (65535 - b) (by omega), u32_in _ (by omega), fold_S k hk _ (by omega), O.bind_ok, u32_in (nrm _) (by omega), u32_in c (by omega), u32_in _ (by omega), fold_S k hk _ (by omega), O.bind_ok, u16_in _ (by omega)]
  rfl
theorem rUpdate_S (k : Nat) (a b c : Int) (ha : 0 ≤ a ∧ a ≤ 65535) (hb : 0 ≤ b ∧ b ≤ 65535) (hc : 0 ≤ c ∧ c ≤ 65535) : F_aqueductref02_Update.S k a b c = .ok (upd a b c) := by
  unfold F_aqueductref02_Update.S
  have h := nrm_lo (n := 65535 - a + (65535 - b)) (by omega)
  have h2 := nrm_lo (n := nrm (65535 - a + (65535 - b)) + c) (by omega)
  rw [i64_in a (by omega), i64_in b (by omega), i64_in c (by omega), i64_in (65535 - a) (by omega), i64_in (65535 - b) (by omega), rOnes_S k _ _ (by omega) (by omega), O.bind_ok, rOnes_S k _ _ (by omega) (by omega), O.bind_ok, i64_in _ (by omega), u16_in _ (by omega)]
  rfl
/-- The sum of two texts. -/
def swp (b : Int) : Int := b % 256 * 256 + b / 256
def jn (a b n : Int) : Int := nrm (a + if n.tmod 2 ≠ 0 then swp b else b)
theorem swap_u16 (b : Int) (hb : 0 ≤ b ∧ b ≤ 65535) : bOr .u16 (shL .u16 b 8) (shR .u16 b 8) = swp b := by
  have s8 : shL .u16 b 8 = IntKind.u16.wrap (b * 2 ^ 8) := shL_eq .u16 b 8 (by decide)
  have r8 : shR .u16 b 8 = b / 2 ^ 8 := shR_eq .u16 b 8 (by decide)
  have := bOr_join .u16 (b % 256) (b / 256) 8 (by omega) (by omega) (by omega) (by rw [bits16]; omega) (by decide)
  rw [show ((2 : Int) ^ 8) = 256 from rfl] at s8 r8 this
  rw [s8, r8, IntKind.wrap_u16, show b * 256 % 65536 = b % 256 * 256 from by omega, this, u16_in _ (by omega)]
  rfl
theorem Join_S (k : Nat) (hk : 3 ≤ k) (a b n : Int) (ha : 0 ≤ a ∧ a ≤ 65535) (hb : 0 ≤ b ∧ b ≤ 65535) : F_csum_Join.S k a b n = .ok (jn a b n) := by
  unfold F_csum_Join.S jn
  have hw : 0 ≤ swp b ∧ swp b ≤ 65535 := by unfold swp; omega
  rw [swap_u16 b hb, u32_in a (by omega), u32_in b (by omega), u32_in (swp b) (by omega), u32_in _ (by omega), u32_in _ (by omega), O.cond_dec]
  split
  · rw [fold_S k hk _ (by omega), O.bind_ok]
  · rw [fold_S k hk _ (by omega), O.bind_ok]
theorem rJoin_S (k : Nat) (a b n : Int) (ha : 0 ≤ a ∧ a ≤ 65535) (hb : 0 ≤ b ∧ b ≤ 65535) : F_aqueductref02_Join.S k a b n = .ok (jn a b n) := by
  unfold F_aqueductref02_Join.S jn
  have hw : 0 ≤ swp b ∧ swp b ≤ 65535 := by unfold swp; omega
  have e : Int.tdiv b 256 = b / 256 := Int.tdiv_eq_ediv_of_nonneg hb.1
  rw [i64_in a (by omega), i64_in b (by omega), rem_in b 256 hb.1, e, i64_in (b % 256 * 256) (by omega), i64_in (b / 256) (by omega), i64_in (_ + _) (by omega), O.cond_dec]
  have h1 := nrm_lo (n := a + swp b) (by omega)
  have h2 := nrm_lo (n := a + b) (by omega)
  split
  · show O.bind (F_aqueductref02_Ones.S k a (swp b)) _ = _
    rw [rOnes_S k _ _ ha hw, O.bind_ok, u16_in _ (by omega)]
  · rw [rOnes_S k _ _ ha hb, O.bind_ok, u16_in _ (by omega)]
theorem fixed_S (k : Nat) (hk : 20 ≤ k) : F_aqueductlaw02_fixed.S k = .ok true := by
  have s8 : (⟨#[0, 1, 242, 3, 244, 245, 246, 247]⟩ : ByteArray).size = 8 := rfl
  have s10 : (⟨#[0, 1, 242, 3, 244, 245, 246, 247]⟩ ++ ⟨#[34, 13]⟩ : ByteArray) = ⟨#[0, 1, 242, 3, 244, 245, 246, 247, 34, 13]⟩ := by decide
  have s1 : (⟨#[97]⟩ : ByteArray).size = 1 := rfl
  unfold F_aqueductlaw02_fixed.S
  rw [s10, On_S k _ _ (by decide) (by decide) (by rw [s8]; omega), On_S k _ _ (by decide) (by decide) (by rw [s1]; omega), Sum_S k _ (by decide) (by rw [s8]; omega), Right_S k _ (by decide) (by show 10 + 4 ≤ k; omega), Right_S k _ (by decide) (by rw [s8]; omega), Update_S k (by omega) _ _ _ (by decide) (by decide) (by decide), Join_S k (by omega) _ _ _ (by decide) (by decide)]
  simp only [O.bind_ok, O.cond_eq, O.chk_eq]
  show _ = O.ok true
  kernel_rfl
/-! ### Texts one behind the other -/
theorem tot_even : ∀ (l m : List UInt8), l.length % 2 = 0 → tot (l ++ m) = tot l + tot m
  | [], m, _ => by simp [tot]
  | [x], m, h => by simp at h
  | x :: y :: r, m, h => by
    have := tot_even r m (by simp at h; omega)
    simp only [List.cons_append, tot, this]; omega
/-- The sum of a text that begins at an odd place. -/
def oth : List UInt8 → Int
  | [] => 0
  | x :: r => (x.toNat : Int) + tot r
theorem tot_cons (x : UInt8) : ∀ r : List UInt8, tot (x :: r) = (x.toNat : Int) * 256 + oth r
  | [] => by simp [tot, oth]
  | y :: r => by simp only [tot, oth]; omega
theorem tot_odd : ∀ (l m : List UInt8), l.length % 2 = 1 → tot (l ++ m) = tot l + oth m
  | [], m, h => by simp at h
  | [x], m, _ => by rw [List.singleton_append, tot_cons, tot]
  | x :: y :: r, m, h => by
    have := tot_odd r m (by simp at h; omega)
    simp only [List.cons_append, tot, this]; omega
theorem oth_nonneg : ∀ l, 0 ≤ oth l
  | [] => by simp [oth]
  | x :: r => by have := tot_nonneg r; simp only [oth]; omega
theorem oth_tot : ∀ l, (256 * oth l - tot l) % 65535 = 0 ∧ (oth l = 0 ↔ tot l = 0)
  | [] => by simp [tot, oth]
  | [x] => by simp only [tot, oth]; omega
  | x :: y :: r => by
    have h := oth_tot r
    have h0 := oth_nonneg r
    have h1 := tot_nonneg r
    have e : oth (x :: y :: r) = (x.toNat : Int) + ((y.toNat : Int) * 256 + oth r) := by show (x.toNat : Int) + tot (y :: r) = _; rw [tot_cons]
    rw [e, tot]
    omega
theorem swp_nrm (l : List UInt8) : (swp (nrm (tot l)) - oth l) % 65535 = 0 ∧ (swp (nrm (tot l)) = 0 ↔ oth l = 0) ∧ 0 ≤ swp (nrm (tot l)) := by
  have h := oth_tot l
  have h0 := oth_nonneg l
  have h1 := tot_nonneg l
  have h2 := nrm_lo h1
  have h3 := nrm_mod (n := tot l)
  have h4 := nrm_zero h1
  generalize nrm (tot l) = b at *
  unfold swp
  omega
/-- Joined sums of two texts are that of both. -/
theorem jn_tot (l m : List UInt8) (n : Int) (hn : n = (l.length : Int)) : jn (nrm (tot l)) (nrm (tot m)) n = nrm (tot (l ++ m)) := by
  have a0 := tot_nonneg l; have b0 := tot_nonneg m; have c0 := oth_nonneg m
  have a1 := nrm_lo a0; have b1 := nrm_lo b0
  subst hn
  unfold jn
  rw [rem_in _ 2 (by omega)]
  by_cases h : l.length % 2 = 0
  · rw [if_neg (by omega), tot_even l m h, nrm_add a0 (by omega), Int.add_comm, nrm_add b0 a0, Int.add_comm]
  · have w := swp_nrm m
    rw [if_pos (by omega), tot_odd l m (by omega), nrm_add a0 (by omega)]
    exact nrm_congr (by omega) (by omega) (by omega) (by omega)
theorem app_list (a b : ByteArray) : (a ++ b).data.toList = a.data.toList ++ b.data.toList := by simp
theorem app_size (a b : ByteArray) : (a ++ b).size = a.size + b.size := by rw [size_list, app_list, List.length_append, ← size_list, ← size_list]
theorem bAnd_lo (a : Int) : 0 ≤ bAnd .i64 a 65535 ∧ bAnd .i64 a 65535 ≤ 65535 := by
  have h : (BitVec.ofInt 64 a &&& BitVec.ofInt 64 65535).toNat ≤ 65535 := by
    rw [BitVec.toNat_and]; exact Nat.and_le_right
  unfold bAnd
  rw [show IntKind.i64.bits = 64 from rfl, i64_in _ (by omega)]
  omega
theorem word_u16 (a b : Int) (ha : 0 ≤ a ∧ a ≤ 255) (hb : 0 ≤ b ∧ b ≤ 255) : bOr .u16 (shL .u16 (IntKind.u16.wrap a) 8) (IntKind.u16.wrap b) = a * 256 + b := by
  have s8 : shL .u16 a 8 = IntKind.u16.wrap (a * 2 ^ 8) := shL_eq .u16 a 8 (by decide)
  rw [u16_in a (by omega), u16_in b (by omega), s8, show ((2 : Int) ^ 8) = 256 from rfl, u16_in _ (by omega)]
  have := bOr_join .u16 a b 8 ha.1 hb.1 (by omega) (by rw [bits16]; omega) (by decide)
  rw [show ((2 : Int) ^ 8) = 256 from rfl] at this
  rw [this, u16_in _ (by omega)]
theorem ext_list (s : ByteArray) (i j : Nat) : (s.extract i j).data.toList = (s.data.toList.drop i).take (j - i) := by
  simp [List.extract]
theorem ext_size (s : ByteArray) (i j : Nat) : (s.extract i j).size = min j s.size - i := ByteArray.size_extract
/-- A text cut at an even number of bytes. -/
theorem evenCut (a : ByteArray) (h : a.size ≤ 140737488351232) : ∃ m : Nat, IntKind.i64.wrap (IntKind.i64.wrap (Int.tdiv (min (ByteArray.size a : Int) 1000) 2) * 2) = ((2 * m : Nat) : Int) ∧ 2 * m ≤ a.size ∧ m ≤ 500 := by
  rw [quo_in _ 2 (by omega), i64_in (_ / 2) (by omega), i64_in _ (by omega)]
  exact ⟨(min a.size 1000) / 2, by omega, by omega, by omega⟩
theorem word_list (a : Int) (h : 0 ≤ a ∧ a ≤ 65535) : (strOf [IntKind.u8.wrap (shR .u16 a 8), IntKind.u8.wrap a]).data.toList = [UInt8.ofNat (a / 256).toNat, UInt8.ofNat (a % 256).toNat] := by
  have r8 : shR .u16 a 8 = a / 2 ^ 8 := shR_eq .u16 a 8 (by decide)
  rw [r8, show ((2 : Int) ^ 8) = 256 from rfl, u8_in (a / 256) (by omega), IntKind.wrap_u8]
  rfl
theorem word_tot (a : Int) (h : 0 ≤ a ∧ a ≤ 65535) (l : List UInt8) : tot (UInt8.ofNat (a / 256).toNat :: UInt8.ofNat (a % 256).toNat :: l) = a + tot l := by
  simp only [tot, UInt8.toNat_ofNat']
  omega
theorem word_size (a : Int) (h : 0 ≤ a ∧ a ≤ 65535) : (strOf [IntKind.u8.wrap (shR .u16 a 8), IntKind.u8.wrap a]).size = 2 := by rw [size_list, word_list a h]; rfl
theorem word_tot1 (a : Int) (h : 0 ≤ a ∧ a ≤ 65535) : tot (strOf [IntKind.u8.wrap (shR .u16 a 8), IntKind.u8.wrap a]).data.toList = a := by
  rw [word_list a h, word_tot a h]; simp [tot]
end Go.Proofs.Ytmpmdfgjejkaiaa
