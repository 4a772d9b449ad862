/- Texts of this proof, joined (18 of them): BPW, BPP, BPM, BPULa, BP15a, BP15b, BP15c, BP15d, BTW, BP15f, BP15e, BP15h, BP15g, BP15i, BP15k, BP15l, BP15m, BP15n.
   Conditions: none but those that stand at each theorem. -/
import Derived.Test.YtpfddjdkafjjfaaBM6
import Derived.Test.YtpfddjdkafjjfaaE5
section
namespace Go.Proofs.Ytpfddjdkafjjfaa
open Go.Aq Go.IntWalk
set_option linter.unusedVariables false
end Go.Proofs.Ytpfddjdkafjjfaa
end
section
namespace Go.Proofs.Ytpfddjdkafjjfaa
open Go.Aq Go.IntWalk
set_option linter.unusedVariables false
theorem pow56 (o : Nat) (h : o ≤ 7) : (256 : Int) ^ o ≤ 2 ^ 56 := by
 rw [show (256 : Int) = 2 ^ 8 from rfl, ← Int.pow_mul]
 exact_mod_cast Nat.pow_le_pow_right (by decide) (by omega : 8 * o ≤ 56)
def bl (s : ByteArray) (e : Nat) : Nat → Int
 | 0 => 0
 | o + 1 => bl s e o * 256 + bt s ((e - 1 - o : Nat) : Int)
theorem bl_lo (s : ByteArray) (e : Nat) : ∀ n, 0 ≤ bl s e n ∧ bl s e n < 256 ^ n
 | 0 => by simp [bl]
 | n + 1 => by
  have := bl_lo s e n; have h1 := bt_lo s ((e - 1 - n : Nat) : Int); have h2 := bt_hi s ((e - 1 - n : Nat) : Int)
  unfold bl
  rw [Int.pow_succ]
  omega
def revT (s : ByteArray) : ByteArray := ⟨s.data.toList.reverse.toArray⟩
theorem revT_size (s : ByteArray) : (revT s).size = s.size := by rw [size_list, size_list]; simp [revT]
theorem bt_rev (s : ByteArray) (i : Nat) (h : i < s.size) : bt (revT s) (i : Int) = bt s ((s.size - 1 - i : Nat) : Int) := by
 rw [size_list] at h ⊢
 have h1 : i < (revT s).data.toList.length := by simp [revT] at h ⊢; exact h
 rw [bt_at _ i h1, bt_at s _ (by omega)]
 simp [revT, List.getElem_reverse]
theorem be_rev (s : ByteArray) : ∀ n, n ≤ s.size → be (revT s) 0 n = bl s s.size n
 | 0, _ => rfl
 | n + 1, h => by
  unfold be bl
  rw [be_rev s n (by omega), Nat.zero_add, bt_rev s n (by omega)]
theorem bl_ext (s : ByteArray) (i j : Nat) (hj : j ≤ s.size) : ∀ n, n ≤ j - i → bl (s.extract i j) (j - i) n = bl s j n
 | 0, _ => rfl
 | n + 1, h => by
  unfold bl
  rw [bl_ext s i j hj n (by omega), bt_ext s i j _ (by omega)]
  congr 3; omega
theorem Turn_S (k : Nat) (s : ByteArray) (hs : s.size ≤ 1073741824) (hk : s.size + 1 ≤ k) : F_words_Turn.S k s = .ok (revT s) := by
 have lp : ∀ (m i j : Nat), i + m = s.size → m < j → ∀ L : List Int, L.length = s.size → L.drop (s.size - i) = ((s.data.toList.take i).reverse.map fun c => (c.toNat : Int)) →
   F_words_Turn.l0 k s j (i : Int) L = .ok (revT s) := by
  intro m
  induction m with
  | zero =>
   intro i j hi hj L hl hd
   obtain ⟨j, rfl⟩ : ∃ i, j = i + 1 := ⟨j - 1, by omega⟩
   show F_words_Turn.l0_b k s _ _ _ = _
   unfold F_words_Turn.l0_b
   rw [O.cond_neg (by omega)]
   congr 1
   rw [show s.size - i = 0 from by omega, List.drop_zero, List.take_of_length_le (by rw [← size_list]; omega)] at hd
   rw [hd]
   apply list_eq
   show (List.map _ (List.map _ _)) = _
   rw [List.map_map]
   show _ = s.data.toList.reverse
   conv => rhs; rw [← List.map_id s.data.toList.reverse]
   apply List.map_congr_left
   intro c _
   show UInt8.ofNat ((c.toNat : Int)).toNat = c
   simp
  | succ m ih =>
   intro i j hi hj L hl hd
   obtain ⟨j, rfl⟩ : ∃ i, j = i + 1 := ⟨j - 1, by omega⟩
   show F_words_Turn.l0_b k s _ _ _ = _
   unfold F_words_Turn.l0_b
   have e1 : IntKind.i64.wrap (IntKind.i64.wrap ((s.size : Int) - 1) - (i : Int)) = ((s.size - 1 - i : Nat) : Int) := by
    rw [i64_in ((s.size : Int) - 1) (by omega), i64_in _ (by omega)]; omega
   rw [O.cond_pos (by omega), O.chk_dec (by omega), e1, O.chk_dec (by omega), O.chk_dec (by omega), i64_in _ (by omega)]
   refine ih (i + 1) j (by omega) (by omega) _ (by simp [su, hl]) ?_
   have hi' : i < s.data.toList.length := by rw [← size_list]; omega
   unfold su
   rw [Int.toNat_natCast, show s.size - (i + 1) = s.size - 1 - i from by omega, List.drop_eq_getElem_cons (by simp [hl]; omega), List.getElem_set_self, List.drop_set_of_lt (by omega), show s.size - 1 - i + 1 = s.size - i from by omega, hd]
   rw [List.take_succ_eq_append_getElem hi', List.reverse_append, bt_at s i hi']
   rfl
 unfold F_words_Turn.S F_words_Turn.top
 rw [O.chk_dec (by omega), Int.toNat_natCast]
 exact lp s.size 0 k (by omega) (by omega) _ (by simp) (by rw [Nat.sub_zero, List.drop_of_length_le (by simp)]; rfl)
theorem GetL_S (k : Nat) (hk : 9 ≤ k) (s : ByteArray) (hs : s.size ≤ 140737488351232) (i n : Nat) (hn : 1 ≤ n ∧ n ≤ 8) (hi : i ≤ 140737488351232) : F_words_Get.S k s (i : Int) (n : Int) false = .ok (if i + n ≤ s.size then (bl s (i + n) n, 0) else (0, 10)) := by
 have lp : i + n ≤ s.size → ∀ (m o j : Nat), o + m = n → m < j → F_words_Get.l0 k (n : Int) (revT (s.extract i (i + n))) j (be (revT (s.extract i (i + n))) 0 o) (o : Int) = .ok (bl s (i + n) n, 0) := by
  intro hin m
  have sz : (s.extract i (i + n)).size = n := by rw [ext_size]; omega
  induction m with
  | zero =>
   intro o j ho hj
   obtain ⟨j, rfl⟩ : ∃ i, j = i + 1 := ⟨j - 1, by omega⟩
   obtain rfl : o = n := by omega
   show F_words_Get.l0_b k _ _ _ _ _ = _
   unfold F_words_Get.l0_b
   rw [O.cond_neg (by omega), be_rev _ _ (by omega)]
   have h := bl_ext s i (i + o) hin o (by omega)
   rw [show i + o - i = o from by omega] at h
   rw [sz, h]
  | succ m ih =>
   intro o j ho hj
   obtain ⟨j, rfl⟩ : ∃ i, j = i + 1 := ⟨j - 1, by omega⟩
   show F_words_Get.l0_b k _ _ _ _ _ = _
   unfold F_words_Get.l0_b
   have hb := be_lo (revT (s.extract i (i + n))) 0 o
   have hp := pow56 o (by omega)
   have b1 := bt_lo (revT (s.extract i (i + n))) ((0 + o : Nat) : Int)
   have b2 := bt_hi (revT (s.extract i (i + n))) ((0 + o : Nat) : Int)
   rw [O.cond_pos (by omega), O.chk_dec (by rw [revT_size, sz]; omega)]
   rw [Nat.zero_add] at b1 b2
   rw [step_u64 _ _ ⟨hb.1, by omega⟩ ⟨b1, b2⟩, i64_in _ (by omega)]
   have h := ih (o + 1) j (by omega) (by omega)
   unfold be at h
   rw [Nat.zero_add] at h
   exact h
 unfold F_words_Get.S F_words_Get.top
 rw [O.cond_neg (by omega), O.cond_neg (by omega), O.cond_neg (by omega), i64_in ((s.size : Int) - _) (by omega), i64_in _ (by omega)]
 by_cases h : i + n ≤ s.size
 ·rw [O.cond_neg (by omega), O.chk_dec (by omega), if_pos h]
  show O.cond true _ _ = _
  have e : ((i : Int) + (n : Int)).toNat = i + n := by omega
  rw [O.cond_true, Int.toNat_natCast, e, Turn_S k _ (by rw [ext_size]; omega) (by rw [ext_size]; omega), O.bind_ok]
  exact lp h n 0 k (by omega) (by omega)
 ·rw [O.cond_pos (by omega), if_neg h]
def wb (v : Int) : Nat → List Int
 | 0 => []
 | n + 1 => v / 256 ^ n % 256 :: wb v n
theorem wb_length (v : Int) : ∀ n, (wb v n).length = n
 | 0 => rfl
 | n + 1 => by simp [wb, wb_length v n]
theorem wb_snoc (v : Int) (hv : 0 ≤ v) : ∀ n, wb v (n + 1) = wb (v / 256) n ++ [v % 256]
 | 0 => by simp [wb]
 | n + 1 => by
  show v / 256 ^ (n + 1) % 256 :: wb v (n + 1) = (v / 256 / 256 ^ n % 256 :: wb (v / 256) n) ++ [v % 256]
  rw [wb_snoc v hv n, List.cons_append, Int.pow_succ, Int.mul_comm, Int.ediv_ediv_of_nonneg (by decide)]
theorem strOf_app (a b : List Int) : Go.Aq.strOf (a ++ b) = Go.Aq.strOf a ++ Go.Aq.strOf b := by
 apply list_eq; rw [app_list]; simp [Go.Aq.strOf]
def putT (v : Int) (n : Nat) : ByteArray := Go.Aq.strOf (wb v n)
theorem putT_size (v : Int) (n : Nat) : (putT v n).size = n := by unfold putT; rw [size_strOf, wb_length]
theorem wmay_S (k : Nat) (v : Int) (n : Nat) (hv : 0 ≤ v ∧ v < 18446744073709551616) (hn : 1 ≤ n ∧ n ≤ 8) : F_words_may.S k v (n : Int) = .ok (decide (v < 256 ^ n)) := by
 unfold F_words_may.S
 rw [O.cond_pos (by omega), O.cond_pos (by omega)]
 by_cases h8 : n = 8
 ·subst h8
  rw [O.cond_pos (by omega), decide_eq_true (by rw [show (256 : Int) ^ 8 = 18446744073709551616 from rfl]; exact hv.2)]
 ·rw [O.cond_neg (by omega), i64_in _ (by omega), O.chk_dec (by omega)]
  congr 1
  apply decide_eq_decide.2
  have e : shR .u64 v (8 * (n : Int)) = v / 256 ^ n := by
   have h := shR_eq .u64 v (8 * n) (by rw [bits64]; omega)
   rw [show (256 : Int) = 2 ^ 8 from rfl, ← Int.pow_mul]
   rw [← h]; push_cast; rfl
  rw [e]
  have hp : (0 : Int) < 256 ^ n := Int.pow_pos (by decide)
  constructor
  ·intro h
   rcases Int.lt_or_le v (256 ^ n) with hl | hl
   ·exact hl
   ·have h1 : 1 ≤ v / 256 ^ n := by rw [Int.le_ediv_iff_mul_le hp]; omega
    omega
  ·intro h; exact Int.ediv_eq_zero_of_lt hv.1 h
theorem Put_S (k : Nat) (hk : 9 ≤ k) (v : Int) (n : Nat) (hv : 0 ≤ v ∧ v < 18446744073709551616) (hn : 1 ≤ n ∧ n ≤ 8) (big : Bool) :
  F_words_Put.S k v (n : Int) big = .ok (if v < 256 ^ n then (if big then putT v n else revT (putT v n), 0) else (⟨#[]⟩, 1)) := by
 have lp : ∀ (m i j : Nat), i + m = n → m < j → F_words_Put.l0 k v (n : Int) big j (i : Int) (List.replicate m 0 ++ wb v i) = .ok (if big then putT v n else revT (putT v n), 0) := by
  intro m
  induction m with
  | zero =>
   intro i j hi hj
   obtain ⟨j, rfl⟩ : ∃ i, j = i + 1 := ⟨j - 1, by omega⟩
   obtain rfl : i = n := by omega
   show F_words_Put.l0_b k v _ _ _ _ _ = _
   unfold F_words_Put.l0_b
   rw [O.cond_neg (by omega)]
   show O.cond (!big) (O.bind (F_words_Turn.S k (putT v i)) _) (.ok (putT v i, 0)) = _
   cases big
   ·show O.cond true _ _ = _
    rw [O.cond_true, Turn_S k _ (by rw [putT_size]; omega) (by rw [putT_size]; omega), O.bind_ok]; rfl
   ·show O.cond false _ _ = _
    rw [O.cond_false]; rfl
  | succ m ih =>
   intro i j hi hj
   obtain ⟨j, rfl⟩ : ∃ i, j = i + 1 := ⟨j - 1, by omega⟩
   show F_words_Put.l0_b k v _ _ _ _ _ = _
   unfold F_words_Put.l0_b
   have e1 : IntKind.i64.wrap (IntKind.i64.wrap ((n : Int) - 1) - (i : Int)) = (m : Int) := by
    rw [i64_in ((n : Int) - 1) (by omega), i64_in _ (by omega)]; omega
   have hl : (List.replicate (m + 1) (0 : Int) ++ wb v i).length = n := by simp [wb_length]; omega
   have e2 : IntKind.u8.wrap (shR .u64 v (IntKind.i64.wrap (8 * (i : Int)))) = v / 256 ^ i % 256 := by
    have h := shR_eq .u64 v (8 * i) (by rw [bits64]; omega)
    rw [i64_in _ (by omega), show (8 * (i : Int)) = ((8 * i : Nat) : Int) from by push_cast; rfl, h, Int.pow_mul, show (2 : Int) ^ 8 = 256 from rfl]
    simp [IntKind.wrap, IntKind.bits, IntKind.signed]
   rw [O.cond_pos (by omega), O.chk_dec (by rw [i64_in _ (by omega)]; omega), e1, O.chk_dec (by rw [hl]; omega), O.chk_dec (by rw [hl]; omega), e2, i64_in _ (by omega)]
   have e3 : su (List.replicate (m + 1) (0 : Int) ++ wb v i) (m : Int) (v / 256 ^ i % 256) = List.replicate m 0 ++ wb v (i + 1) := by
    unfold su
    rw [Int.toNat_natCast, List.replicate_succ', List.append_assoc, List.set_append_right _ _ (by simp)]
    simp [wb]
   rw [e3]
   exact ih (i + 1) j (by omega) (by omega)
 unfold F_words_Put.S F_words_Put.top
 rw [wmay_S k v n hv hn, O.bind_ok]
 by_cases h : v < 256 ^ n
 ·rw [decide_eq_true h, if_pos h]
  show O.cond false _ _ = _
  rw [O.cond_false, O.chk_dec (by omega), Int.toNat_natCast]
  have := lp n 0 k (by omega) (by omega)
  simpa [wb] using this
 ·rw [decide_eq_false h, if_neg h]
  show O.cond true _ _ = _
  rw [O.cond_true]
end Go.Proofs.Ytpfddjdkafjjfaa
end
section
namespace Go.Proofs.Ytpfddjdkafjjfaa
open Go.Aq Go.IntWalk
set_option linter.unusedVariables false
abbrev TM := List Int × Int × List (Int × Int × Int × Bool)
def mayM (a n len : Int) : Bool := decide (0 ≤ a ∧ 0 ≤ n ∧ n ≤ len ∧ a ≤ len - n)
theorem mayM_iff {a n len : Int} : mayM a n len = true ↔ (0 ≤ a ∧ 0 ≤ n ∧ n ≤ len ∧ a ≤ len - n) := by unfold mayM; simp
theorem mayM_not {a n len : Int} : mayM a n len = false ↔ ¬ (0 ≤ a ∧ 0 ≤ n ∧ n ≤ len ∧ a ≤ len - n) := by unfold mayM; simp only [decide_eq_false_iff_not]
def okM (g : TM) : Prop := g.1.length ≤ 1048576 ∧ g.2.2.length ≤ 8192
theorem May_S (k : Nat) (a n : Int) (g : TM) (h : g.1.length ≤ 1048576) : F_gmem_Memory_May.S k a n g = .ok (mayM a n g.1.length) := by
 unfold F_gmem_Memory_May.S
 by_cases h1 : a ≥ 0
 ·rw [O.cond_pos h1]
  by_cases h2 : n ≥ 0
  ·rw [O.cond_pos h2]
   by_cases h3 : n ≤ (g.1.length : Int)
   ·rw [O.cond_pos h3, i64_in _ (by omega)]
    congr 1; unfold mayM; apply decide_eq_decide.2; omega
   ·rw [O.cond_neg h3, mayM_not.2 (by omega)]
  ·rw [O.cond_neg h2, mayM_not.2 (by omega)]
 ·rw [O.cond_neg h1, mayM_not.2 (by omega)]
theorem Acc_S (k : Nat) (l : List (Int × Int × Int × Bool)) (h : 0 < l.length ∧ l.length ≤ 1048576) : F_api_Access.S k l = .ok l := by
 unfold F_api_Access.S
 rw [O.cond_pos (by omega), O.cond_false, O.chk_dec (by omega)]; rfl
def noteM (g : TM) (a n : Int) (w : Bool) : List (Int × Int × Int × Bool) :=
 if n = 0 then g.2.2 else if (g.2.2 ++ [(g.2.1, a, n, w)]).length > 8192 then (g.2.2 ++ [(g.2.1, a, n, w)]).drop ((g.2.2 ++ [(g.2.1, a, n, w)]).length - 4096) else g.2.2 ++ [(g.2.1, a, n, w)]
theorem noteM_len (g : TM) (a n : Int) (w : Bool) (h : g.2.2.length ≤ 8192) : (noteM g a n w).length ≤ 8192 := by
 unfold noteM
 split
 ·exact h
 ·split
  ·rw [List.length_drop]; omega
  ·simp at *; omega
def wrM (g : TM) (a : Int) (s : ByteArray) : TM := (putAt g.1 a (bytesOf s), g.2.1, noteM g a s.size true)
def rdM (g : TM) (a n : Int) : TM := (g.1, g.2.1, noteM g a n false)
theorem bytesOf_len (s : ByteArray) : (bytesOf s).length = s.size := by unfold bytesOf; rw [List.length_map, size_list]
theorem putAt_len {α : Type} (xs ys : List α) (a : Int) (h : 0 ≤ a) (h2 : a + ys.length ≤ xs.length) : (putAt xs a ys).length = xs.length := by
 unfold putAt; simp only [List.length_append, List.length_take, List.length_drop]; omega
theorem Write_S (k : Nat) (a : Int) (s : ByteArray) (g : TM) (h : okM g) : F_gmem_Memory_Write.S k a s g = .ok (if mayM a s.size g.1.length then (0, wrM g a s) else (41, g)) := by
 obtain ⟨h1, h2⟩ := h
 unfold F_gmem_Memory_Write.S
 rw [May_S k _ _ _ h1, O.bind_ok]
 by_cases hm : mayM a s.size g.1.length = true
 ·rw [hm, if_pos rfl]
  rw [mayM_iff] at hm
  show O.cond false _ _ = _
  have hp : sumI [a] = a := by simp [sumI]
  have hq : posI [a] = true := by simp [posI]; omega
  have ht : List.take ((g.1.length : Int) - a).toNat (bytesOf s) = bytesOf s := List.take_of_length_le (by rw [bytesOf_len]; omega)
  have hc1 : (decide (0 ≤ a ∧ a ≤ (g.1.length : Int)) && decide (0 ≤ (g.1.length : Int) ∧ (g.1.length : Int) ≤ (g.1.length : Int))) = true := by simp; omega
  have hc2 : (posI [a] && decide (0 ≤ (g.1.length : Int) - a ∧ sumI [a] + ((g.1.length : Int) - a) ≤ (g.1.length : Int))) = true := by rw [hp, hq]; simp; omega
  rw [O.cond_false]
  by_cases h0 : (s.size : Int) = 0
  ·rw [O.cond_pos h0, hc1, O.chk_true, hc2, O.chk_true, hp, ht]
   unfold wrM noteM; rw [if_pos h0]
  ·rw [O.cond_neg h0, O.chk_dec (by simp; omega)]
   have hl : (g.2.2 ++ [(g.2.1, a, (s.size : Int), true)]).length = g.2.2.length + 1 := by simp
   by_cases h8 : ((g.2.2 ++ [(g.2.1, a, (s.size : Int), true)]).length : Int) > 8192
   ·have e : IntKind.i64.wrap (((g.2.2 ++ [(g.2.1, a, (s.size : Int), true)]).length : Int) - 4096) = ((g.2.2 ++ [(g.2.1, a, (s.size : Int), true)]).length : Int) - 4096 := i64_in _ (by omega)
    rw [O.cond_pos h8, e]
    generalize hL : (g.2.2 ++ [(g.2.1, a, (s.size : Int), true)]) = L at *
    have hp2 : sumI [(L.length : Int) - 4096] = (L.length : Int) - 4096 := by simp [sumI]
    have hq2 : posI [(L.length : Int) - 4096] = true := by simp [posI]; omega
    rw [show (decide (0 ≤ (L.length : Int) - 4096 ∧ (L.length : Int) - 4096 ≤ (L.length : Int)) && decide (0 ≤ (L.length : Int) ∧ (L.length : Int) ≤ (L.length : Int))) = true from by simp; omega, O.chk_true, hp2, hq2]
    rw [show (true && decide (0 ≤ (L.length : Int) - ((L.length : Int) - 4096) ∧ (L.length : Int) - 4096 + ((L.length : Int) - ((L.length : Int) - 4096)) ≤ (L.length : Int))) = true from by simp; omega, O.chk_true]
    have hd : sub L ((L.length : Int) - 4096) ((L.length : Int) - ((L.length : Int) - 4096)) = L.drop (L.length - 4096) := by
     unfold sub
     rw [show ((L.length : Int) - 4096).toNat = L.length - 4096 by omega]
     exact List.take_of_length_le (by rw [List.length_drop]; omega)
    rw [hd, Acc_S k _ (by rw [List.length_drop]; omega), O.bind_ok, hc1, O.chk_true, hc2, O.chk_true, hp, ht]
    unfold wrM noteM
    rw [if_neg h0, hL, if_pos (by omega)]
   ·rw [O.cond_neg h8, hc1, O.chk_true, hc2, O.chk_true, hp, ht]
    unfold wrM noteM
    rw [if_neg h0, if_neg (by omega)]
 ·rw [Bool.not_eq_true] at hm
  rw [hm]
  show O.cond true _ _ = _
  rw [O.cond_true]; rfl
theorem wrM_ok (g : TM) (a : Int) (s : ByteArray) (h : okM g) (hm : mayM a s.size g.1.length = true) : okM (wrM g a s) ∧ (wrM g a s).1.length = g.1.length := by
 rw [mayM_iff] at hm
 have e : (wrM g a s).1.length = g.1.length := putAt_len _ _ _ hm.1 (by rw [bytesOf_len]; omega)
 exact ⟨⟨by rw [e]; exact h.1, noteM_len _ _ _ _ h.2⟩, e⟩
theorem Read_S (k : Nat) (a n : Int) (g : TM) (h : okM g) : F_gmem_Memory_Read.S k a n g = .ok (if n < 0 then ((⟨#[]⟩, 1), g) else if mayM a n g.1.length then ((Go.Aq.strOf (sub g.1 a n), 0), rdM g a n) else ((⟨#[]⟩, 41), g)) := by
 obtain ⟨h1, h2⟩ := h
 unfold F_gmem_Memory_Read.S
 by_cases hn : n < 0
 ·rw [O.cond_pos hn, if_pos hn]
 rw [O.cond_neg hn, if_neg hn, May_S k _ _ _ h1, O.bind_ok]
 by_cases hm : mayM a n g.1.length = true
 ·rw [hm, if_pos rfl]
  rw [mayM_iff] at hm
  show O.cond false _ _ = _
  have hp : sumI [a] = a := by simp [sumI]
  have hq : posI [a] = true := by simp [posI]; omega
  have hw : IntKind.i64.wrap (a + n) = a + n := i64_in _ (by omega)
  have hs : a + n - a = n := by omega
  have hc1 : (decide (0 ≤ a ∧ a ≤ a + n ∧ a + n ≤ (g.1.length : Int)) && decide (0 ≤ (g.1.length : Int) ∧ (g.1.length : Int) ≤ (g.1.length : Int))) = true := by simp; omega
  have hc2 : (posI [a] && decide (0 ≤ n ∧ sumI [a] + n ≤ (g.1.length : Int))) = true := by rw [hp, hq]; simp; omega
  rw [O.cond_false, hw, hs]
  by_cases h0 : n = 0
  ·rw [O.cond_pos h0, hc1, O.chk_true, hc2, O.chk_true, hp]
   unfold rdM noteM; rw [if_pos h0]
  ·rw [O.cond_neg h0, O.chk_dec (by simp; omega)]
   have hl : (g.2.2 ++ [(g.2.1, a, n, false)]).length = g.2.2.length + 1 := by simp
   by_cases h8 : ((g.2.2 ++ [(g.2.1, a, n, false)]).length : Int) > 8192
   ·have e : IntKind.i64.wrap (((g.2.2 ++ [(g.2.1, a, n, false)]).length : Int) - 4096) = ((g.2.2 ++ [(g.2.1, a, n, false)]).length : Int) - 4096 := i64_in _ (by omega)
    rw [O.cond_pos h8, e]
    generalize hL : (g.2.2 ++ [(g.2.1, a, n, false)]) = L at *
    have hp2 : sumI [(L.length : Int) - 4096] = (L.length : Int) - 4096 := by simp [sumI]
    have hq2 : posI [(L.length : Int) - 4096] = true := by simp [posI]; omega
    rw [show (decide (0 ≤ (L.length : Int) - 4096 ∧ (L.length : Int) - 4096 ≤ (L.length : Int)) && decide (0 ≤ (L.length : Int) ∧ (L.length : Int) ≤ (L.length : Int))) = true from by simp; omega, O.chk_true, hp2, hq2]
    rw [show (true && decide (0 ≤ (L.length : Int) - ((L.length : Int) - 4096) ∧ (L.length : Int) - 4096 + ((L.length : Int) - ((L.length : Int) - 4096)) ≤ (L.length : Int))) = true from by simp; omega, O.chk_true]
    have hd : sub L ((L.length : Int) - 4096) ((L.length : Int) - ((L.length : Int) - 4096)) = L.drop (L.length - 4096) := by
     unfold sub
     rw [show ((L.length : Int) - 4096).toNat = L.length - 4096 by omega]
     exact List.take_of_length_le (by rw [List.length_drop]; omega)
    rw [hd, Acc_S k _ (by rw [List.length_drop]; omega), O.bind_ok, hc1, O.chk_true, hc2, O.chk_true, hp]
    unfold rdM noteM
    rw [if_neg h0, hL, if_pos (by omega)]
   ·rw [O.cond_neg h8, hc1, O.chk_true, hc2, O.chk_true, hp]
    unfold rdM noteM
    rw [if_neg h0, if_neg (by omega)]
 ·rw [Bool.not_eq_true] at hm
  rw [hm]
  show O.cond true _ _ = _
  rw [O.cond_true]; rfl
theorem rdM_ok (g : TM) (a n : Int) (h : okM g) : okM (rdM g a n) ∧ (rdM g a n).1 = g.1 := ⟨⟨h.1, noteM_len _ _ _ _ h.2⟩, rfl⟩
end Go.Proofs.Ytpfddjdkafjjfaa
end
section
namespace Go.Proofs.Ytpfddjdkafjjfaa
open Go.Aq Go.IntWalk
set_option linter.unusedVariables false
def putL (v : Int) (n : Nat) : ByteArray := revT (putT v n)
theorem putL_size (v : Int) (n : Nat) : (putL v n).size = n := by unfold putL; rw [revT_size, putT_size]
theorem PutL_S (k : Nat) (hk : 9 ≤ k) (v : Int) (n : Nat) (hv : 0 ≤ v ∧ v < 18446744073709551616) (hn : 1 ≤ n ∧ n ≤ 8) :
  F_words_Put.S k v (n : Int) false = .ok (if v < 256 ^ n then (putL v n, 0) else (⟨#[]⟩, 1)) := by
 rw [Put_S k hk v n hv hn false]; rfl
end Go.Proofs.Ytpfddjdkafjjfaa
end
section
namespace Go.Proofs.Ytpfddjdkafjjfaa
open Go.Aq Go.IntWalk
set_option linter.unusedVariables false
theorem sized_S (k : Nat) (n : Int) (h : n = 1 ∨ n = 2 ∨ n = 4 ∨ n = 8) : F_gmem_sized.S k n = .ok true := by
 unfold F_gmem_sized.S
 rcases h with rfl | rfl | rfl | rfl
 ·rw [O.cond_pos rfl]
 ·rw [O.cond_neg (by decide), O.cond_pos rfl]
 ·rw [O.cond_neg (by decide), O.cond_neg (by decide), O.cond_pos rfl]
 ·rw [O.cond_neg (by decide), O.cond_neg (by decide), O.cond_neg (by decide)]; rfl
theorem u64_lo (v : Int) : 0 ≤ IntKind.u64.wrap v ∧ IntKind.u64.wrap v < 18446744073709551616 := by
 unfold IntKind.wrap
 simp [IntKind.bits, IntKind.signed]
 omega
theorem Store_S (k : Nat) (hk : 9 ≤ k) (a : Int) (n : Nat) (hn : n = 2 ∨ n = 4 ∨ n = 8) (v : Int) (hv : 0 ≤ v ∧ v < 18446744073709551616) (g : TM) (h : okM g) :
  F_gmem_Memory_Store.S k a (n : Int) v g = .ok (if v < 256 ^ n then (if mayM a n g.1.length then (0, wrM g a (putL v n)) else (41, g)) else (1, g)) := by
 unfold F_gmem_Memory_Store.S
 rw [sized_S k _ (by omega), O.bind_ok, Bool.not_true, O.cond_false, PutL_S k hk v n hv (by omega), O.bind_ok]
 by_cases h1 : v < 256 ^ n
 ·rw [if_pos h1, if_pos h1, O.cond_neg (by simp), Write_S k a _ g h, O.bind_ok, putL_size]
 ·rw [if_neg h1, if_neg h1, O.cond_pos (by simp)]
theorem Store_sat (k : Nat) (hk : 9 ≤ k) (a : Int) (n : Nat) (hn : n = 2 ∨ n = 4 ∨ n = 8) (v : Int) (g : TM) (h : okM g) :
  ∃ r, F_gmem_Memory_Store.S k a (n : Int) (IntKind.u64.wrap v) g = .ok r ∧ okM r.2 ∧ r.2.1.length = g.1.length := by
 rw [Store_S k hk a n hn _ (u64_lo v) g h]
 split
 ·split
  ·rename_i hm
   have hw := wrM_ok g a (putL (IntKind.u64.wrap v) n) h (by rw [putL_size]; exact hm)
   exact ⟨_, rfl, hw.1, hw.2⟩
  ·exact ⟨_, rfl, h, rfl⟩
 ·exact ⟨_, rfl, h, rfl⟩
def nextP (s : Int × Bool) (n : Int) : Int × Bool := if s.1 + 1 ≥ n then (s.1 + 1 - n, !s.2) else (s.1 + 1, s.2)
theorem Next_S (k : Nat) (s : Int × Bool) (n : Int) (h : 0 ≤ s.1 ∧ s.1 < n ∧ n ≤ 32768) : F_spot_Next.S k s 1 n = .ok (nextP s n, 0) := by
 unfold F_spot_Next.S
 have hc : F_spot_Check.S k s n = .ok 0 := by
  unfold F_spot_Check.S
  rw [O.cond_neg (by omega), O.cond_neg (by omega), O.cond_neg (by omega), O.cond_neg (by omega)]
 rw [hc, O.bind_ok, O.cond_neg (by simp), O.cond_neg (by omega), O.cond_neg (by omega), i64_in _ (by omega)]
 unfold nextP
 by_cases h1 : s.1 + 1 ≥ n
 ·rw [O.cond_pos h1, if_pos h1, i64_in _ (by omega)]
 ·rw [O.cond_neg h1, if_neg h1]
theorem nextP_in (s : Int × Bool) (n : Int) (h : 0 ≤ s.1 ∧ s.1 < n) : 0 ≤ (nextP s n).1 ∧ (nextP s n).1 < n := by
 unfold nextP
 split
 ·rename_i h1
  show 0 ≤ s.1 + 1 - n ∧ s.1 + 1 - n < n
  omega
 ·rename_i h1
  show 0 ≤ s.1 + 1 ∧ s.1 + 1 < n
  omega
theorem Mark_ok (k : Nat) (a : Int) (b c : Bool) : ∃ f, F_desc_Mark.S k a b c = .ok f := by
 unfold F_desc_Mark.S
 cases b with
 | true =>
  rw [O.cond_true, O.cond_dec]
  split <;> exact ⟨_, rfl⟩
 | false =>
  rw [O.cond_false, O.cond_dec]
  split <;> exact ⟨_, rfl⟩
abbrev TV := (Int × Int × Int × Int) × (Int × Bool) × (Int × Bool) × (Int × Bool) × Int × Int × List (Int × Int)
abbrev TP := Int × Int × Bool
structure OkP (p : List TP) (len : Nat) : Prop where
 lo : 1 ≤ p.length
 hi : p.length ≤ 64
 each : ∀ x ∈ p, 1 ≤ x.2.1 ∧ mayM x.1 x.2.1 len = true
 order : (∀ x ∈ p, x.2.2 = false) ∨ p.length = 1
def PostR (q : TV) (p : List TP) (len : Nat) (z : (Int × Int) × TV × TM) : Prop :=
 ∃ s' g', z = ((((leastN q.2.2.2.2.2.2 : Nat) : Int), 0), (q.1, s', q.2.2.1, q.2.2.2.1, min (IntKind.i64.wrap (q.2.2.2.2.1 + (p.length : Int))) (IntKind.i64.wrap (2 * q.1.2.1)), IntKind.i64.wrap (q.2.2.2.2.2.1 - (p.length : Int)), mput q.2.2.2.2.2.2 ((leastN q.2.2.2.2.2.2 : Nat) : Int) (p.length : Int)), g') ∧
  0 ≤ s'.1 ∧ s'.1 < q.1.2.1 ∧ okM g' ∧ g'.1.length = len
end Go.Proofs.Ytpfddjdkafjjfaa
end
section
namespace Go.Proofs.Ytpfddjdkafjjfaa
open Go.Aq Go.IntWalk
set_option linter.unusedVariables false
abbrev TR := ByteArray × Int × List (Int × Int × Int × Bool)
theorem strOf_bytesOf (s : ByteArray) : Go.Aq.strOf (bytesOf s) = s := by
 apply list_eq
 show ((bytesOf s).map fun n => UInt8.ofNat n.toNat) = _
 unfold bytesOf
 rw [List.map_map]
 conv => rhs; rw [← List.map_id s.data.toList]
 apply List.map_congr_left
 intro c _
 show UInt8.ofNat ((c.toNat : Int).toNat) = c
 rw [Int.toNat_natCast]; simp
theorem strOf_sub (L : List Int) (i j : Nat) : (Go.Aq.strOf L).extract i j = Go.Aq.strOf (sub L i ((j - i : Nat) : Int)) := by
 apply list_eq
 rw [ext_list]
 unfold Go.Aq.strOf sub
 simp [List.map_take, List.map_drop]
theorem app_as (a b c : ByteArray) : (a ++ b) ++ c = a ++ (b ++ c) := by
 apply list_eq; simp only [app_list, List.append_assoc]
theorem O.same_self {α : Type} (x : O α) : O.same x x = x := by rw [O.same_eq, if_pos rfl]
theorem rep_size (n : Int) (h : 0 ≤ n) : (repT (⟨#[0]⟩ : ByteArray) n).size = n.toNat := by
 have hr : ∀ m : Nat, (Lib.repeatL ([0] : List UInt8) m).length = m := by
  intro m
  induction m with
  | zero => rfl
  | succ m ih => simp [Lib.repeatL, ih]; try omega
 show (Lib.repeatL ([0] : List UInt8) n.toNat).toArray.size = _
 rw [List.size_toArray, hr]
theorem Rep_S (k : Nat) (n : Int) (h : 0 ≤ n ∧ n ≤ 1000000) : F_strings_Repeat.S k (⟨#[0]⟩ : ByteArray) n = .ok (repT (⟨#[0]⟩ : ByteArray) n) := by
 unfold F_strings_Repeat.S
 rw [O.chk_dec]
 refine ⟨by omega, by omega, ?_⟩
 show ((1 : Nat) : Int) * n ≤ _
 omega
theorem rep_str (n : Int) : repT (⟨#[0]⟩ : ByteArray) n = Go.Aq.strOf (List.replicate n.toNat (0 : Int)) := by
 apply list_eq
 show Lib.repeatL ([0] : List UInt8) n.toNat = ((List.replicate n.toNat (0 : Int)).map fun n => UInt8.ofNat n.toNat)
 have hr : ∀ m : Nat, Lib.repeatL ([0] : List UInt8) m = List.replicate m 0 := by
  intro m
  induction m with
  | zero => rfl
  | succ m ih => simp [Lib.repeatL, ih, List.replicate_succ]
 rw [hr, List.map_replicate]; rfl
def layQ (n : Int) : Int × Int × Int × Int := (0, n, 512, 516)
end Go.Proofs.Ytpfddjdkafjjfaa
end
section
namespace Go.Proofs.Ytpfddjdkafjjfaa
open Go.Aq Go.IntWalk
set_option linter.unusedVariables false
end Go.Proofs.Ytpfddjdkafjjfaa
end
section
namespace Go.Proofs.Ytpfddjdkafjjfaa
open Go.Aq Go.IntWalk
set_option linter.unusedVariables false
abbrev D4 := Int × Int × Int × Int
def descP (s : ByteArray) : D4 := (bl s 8 8, bl s 12 4, bl s 14 2, bl s 16 2)
theorem Parse_S (k : Nat) (hk : 9 ≤ k) (s : ByteArray) (h : s.size = 16) : F_desc_Parse.S k s = .ok (descP s, 0) := by
 unfold F_desc_Parse.S
 have g1 : F_words_Get.S k s (0 : Int) (8 : Int) false = _ := GetL_S k hk s (by omega) 0 8 (by omega) (by omega)
 have g2 : F_words_Get.S k s (8 : Int) (4 : Int) false = _ := GetL_S k hk s (by omega) 8 4 (by omega) (by omega)
 have g3 : F_words_Get.S k s (12 : Int) (2 : Int) false = _ := GetL_S k hk s (by omega) 12 2 (by omega) (by omega)
 have g4 : F_words_Get.S k s (14 : Int) (2 : Int) false = _ := GetL_S k hk s (by omega) 14 2 (by omega) (by omega)
 rw [if_pos (by omega)] at g1 g2 g3 g4
 have b2 := bl_lo s 12 4; have b3 := bl_lo s 14 2; have b4 := bl_lo s 16 2
 rw [show (256 : Int) ^ 4 = 4294967296 from rfl] at b2
 rw [show (256 : Int) ^ 2 = 65536 from rfl] at b3 b4
 rw [O.cond_neg (by omega), g1, O.bind_ok, g2, O.bind_ok, g3, O.bind_ok, g4, O.bind_ok]
 show O.ok ((_, IntKind.u32.wrap (bl s 12 4), IntKind.i64.wrap (bl s 14 2), IntKind.i64.wrap (bl s 16 2)), (0 : Int)) = _
 rw [u32_in _ (by omega), i64_in _ (by omega), i64_in _ (by omega)]; rfl
def rdD (b : List Int) (a : Int) : D4 := descP (Go.Aq.strOf (sub b a 16))
def sameM (g g' : TM) : Prop := g'.1 = g.1 ∧ g'.2.1 = g.2.1 ∧ g'.2.2.length ≤ 8192
theorem sub_len (b : List Int) (a n : Int) (h : 0 ≤ a ∧ 0 ≤ n ∧ a + n ≤ b.length) : (sub b a n).length = n.toNat := by
 unfold sub; rw [List.length_take, List.length_drop]; omega
end Go.Proofs.Ytpfddjdkafjjfaa
end
section
namespace Go.Proofs.Ytpfddjdkafjjfaa
open Go.Aq
set_option linter.unusedVariables false
set_option maxRecDepth 100000
def OT.bind {α β : Type} (m : O α) (f : α → O β) : O β := match m with | .ok a => f a | .pan _ => .no | .no => .no
def OT.cond {α : Type} (b : Bool) (x y : O α) : O α := match b with | true => x | false => y
def OT.chk {α : Type} (b : Bool) (x : O α) : O α := match b with | true => x | false => .no
def OT.sum {ε α β : Type} (m : O (ε ⊕ α)) (g : ε → O β) (f : α → O β) : O β := match m with | .ok (.inl e) => g e | .ok (.inr a) => f a | .pan _ => .no | .no => .no
def OT.twice {α : Type} (x : O α) : O α := x
def OT.same {α : Type} (x y : O α) : O α := x
theorem OT.same_self {α : Type} (x : O α) : O.same x x = x := by rw [O.same_eq, if_pos rfl]
theorem OT.bind_e : @O.bind = @OT.bind := by funext α β m f; exact O.both_eq m f fun _ => .no
theorem OT.cond_e : @O.cond = @OT.cond := by funext α b x y; exact O.cond_eq b x y
theorem OT.chk_e : @O.chk = @OT.chk := by funext α b x; exact O.chk_eq b x
theorem OT.sum_e : @O.sum = @OT.sum := by funext ε α β m g f; exact O.sum_eq m g f
theorem OT.twice_e : @O.twice = @OT.twice := by funext α x; exact O.twice_eq x
def TRep_ (k : Nat) (s : ByteArray) (n : Int) : O ByteArray := OT.chk (decide (0 ≤ n ∧ n ≤ 1073741824 ∧ (s.size : Int) * n ≤ 140737488355328)) (.ok (repT s n))
theorem TRep_e : @F_strings_Repeat.S = @TRep_ := by
 funext k s n
 delta F_strings_Repeat.S TRep_
 simp only [OT.chk_e]
noncomputable def T0_ (k : Nat) (a0 : Int) : O (Int ⊕ (Int × List Int × Int × (List (Int × Int × Int × Bool)))) :=
  OT.cond (decide (a0 < (64 : Int))) (
   .ok (.inl (40 : Int))) (
   OT.cond (decide (a0 > (1048576 : Int))) (
    .ok (.inl (40 : Int))) (
    OT.chk (decide (0 ≤ a0 ∧ a0 = a0 ∧ a0 ≤ 1073741824)) (
     .ok (.inr ((0 : Int), ((List.replicate a0.toNat (0 : Int)), (0 : Int), []))))))
theorem T0_e : @F_gmem_New.S = @T0_ := by
 delta F_gmem_New.S T0_
 simp only [OT.cond_e, OT.chk_e]
noncomputable def T1_ (k : Nat) (a1 : Int) (a2 : Int) (g0 : List Int × Int × (List (Int × Int × Int × Bool))) : O Bool :=
  OT.cond (decide (a1 ≥ (0 : Int))) (
   OT.cond (decide (a2 ≥ (0 : Int))) (
    OT.cond (decide (a2 ≤ (List.length g0.1 : Int))) (
     .ok (decide (a1 ≤ (IntKind.i64.wrap ((List.length g0.1 : Int) - a2))))) (
     .ok false)) (
    .ok false)) (
   .ok false)
theorem T1_e : @F_gmem_Memory_May.S = @T1_ := by
 delta F_gmem_Memory_May.S T1_
 simp only [OT.cond_e]
noncomputable def T2_ (k : Nat) (a0 : List (Int × Int × Int × Bool)) : O (List (Int × Int × Int × Bool)) :=
  OT.cond (decide (0 < (List.length a0 : Int))) (
   OT.cond false (
    .ok []) (
    OT.chk (decide ((0 : Nat) + List.length a0 ≤ 1073741824)) (
     .ok ([] ++ a0)))) (
   O.same (
    OT.cond true (
     .ok []) (
     OT.chk (decide ((0 : Nat) + List.length a0 ≤ 1073741824)) (
      .ok ([] ++ a0)))) (
    OT.cond false (
     .ok []) (
     OT.chk (decide ((0 : Nat) + List.length a0 ≤ 1073741824)) (
      .ok ([] ++ a0)))))
theorem T2_e : @F_api_Access.S = @T2_ := by
 delta F_api_Access.S T2_
 simp only [OT.cond_e, OT.chk_e]
noncomputable def T3_ (k : Nat) (a1 : Int) (a2 : ByteArray) (g0 : List Int × Int × (List (Int × Int × Int × Bool))) : O (Int × List Int × Int × (List (Int × Int × Int × Bool))) :=
  OT.bind (T1_ k a1 (ByteArray.size a2 : Int) g0) fun r1 =>
  OT.cond (!r1) (
   .ok ((41 : Int), g0)) (
   OT.cond (decide ((ByteArray.size a2 : Int) = (0 : Int))) (
    OT.chk (decide (0 ≤ a1 ∧ a1 ≤ (List.length g0.1 : Int)) && (decide (0 ≤ (List.length g0.1 : Int) ∧ (List.length g0.1 : Int) ≤ (List.length g0.1 : Int)))) (
     OT.chk (posI [a1] && decide (0 ≤ ((List.length g0.1 : Int) - a1) ∧ sumI [a1] + ((List.length g0.1 : Int) - a1) ≤ (List.length g0.1 : Int))) (
      .ok ((0 : Int), ((putAt g0.1 (sumI [a1]) (List.take ((List.length g0.1 : Int) - a1).toNat (bytesOf a2))), g0.2.1, g0.2.2))))) (
    OT.chk (decide (List.length g0.2.2 + List.length [(g0.2.1, a1, (ByteArray.size a2 : Int), true)] ≤ 1073741824)) (
     OT.cond (decide ((List.length (g0.2.2 ++ [(g0.2.1, a1, (ByteArray.size a2 : Int), true)]) : Int) > (8192 : Int))) (
      OT.chk (decide (0 ≤ (IntKind.i64.wrap ((List.length (g0.2.2 ++ [(g0.2.1, a1, (ByteArray.size a2 : Int), true)]) : Int) - (4096 : Int))) ∧ (IntKind.i64.wrap ((List.length (g0.2.2 ++ [(g0.2.1, a1, (ByteArray.size a2 : Int), true)]) : Int) - (4096 : Int))) ≤ (List.length (g0.2.2 ++ [(g0.2.1, a1, (ByteArray.size a2 : Int), true)]) : Int)) && (decide (0 ≤ (List.length (g0.2.2 ++ [(g0.2.1, a1, (ByteArray.size a2 : Int), true)]) : Int) ∧ (List.length (g0.2.2 ++ [(g0.2.1, a1, (ByteArray.size a2 : Int), true)]) : Int) ≤ (List.length (g0.2.2 ++ [(g0.2.1, a1, (ByteArray.size a2 : Int), true)]) : Int)))) (
       OT.chk (posI [(IntKind.i64.wrap ((List.length (g0.2.2 ++ [(g0.2.1, a1, (ByteArray.size a2 : Int), true)]) : Int) - (4096 : Int)))] && decide (0 ≤ ((List.length (g0.2.2 ++ [(g0.2.1, a1, (ByteArray.size a2 : Int), true)]) : Int) - (IntKind.i64.wrap ((List.length (g0.2.2 ++ [(g0.2.1, a1, (ByteArray.size a2 : Int), true)]) : Int) - (4096 : Int)))) ∧ sumI [(IntKind.i64.wrap ((List.length (g0.2.2 ++ [(g0.2.1, a1, (ByteArray.size a2 : Int), true)]) : Int) - (4096 : Int)))] + ((List.length (g0.2.2 ++ [(g0.2.1, a1, (ByteArray.size a2 : Int), true)]) : Int) - (IntKind.i64.wrap ((List.length (g0.2.2 ++ [(g0.2.1, a1, (ByteArray.size a2 : Int), true)]) : Int) - (4096 : Int)))) ≤ (List.length (g0.2.2 ++ [(g0.2.1, a1, (ByteArray.size a2 : Int), true)]) : Int))) (
        OT.bind (T2_ k (sub (g0.2.2 ++ [(g0.2.1, a1, (ByteArray.size a2 : Int), true)]) (sumI [(IntKind.i64.wrap ((List.length (g0.2.2 ++ [(g0.2.1, a1, (ByteArray.size a2 : Int), true)]) : Int) - (4096 : Int)))]) ((List.length (g0.2.2 ++ [(g0.2.1, a1, (ByteArray.size a2 : Int), true)]) : Int) - (IntKind.i64.wrap ((List.length (g0.2.2 ++ [(g0.2.1, a1, (ByteArray.size a2 : Int), true)]) : Int) - (4096 : Int)))))) fun r2 =>
        OT.chk (decide (0 ≤ a1 ∧ a1 ≤ (List.length g0.1 : Int)) && (decide (0 ≤ (List.length g0.1 : Int) ∧ (List.length g0.1 : Int) ≤ (List.length g0.1 : Int)))) (
         OT.chk (posI [a1] && decide (0 ≤ ((List.length g0.1 : Int) - a1) ∧ sumI [a1] + ((List.length g0.1 : Int) - a1) ≤ (List.length g0.1 : Int))) (
          .ok ((0 : Int), ((putAt g0.1 (sumI [a1]) (List.take ((List.length g0.1 : Int) - a1).toNat (bytesOf a2))), g0.2.1, r2))))))) (
      OT.chk (decide (0 ≤ a1 ∧ a1 ≤ (List.length g0.1 : Int)) && (decide (0 ≤ (List.length g0.1 : Int) ∧ (List.length g0.1 : Int) ≤ (List.length g0.1 : Int)))) (
       OT.chk (posI [a1] && decide (0 ≤ ((List.length g0.1 : Int) - a1) ∧ sumI [a1] + ((List.length g0.1 : Int) - a1) ≤ (List.length g0.1 : Int))) (
        .ok ((0 : Int), ((putAt g0.1 (sumI [a1]) (List.take ((List.length g0.1 : Int) - a1).toNat (bytesOf a2))), g0.2.1, (g0.2.2 ++ [(g0.2.1, a1, (ByteArray.size a2 : Int), true)])))))))))
theorem T3_e : @F_gmem_Memory_Write.S = @T3_ := by
 delta F_gmem_Memory_Write.S T3_
 simp only [OT.bind_e, OT.cond_e, OT.chk_e, T1_e, T2_e]
noncomputable def T4_ (k : Nat) (a1 : Int × Int × Int × Int) (g0 : List Int × Int × (List (Int × Int × Int × Bool))) : O Int :=
  OT.cond (decide (a1.2.1 < (1 : Int))) (
   .ok (140 : Int)) (
   OT.cond (decide (a1.2.1 > (32768 : Int))) (
    .ok (140 : Int)) (
    OT.cond (decide ((Int.tmod a1.1 (16 : Int)) ≠ (0 : Int))) (
     .ok (140 : Int)) (
     OT.cond (decide ((Int.tmod a1.2.2.1 (4 : Int)) ≠ (0 : Int))) (
      .ok (140 : Int)) (
      OT.cond (decide ((Int.tmod a1.2.2.2 (4 : Int)) ≠ (0 : Int))) (
       .ok (140 : Int)) (
       OT.bind (T1_ k a1.1 (IntKind.i64.wrap ((16 : Int) * a1.2.1)) g0) fun r1 =>
       OT.cond (!r1) (
        .ok (140 : Int)) (
        OT.bind (T1_ k a1.2.2.1 (4 : Int) g0) fun r2 =>
        OT.cond (!r2) (
         .ok (140 : Int)) (
         OT.bind (T1_ k a1.2.2.2 (4 : Int) g0) fun r3 =>
         OT.cond (!r3) (
          .ok (140 : Int)) (
          .ok (0 : Int)))))))))
theorem T4_e : @F_devq_Check.S = @T4_ := by
 delta F_devq_Check.S T4_
 simp only [OT.bind_e, OT.cond_e, T1_e]
noncomputable def T5_ (k : Nat) (a1 : Int × Int × Int × Int) (g0 : List Int × Int × TY1) : O ((Int × List Int × Int × TY1) ⊕ TY0) :=
  OT.bind (T4_ k a1 g0) fun r1 =>
  OT.cond (decide (r1 ≠ (0 : Int))) (
   .ok (.inl (r1, g0))) (
   OT.bind (TRep_ k (⟨#[0]⟩ : ByteArray) (IntKind.i64.wrap ((16 : Int) * a1.2.1))) fun r2 =>
   OT.bind (T3_ k a1.1 r2 g0) fun r3 =>
   OT.bind (TRep_ k (⟨#[0]⟩ : ByteArray) (4 : Int)) fun r4 =>
   OT.bind (T3_ k a1.2.2.1 r4 r3.2) fun r5 =>
   OT.bind (TRep_ k (⟨#[0]⟩ : ByteArray) (4 : Int)) fun r6 =>
   OT.bind (T3_ k a1.2.2.2 r6 r5.2) fun r7 =>
   .ok (.inr ((0 : Int), (r7.2, (a1, ((0 : Int), true), ((0 : Int), true), ((0 : Int), true), (0 : Int), a1.2.1, [])))))
theorem T5_e : @F_drvq_New.S = @T5_ := by
 delta F_drvq_New.S T5_
 simp only [OT.bind_e, OT.cond_e, T4_e, TRep_e, T3_e]
noncomputable def T6_ (k : Nat) (a1 : List (Int × Int × Bool)) (g0 : TY6 × (Int × Bool) × (Int × Bool) × (Int × Bool) × Int × Int × TY7) (g1 : List Int × Int × TY1) (R_l0 : Int → O TY2) (v2 : Int) : O TY2 :=
  OT.cond (decide (v2 < (List.length a1 : Int))) (
   OT.chk (decide (0 ≤ v2 ∧ v2 < (List.length a1 : Int) ∧ (List.length a1 : Int) ≤ (List.length a1 : Int))) (
    OT.chk (decide (0 ≤ v2 ∧ v2 < (List.length a1 : Int))) (
     OT.cond (decide ((gt ((0 : Int), (0 : Int), false) a1 v2).2.1 < (1 : Int))) (
      .ok ((150 : Int), (g0, g1))) (
      OT.bind (T1_ k ((gt ((0 : Int), (0 : Int), false) a1 v2).1) ((gt ((0 : Int), (0 : Int), false) a1 v2).2.1) g1) fun r4 =>
      OT.cond (!r4) (
       .ok ((150 : Int), (g0, g1))) (
       OT.cond (decide (v2 > (0 : Int))) (
        OT.chk (decide (0 ≤ (IntKind.i64.wrap (v2 - (1 : Int))) ∧ (IntKind.i64.wrap (v2 - (1 : Int))) < (List.length a1 : Int) ∧ (List.length a1 : Int) ≤ (List.length a1 : Int))) (
         OT.chk (decide (0 ≤ (IntKind.i64.wrap (v2 - (1 : Int))) ∧ (IntKind.i64.wrap (v2 - (1 : Int))) < (List.length a1 : Int))) (
          OT.cond ((gt ((0 : Int), (0 : Int), false) a1 (IntKind.i64.wrap (v2 - (1 : Int)))).2.2) (
           OT.cond (!((gt ((0 : Int), (0 : Int), false) a1 v2).2.2)) (
            .ok ((150 : Int), (g0, g1))) (
            R_l0 (IntKind.i64.wrap (v2 + (1 : Int))))) (
           R_l0 (IntKind.i64.wrap (v2 + (1 : Int))))))) (
        R_l0 (IntKind.i64.wrap (v2 + (1 : Int))))))))) (
   OT.cond (decide ((List.length a1 : Int) > g0.2.2.2.2.2.1)) (
    .ok ((151 : Int), (g0, g1))) (
    .ok ((0 : Int), (g0, g1))))
theorem T6_e : @F_drvq_Queue_may.l0_b = @T6_ := by
 delta F_drvq_Queue_may.l0_b T6_
 simp only [OT.bind_e, OT.cond_e, OT.chk_e, T1_e]
noncomputable def T7_ (k : Nat) (a1 : List (Int × Int × Bool)) (g0 : TY6 × (Int × Bool) × (Int × Bool) × (Int × Bool) × Int × Int × TY7) (g1 : List Int × Int × TY1) : Nat → Int → O TY2
 | 0, _ => .no
 | j + 1, v2 => T6_ k a1 g0 g1 (T7_ k a1 g0 g1 j) v2
theorem T7_e : @F_drvq_Queue_may.l0 = @T7_ := by
 funext k a1 g0 g1 j
 induction j with
 | zero => rfl
 | succ j ih =>
  funext  v2
  show F_drvq_Queue_may.l0_b k a1 g0 g1 (F_drvq_Queue_may.l0 k a1 g0 g1 j) v2 = T6_ k a1 g0 g1 (T7_ k a1 g0 g1 j) v2
  simp only [ih, T6_e]
noncomputable def T8_ (k : Nat) (a1 : List (Int × Int × Bool)) (g0 : TY6 × (Int × Bool) × (Int × Bool) × (Int × Bool) × Int × Int × TY7) (g1 : List Int × Int × TY1) (D_l0 : Int → O TY2) : O TY2 :=
  OT.cond (decide ((List.length a1 : Int) = (0 : Int))) (
   .ok ((150 : Int), (g0, g1))) (
   OT.cond (decide ((List.length a1 : Int) > (64 : Int))) (
    .ok ((150 : Int), (g0, g1))) (
    D_l0 (0 : Int)))
theorem T8_e : @F_drvq_Queue_may.top = @T8_ := by
 delta F_drvq_Queue_may.top T8_
 simp only [OT.cond_e]
noncomputable def T9_ (k : Nat) (a1 : List (Int × Int × Bool)) (g0 : TY6 × (Int × Bool) × (Int × Bool) × (Int × Bool) × Int × Int × TY7) (g1 : List Int × Int × TY1) : O TY2 := T8_ k a1 g0 g1 ((fun (v2 : Int) => T7_ k a1 g0 g1 k v2))
theorem T9_e : @F_drvq_Queue_may.S = @T9_ := by
 delta F_drvq_Queue_may.S T9_
 simp only [T8_e, T7_e]
noncomputable def T10_ (k : Nat) (a0 : Int) (a1 : Bool) (a2 : Bool) : O Int :=
  OT.cond a1 (
   OT.cond (decide (a1 = a2)) (
    .ok (bOr .i64 (bOr .i64 (bAndNot .i64 a0 (32896 : Int)) (128 : Int)) (32768 : Int))) (
    .ok (bOr .i64 (bAndNot .i64 a0 (32896 : Int)) (128 : Int)))) (
   OT.cond (decide (a1 = a2)) (
    .ok (bOr .i64 (bAndNot .i64 a0 (32896 : Int)) (32768 : Int))) (
    .ok (bAndNot .i64 a0 (32896 : Int))))
theorem T10_e : @F_desc_Mark.S = @T10_ := by
 delta F_desc_Mark.S T10_
 simp only [OT.cond_e]
noncomputable def T11_ (k : Nat) (a0 : Int) : O Bool :=
  OT.cond (decide (a0 = (1 : Int))) (
   .ok true) (
   OT.cond (decide (a0 = (2 : Int))) (
    .ok true) (
    OT.cond (decide (a0 = (4 : Int))) (
     .ok true) (
     .ok (decide (a0 = (8 : Int))))))
theorem T11_e : @F_gmem_sized.S = @T11_ := by
 delta F_gmem_sized.S T11_
 simp only [OT.cond_e]
noncomputable def T12_ (k : Nat) (a0 : Int) (a1 : Int) : O Bool :=
  OT.cond (decide (a1 ≥ (1 : Int))) (
   OT.cond (decide (a1 ≤ (8 : Int))) (
    OT.cond (decide (a1 = (8 : Int))) (
     .ok true) (
     OT.chk (decide (0 ≤ (IntKind.i64.wrap ((8 : Int) * a1)))) (
      .ok (decide ((shR .u64 a0 (IntKind.i64.wrap ((8 : Int) * a1))) = (0 : Int)))))) (
    .ok false)) (
   .ok false)
theorem T12_e : @F_words_may.S = @T12_ := by
 delta F_words_may.S T12_
 simp only [OT.cond_e, OT.chk_e]
noncomputable def T13_ (k : Nat) (a0 : ByteArray) (R_l0 : Int → (List Int) → O ByteArray) (v1 : Int) (v2 : List Int) : O ByteArray :=
  OT.cond (decide (v1 < (ByteArray.size a0 : Int))) (
   OT.chk (decide (0 ≤ v1 ∧ v1 < (ByteArray.size a0 : Int))) (
    OT.chk (decide (0 ≤ (IntKind.i64.wrap ((IntKind.i64.wrap ((ByteArray.size a0 : Int) - (1 : Int))) - v1)) ∧ (IntKind.i64.wrap ((IntKind.i64.wrap ((ByteArray.size a0 : Int) - (1 : Int))) - v1)) < (List.length v2 : Int) ∧ (List.length v2 : Int) ≤ (List.length v2 : Int))) (
     OT.chk (decide (0 ≤ (IntKind.i64.wrap ((IntKind.i64.wrap ((ByteArray.size a0 : Int) - (1 : Int))) - v1)) ∧ (IntKind.i64.wrap ((IntKind.i64.wrap ((ByteArray.size a0 : Int) - (1 : Int))) - v1)) < (List.length v2 : Int))) (
      R_l0 (IntKind.i64.wrap (v1 + (1 : Int))) (su v2 (IntKind.i64.wrap ((IntKind.i64.wrap ((ByteArray.size a0 : Int) - (1 : Int))) - v1)) (bt a0 v1)))))) (
   .ok (Go.Aq.strOf v2))
theorem T13_e : @F_words_Turn.l0_b = @T13_ := by
 delta F_words_Turn.l0_b T13_
 simp only [OT.cond_e, OT.chk_e]
noncomputable def T14_ (k : Nat) (a0 : ByteArray) : Nat → Int → (List Int) → O ByteArray
 | 0, _, _ => .no
 | j + 1, v1, v2 => T13_ k a0 (T14_ k a0 j) v1 v2
theorem T14_e : @F_words_Turn.l0 = @T14_ := by
 funext k a0 j
 induction j with
 | zero => rfl
 | succ j ih =>
  funext  v1  v2
  show F_words_Turn.l0_b k a0 (F_words_Turn.l0 k a0 j) v1 v2 = T13_ k a0 (T14_ k a0 j) v1 v2
  simp only [ih, T13_e]
noncomputable def T15_ (k : Nat) (a0 : ByteArray) (D_l0 : Int → (List Int) → O ByteArray) : O ByteArray :=
  OT.chk (decide (0 ≤ (ByteArray.size a0 : Int) ∧ (ByteArray.size a0 : Int) = (ByteArray.size a0 : Int) ∧ (ByteArray.size a0 : Int) ≤ 1073741824)) (
   D_l0 (0 : Int) (List.replicate (ByteArray.size a0 : Int).toNat (0 : Int)))
theorem T15_e : @F_words_Turn.top = @T15_ := by
 delta F_words_Turn.top T15_
 simp only [OT.chk_e]
noncomputable def T16_ (k : Nat) (a0 : ByteArray) : O ByteArray := T15_ k a0 ((fun (v1 : Int) (v2 : List Int) => T14_ k a0 k v1 v2))
theorem T16_e : @F_words_Turn.S = @T16_ := by
 delta F_words_Turn.S T16_
 simp only [T15_e, T14_e]
noncomputable def T17_ (k : Nat) (a0 : Int) (a1 : Int) (a2 : Bool) (R_l0 : Int → (List Int) → O (ByteArray × Int)) (v2 : Int) (v3 : List Int) : O (ByteArray × Int) :=
  OT.cond (decide (v2 < a1)) (
   OT.chk (decide (0 ≤ (IntKind.i64.wrap ((8 : Int) * v2)))) (
    OT.chk (decide (0 ≤ (IntKind.i64.wrap ((IntKind.i64.wrap (a1 - (1 : Int))) - v2)) ∧ (IntKind.i64.wrap ((IntKind.i64.wrap (a1 - (1 : Int))) - v2)) < (List.length v3 : Int) ∧ (List.length v3 : Int) ≤ (List.length v3 : Int))) (
     OT.chk (decide (0 ≤ (IntKind.i64.wrap ((IntKind.i64.wrap (a1 - (1 : Int))) - v2)) ∧ (IntKind.i64.wrap ((IntKind.i64.wrap (a1 - (1 : Int))) - v2)) < (List.length v3 : Int))) (
      R_l0 (IntKind.i64.wrap (v2 + (1 : Int))) (su v3 (IntKind.i64.wrap ((IntKind.i64.wrap (a1 - (1 : Int))) - v2)) (IntKind.u8.wrap (shR .u64 a0 (IntKind.i64.wrap ((8 : Int) * v2))))))))) (
   OT.cond (!a2) (
    OT.bind (T16_ k (Go.Aq.strOf v3)) fun r4 =>
    .ok (r4, (0 : Int))) (
    .ok ((Go.Aq.strOf v3), (0 : Int))))
theorem T17_e : @F_words_Put.l0_b = @T17_ := by
 delta F_words_Put.l0_b T17_
 simp only [OT.bind_e, OT.cond_e, OT.chk_e, T16_e]
noncomputable def T18_ (k : Nat) (a0 : Int) (a1 : Int) (a2 : Bool) : Nat → Int → (List Int) → O (ByteArray × Int)
 | 0, _, _ => .no
 | j + 1, v2, v3 => T17_ k a0 a1 a2 (T18_ k a0 a1 a2 j) v2 v3
theorem T18_e : @F_words_Put.l0 = @T18_ := by
 funext k a0 a1 a2 j
 induction j with
 | zero => rfl
 | succ j ih =>
  funext  v2  v3
  show F_words_Put.l0_b k a0 a1 a2 (F_words_Put.l0 k a0 a1 a2 j) v2 v3 = T17_ k a0 a1 a2 (T18_ k a0 a1 a2 j) v2 v3
  simp only [ih, T17_e]
noncomputable def T19_ (k : Nat) (a0 : Int) (a1 : Int) (a2 : Bool) (D_l0 : Int → (List Int) → O (ByteArray × Int)) : O (ByteArray × Int) :=
  OT.bind (T12_ k a0 a1) fun r1 =>
  OT.cond (!r1) (
   .ok ((⟨#[]⟩ : ByteArray), (1 : Int))) (
   OT.chk (decide (0 ≤ a1 ∧ a1 = a1 ∧ a1 ≤ 1073741824)) (
    D_l0 (0 : Int) (List.replicate a1.toNat (0 : Int))))
theorem T19_e : @F_words_Put.top = @T19_ := by
 delta F_words_Put.top T19_
 simp only [OT.bind_e, OT.cond_e, OT.chk_e, T12_e]
noncomputable def T20_ (k : Nat) (a0 : Int) (a1 : Int) (a2 : Bool) : O (ByteArray × Int) := T19_ k a0 a1 a2 ((fun (v2 : Int) (v3 : List Int) => T18_ k a0 a1 a2 k v2 v3))
theorem T20_e : @F_words_Put.S = @T20_ := by
 delta F_words_Put.S T20_
 simp only [T19_e, T18_e]
noncomputable def T21_ (k : Nat) (a1 : Int) (a2 : Int) (a3 : Int) (g0 : List Int × Int × TY1) : O (Int × List Int × Int × TY1) :=
  OT.bind (T11_ k a2) fun r1 =>
  OT.cond (!r1) (
   .ok ((1 : Int), g0)) (
   OT.bind (T20_ k a3 a2 false) fun r2 =>
   OT.cond (decide (r2.2 ≠ (0 : Int))) (
    .ok (r2.2, g0)) (
    OT.bind (T3_ k a1 r2.1 g0) fun r3 =>
    .ok (r3.1, r3.2)))
theorem T21_e : @F_gmem_Memory_Store.S = @T21_ := by
 delta F_gmem_Memory_Store.S T21_
 simp only [OT.bind_e, OT.cond_e, T11_e, T20_e, T3_e]
noncomputable def T22_ (k : Nat) (a0 : Int × Bool) (a1 : Int) : O Int :=
  OT.cond (decide (a1 < (1 : Int))) (
   .ok (130 : Int)) (
   OT.cond (decide (a1 > (32768 : Int))) (
    .ok (130 : Int)) (
    OT.cond (decide (a0.1 < (0 : Int))) (
     .ok (1 : Int)) (
     OT.cond (decide (a0.1 ≥ a1)) (
      .ok (1 : Int)) (
      .ok (0 : Int)))))
theorem T22_e : @F_spot_Check.S = @T22_ := by
 delta F_spot_Check.S T22_
 simp only [OT.cond_e]
noncomputable def T23_ (k : Nat) (a0 : Int × Bool) (a1 : Int) (a2 : Int) : O ((Int × Bool) × Int) :=
  OT.bind (T22_ k a0 a2) fun r1 =>
  OT.cond (decide (r1 ≠ (0 : Int))) (
   .ok (((0 : Int), false), r1)) (
   OT.cond (decide (a1 < (0 : Int))) (
    .ok (((0 : Int), false), (1 : Int))) (
    OT.cond (decide (a1 > a2)) (
     .ok (((0 : Int), false), (1 : Int))) (
     OT.cond (decide ((IntKind.i64.wrap (a0.1 + a1)) ≥ a2)) (
      .ok (((IntKind.i64.wrap ((IntKind.i64.wrap (a0.1 + a1)) - a2)), (!a0.2)), (0 : Int))) (
      .ok (((IntKind.i64.wrap (a0.1 + a1)), a0.2), (0 : Int))))))
theorem T23_e : @F_spot_Next.S = @T23_ := by
 delta F_spot_Next.S T23_
 simp only [OT.bind_e, OT.cond_e, T22_e]
noncomputable def T24_ (k : Nat) (a1 : List TY9) (r2 : Int × TY3 × TY4) (v122 : Int) (v123 : Int) (v124 : Int) (v125 : Bool) (v126 : List Int) (v127 : List TY5) (v128 : Int) (R_l1 : Int → Int → Int → Bool → (List Int) → TY1 → Int → O TY8) (v158 : Int) : O TY8 :=
  OT.bind (T10_ k v158 v125 false) fun r160 =>
  OT.bind (T21_ k (IntKind.i64.wrap (r2.2.1.1.1 + (IntKind.i64.wrap ((16 : Int) * v124)))) (8 : Int) (IntKind.u64.wrap (gt ((0 : Int), (0 : Int), false) a1 v123).1) (v126, v128, v127)) fun r162 =>
  OT.bind (T21_ k (IntKind.i64.wrap ((IntKind.i64.wrap (r2.2.1.1.1 + (IntKind.i64.wrap ((16 : Int) * v124)))) + (8 : Int))) (4 : Int) (IntKind.u64.wrap (gt ((0 : Int), (0 : Int), false) a1 v123).2.1) r162.2) fun r163 =>
  OT.bind (T21_ k (IntKind.i64.wrap ((IntKind.i64.wrap (r2.2.1.1.1 + (IntKind.i64.wrap ((16 : Int) * v124)))) + (12 : Int))) (2 : Int) (IntKind.u64.wrap ((leastN r2.2.1.2.2.2.2.2.2 : Nat) : Int)) r163.2) fun r164 =>
  OT.cond (decide (v123 = (0 : Int))) (
   OT.bind (T23_ k (v124, v125) (1 : Int) r2.2.1.1.2.1) fun r165 =>
   R_l1 r160 (IntKind.i64.wrap (v123 + (1 : Int))) r165.1.1 r165.1.2 r164.2.1 r164.2.2.2 r164.2.2.1) (
   OT.bind (T21_ k (IntKind.i64.wrap ((IntKind.i64.wrap (r2.2.1.1.1 + (IntKind.i64.wrap ((16 : Int) * v124)))) + (14 : Int))) (2 : Int) (IntKind.u64.wrap r160) r164.2) fun r166 =>
   OT.bind (T23_ k (v124, v125) (1 : Int) r2.2.1.1.2.1) fun r167 =>
   R_l1 v122 (IntKind.i64.wrap (v123 + (1 : Int))) r167.1.1 r167.1.2 r166.2.1 r166.2.2.2 r166.2.2.1)
theorem T24_e : @F_drvq_Queue_Post.j9_b = @T24_ := by
 delta F_drvq_Queue_Post.j9_b T24_
 simp only [OT.bind_e, OT.cond_e, T10_e, T21_e, T23_e]
noncomputable def T25_ (k : Nat) (a1 : List TY9) (r2 : Int × TY3 × TY4) (v122 : Int) (v123 : Int) (v124 : Int) (v125 : Bool) (v126 : List Int) (v127 : List TY5) (v128 : Int) (R_l1 : Int → Int → Int → Bool → (List Int) → TY1 → Int → O TY8) (v158 : Int) : O TY8 := T24_ k a1 r2 v122 v123 v124 v125 v126 v127 v128 R_l1 v158
theorem T25_e : @F_drvq_Queue_Post.j9 = @T25_ := by
 delta F_drvq_Queue_Post.j9 T25_
 simp only [T24_e]
noncomputable def T26_ (k : Nat) (a1 : List TY9) (r2 : Int × TY3 × TY4) (v122 : Int) (v123 : Int) (v124 : Int) (v125 : Bool) (v126 : List Int) (v127 : List TY5) (v128 : Int) (R_l1 : Int → Int → Int → Bool → (List Int) → TY1 → Int → O TY8) (D_j9 : Int → O TY8) (v157 : Int) : O TY8 :=
  OT.cond ((gt ((0 : Int), (0 : Int), false) a1 v123).2.2) (
   D_j9 (bOr .i64 v157 (2 : Int))) (
   D_j9 v157)
theorem T26_e : @F_drvq_Queue_Post.j8_b = @T26_ := by
 delta F_drvq_Queue_Post.j8_b T26_
 simp only [OT.cond_e]
noncomputable def T27_ (k : Nat) (a1 : List TY9) (r2 : Int × TY3 × TY4) (v122 : Int) (v123 : Int) (v124 : Int) (v125 : Bool) (v126 : List Int) (v127 : List TY5) (v128 : Int) (R_l1 : Int → Int → Int → Bool → (List Int) → TY1 → Int → O TY8) (v157 : Int) : O TY8 := T26_ k a1 r2 v122 v123 v124 v125 v126 v127 v128 R_l1 ((fun (v158 : Int) => T25_ k a1 r2 v122 v123 v124 v125 v126 v127 v128 R_l1 v158)) v157
theorem T27_e : @F_drvq_Queue_Post.j8 = @T27_ := by
 delta F_drvq_Queue_Post.j8 T27_
 simp only [T26_e, T25_e]
noncomputable def T28_ (k : Nat) (a1 : List TY9) (r2 : Int × TY3 × TY4) (R_l1 : Int → Int → Int → Bool → (List Int) → TY1 → Int → O TY8) (D_j8 : Int → Int → Int → Bool → (List Int) → TY1 → Int → Int → O TY8) (v122 : Int) (v123 : Int) (v124 : Int) (v125 : Bool) (v126 : List Int) (v127 : List TY5) (v128 : Int) : O TY8 :=
  OT.cond (decide (v123 < (List.length a1 : Int))) (
   OT.chk (decide (0 ≤ v123 ∧ v123 < (List.length a1 : Int) ∧ (List.length a1 : Int) ≤ (List.length a1 : Int))) (
    OT.chk (decide (0 ≤ v123 ∧ v123 < (List.length a1 : Int))) (
     OT.cond (decide (v123 < (IntKind.i64.wrap ((List.length a1 : Int) - (1 : Int))))) (
      D_j8 v122 v123 v124 v125 v126 v127 v128 (1 : Int)) (
      D_j8 v122 v123 v124 v125 v126 v127 v128 (0 : Int))))) (
   OT.bind (T21_ k (IntKind.i64.wrap ((IntKind.i64.wrap (r2.2.1.1.1 + (IntKind.i64.wrap ((16 : Int) * r2.2.1.2.1.1)))) + (14 : Int))) (2 : Int) (IntKind.u64.wrap v122) (v126, v128, v127)) fun r169 =>
   .ok ((((leastN r2.2.1.2.2.2.2.2.2 : Nat) : Int), (0 : Int)), ((r2.2.1.1, (v124, v125), r2.2.1.2.2.1, r2.2.1.2.2.2.1, (min (IntKind.i64.wrap (r2.2.1.2.2.2.2.1 + (List.length a1 : Int))) (IntKind.i64.wrap ((2 : Int) * r2.2.1.1.2.1))), (IntKind.i64.wrap (r2.2.1.2.2.2.2.2.1 - (List.length a1 : Int))), (mput r2.2.1.2.2.2.2.2.2 ((leastN r2.2.1.2.2.2.2.2.2 : Nat) : Int) (List.length a1 : Int))), r169.2)))
theorem T28_e : @F_drvq_Queue_Post.l1_b = @T28_ := by
 delta F_drvq_Queue_Post.l1_b T28_
 simp only [OT.bind_e, OT.cond_e, OT.chk_e, T21_e]
noncomputable def T29_ (k : Nat) (a1 : List TY9) (r2 : Int × TY3 × TY4) : Nat → Int → Int → Int → Bool → (List Int) → TY1 → Int → O TY8
 | 0, _, _, _, _, _, _, _ => .no
 | j + 1, v122, v123, v124, v125, v126, v127, v128 => T28_ k a1 r2 (T29_ k a1 r2 j) ((fun (v122 : Int) (v123 : Int) (v124 : Int) (v125 : Bool) (v126 : List Int) (v127 : List TY5) (v128 : Int) (v157 : Int) => T27_ k a1 r2 v122 v123 v124 v125 v126 v127 v128 (T29_ k a1 r2 j) v157)) v122 v123 v124 v125 v126 v127 v128
theorem T29_e : @F_drvq_Queue_Post.l1 = @T29_ := by
 funext k a1 r2 j
 induction j with
 | zero => rfl
 | succ j ih =>
  funext  v122  v123  v124  v125  v126  v127  v128
  show F_drvq_Queue_Post.l1_b k a1 r2 (F_drvq_Queue_Post.l1 k a1 r2 j) ((fun (v122 : Int) (v123 : Int) (v124 : Int) (v125 : Bool) (v126 : List Int) (v127 : List TY5) (v128 : Int) (v157 : Int) => F_drvq_Queue_Post.j8 k a1 r2 v122 v123 v124 v125 v126 v127 v128 (F_drvq_Queue_Post.l1 k a1 r2 j) v157)) v122 v123 v124 v125 v126 v127 v128 = T28_ k a1 r2 (T29_ k a1 r2 j) ((fun (v122 : Int) (v123 : Int) (v124 : Int) (v125 : Bool) (v126 : List Int) (v127 : List TY5) (v128 : Int) (v157 : Int) => T27_ k a1 r2 v122 v123 v124 v125 v126 v127 v128 (T29_ k a1 r2 j) v157)) v122 v123 v124 v125 v126 v127 v128
  simp only [ih, T28_e, T27_e]
noncomputable def T30_ (k : Nat) (a1 : List TY9) (r2 : Int × TY3 × TY4) (D_l1 : Int → Int → Int → Bool → (List Int) → TY1 → Int → O TY8) : O TY8 :=
 D_l1 (0 : Int) (0 : Int) r2.2.1.2.1.1 r2.2.1.2.1.2 r2.2.2.1 r2.2.2.2.2 r2.2.2.2.1
theorem T30_e : @F_drvq_Queue_Post.j2_b = @T30_ := by
 delta F_drvq_Queue_Post.j2_b T30_
 simp only []
noncomputable def T31_ (k : Nat) (a1 : List TY9) (r2 : Int × TY3 × TY4) : O TY8 := T30_ k a1 r2 ((fun (v122 : Int) (v123 : Int) (v124 : Int) (v125 : Bool) (v126 : List Int) (v127 : List TY5) (v128 : Int) => T29_ k a1 r2 k v122 v123 v124 v125 v126 v127 v128))
theorem T31_e : @F_drvq_Queue_Post.j2 = @T31_ := by
 delta F_drvq_Queue_Post.j2 T31_
 simp only [T30_e, T29_e]
noncomputable def T32_ (k : Nat) (a1 : List TY9) (g0 : TY6 × (Int × Bool) × (Int × Bool) × (Int × Bool) × Int × Int × TY7) (g1 : List Int × Int × TY1) (D_j2 : TY2 → O TY8) : O TY8 :=
  OT.bind (T9_ k a1 g0 g1) fun r2 =>
  OT.cond (decide (r2.1 ≠ (0 : Int))) (
   .ok (((0 : Int), r2.1), (r2.2.1, r2.2.2))) (
   OT.twice (
    OT.chk (decide (List.length r2.2.1.2.2.2.2.2.2 ≤ 1000000)) (
     D_j2 r2)))
theorem T32_e : @F_drvq_Queue_Post.top = @T32_ := by
 delta F_drvq_Queue_Post.top T32_
 simp only [OT.bind_e, OT.cond_e, OT.chk_e, OT.twice_e, T9_e]
noncomputable def T33_ (k : Nat) (a1 : List TY9) (g0 : TY6 × (Int × Bool) × (Int × Bool) × (Int × Bool) × Int × Int × TY7) (g1 : List Int × Int × TY1) : O TY8 := T32_ k a1 g0 g1 ((fun (r2 : Int × TY3 × TY4) => T31_ k a1 r2))
theorem T33_e : @F_drvq_Queue_Post.S = @T33_ := by
 delta F_drvq_Queue_Post.S T33_
 simp only [T32_e, T31_e]
noncomputable def T34_ (k : Nat) (a1 : Int) (a2 : Int) (g0 : List Int × Int × TY1) : O ((ByteArray × Int) × List Int × Int × TY1) :=
  OT.cond (decide (a2 < (0 : Int))) (
   .ok (((⟨#[]⟩ : ByteArray), (1 : Int)), g0)) (
   OT.bind (T1_ k a1 a2 g0) fun r1 =>
   OT.cond (!r1) (
    .ok (((⟨#[]⟩ : ByteArray), (41 : Int)), g0)) (
    OT.cond (decide (a2 = (0 : Int))) (
     OT.chk (decide (0 ≤ a1 ∧ a1 ≤ (IntKind.i64.wrap (a1 + a2)) ∧ (IntKind.i64.wrap (a1 + a2)) ≤ (List.length g0.1 : Int)) && (decide (0 ≤ (List.length g0.1 : Int) ∧ (List.length g0.1 : Int) ≤ (List.length g0.1 : Int)))) (
      OT.chk (posI [a1] && decide (0 ≤ ((IntKind.i64.wrap (a1 + a2)) - a1) ∧ sumI [a1] + ((IntKind.i64.wrap (a1 + a2)) - a1) ≤ (List.length g0.1 : Int))) (
       .ok (((Go.Aq.strOf (sub g0.1 (sumI [a1]) ((IntKind.i64.wrap (a1 + a2)) - a1))), (0 : Int)), g0)))) (
     OT.chk (decide (List.length g0.2.2 + List.length [(g0.2.1, a1, a2, false)] ≤ 1073741824)) (
      OT.cond (decide ((List.length (g0.2.2 ++ [(g0.2.1, a1, a2, false)]) : Int) > (8192 : Int))) (
       OT.chk (decide (0 ≤ (IntKind.i64.wrap ((List.length (g0.2.2 ++ [(g0.2.1, a1, a2, false)]) : Int) - (4096 : Int))) ∧ (IntKind.i64.wrap ((List.length (g0.2.2 ++ [(g0.2.1, a1, a2, false)]) : Int) - (4096 : Int))) ≤ (List.length (g0.2.2 ++ [(g0.2.1, a1, a2, false)]) : Int)) && (decide (0 ≤ (List.length (g0.2.2 ++ [(g0.2.1, a1, a2, false)]) : Int) ∧ (List.length (g0.2.2 ++ [(g0.2.1, a1, a2, false)]) : Int) ≤ (List.length (g0.2.2 ++ [(g0.2.1, a1, a2, false)]) : Int)))) (
        OT.chk (posI [(IntKind.i64.wrap ((List.length (g0.2.2 ++ [(g0.2.1, a1, a2, false)]) : Int) - (4096 : Int)))] && decide (0 ≤ ((List.length (g0.2.2 ++ [(g0.2.1, a1, a2, false)]) : Int) - (IntKind.i64.wrap ((List.length (g0.2.2 ++ [(g0.2.1, a1, a2, false)]) : Int) - (4096 : Int)))) ∧ sumI [(IntKind.i64.wrap ((List.length (g0.2.2 ++ [(g0.2.1, a1, a2, false)]) : Int) - (4096 : Int)))] + ((List.length (g0.2.2 ++ [(g0.2.1, a1, a2, false)]) : Int) - (IntKind.i64.wrap ((List.length (g0.2.2 ++ [(g0.2.1, a1, a2, false)]) : Int) - (4096 : Int)))) ≤ (List.length (g0.2.2 ++ [(g0.2.1, a1, a2, false)]) : Int))) (
         OT.bind (T2_ k (sub (g0.2.2 ++ [(g0.2.1, a1, a2, false)]) (sumI [(IntKind.i64.wrap ((List.length (g0.2.2 ++ [(g0.2.1, a1, a2, false)]) : Int) - (4096 : Int)))]) ((List.length (g0.2.2 ++ [(g0.2.1, a1, a2, false)]) : Int) - (IntKind.i64.wrap ((List.length (g0.2.2 ++ [(g0.2.1, a1, a2, false)]) : Int) - (4096 : Int)))))) fun r2 =>
         OT.chk (decide (0 ≤ a1 ∧ a1 ≤ (IntKind.i64.wrap (a1 + a2)) ∧ (IntKind.i64.wrap (a1 + a2)) ≤ (List.length g0.1 : Int)) && (decide (0 ≤ (List.length g0.1 : Int) ∧ (List.length g0.1 : Int) ≤ (List.length g0.1 : Int)))) (
          OT.chk (posI [a1] && decide (0 ≤ ((IntKind.i64.wrap (a1 + a2)) - a1) ∧ sumI [a1] + ((IntKind.i64.wrap (a1 + a2)) - a1) ≤ (List.length g0.1 : Int))) (
           .ok (((Go.Aq.strOf (sub g0.1 (sumI [a1]) ((IntKind.i64.wrap (a1 + a2)) - a1))), (0 : Int)), (g0.1, g0.2.1, r2))))))) (
       OT.chk (decide (0 ≤ a1 ∧ a1 ≤ (IntKind.i64.wrap (a1 + a2)) ∧ (IntKind.i64.wrap (a1 + a2)) ≤ (List.length g0.1 : Int)) && (decide (0 ≤ (List.length g0.1 : Int) ∧ (List.length g0.1 : Int) ≤ (List.length g0.1 : Int)))) (
        OT.chk (posI [a1] && decide (0 ≤ ((IntKind.i64.wrap (a1 + a2)) - a1) ∧ sumI [a1] + ((IntKind.i64.wrap (a1 + a2)) - a1) ≤ (List.length g0.1 : Int))) (
         .ok (((Go.Aq.strOf (sub g0.1 (sumI [a1]) ((IntKind.i64.wrap (a1 + a2)) - a1))), (0 : Int)), (g0.1, g0.2.1, (g0.2.2 ++ [(g0.2.1, a1, a2, false)]))))))))))
theorem T34_e : @F_gmem_Memory_Read.S = @T34_ := by
 delta F_gmem_Memory_Read.S T34_
 simp only [OT.bind_e, OT.cond_e, OT.chk_e, T1_e, T2_e]
noncomputable def T35_ (k : Nat) (a2 : Int) (r1 : ByteArray) (R_l0 : Int → Int → O (Int × Int)) (v2 : Int) (v3 : Int) : O (Int × Int) :=
  OT.cond (decide (v3 < a2)) (
   OT.chk (decide (0 ≤ v3 ∧ v3 < (ByteArray.size r1 : Int))) (
    R_l0 (bOr .u64 (shL .u64 v2 (8 : Int)) (IntKind.u64.wrap (bt r1 v3))) (IntKind.i64.wrap (v3 + (1 : Int))))) (
   .ok (v2, (0 : Int)))
theorem T35_e : @F_words_Get.l0_b = @T35_ := by
 delta F_words_Get.l0_b T35_
 simp only [OT.cond_e, OT.chk_e]
noncomputable def T36_ (k : Nat) (a2 : Int) (r1 : ByteArray) : Nat → Int → Int → O (Int × Int)
 | 0, _, _ => .no
 | j + 1, v2, v3 => T35_ k a2 r1 (T36_ k a2 r1 j) v2 v3
theorem T36_e : @F_words_Get.l0 = @T36_ := by
 funext k a2 r1 j
 induction j with
 | zero => rfl
 | succ j ih =>
  funext  v2  v3
  show F_words_Get.l0_b k a2 r1 (F_words_Get.l0 k a2 r1 j) v2 v3 = T35_ k a2 r1 (T36_ k a2 r1 j) v2 v3
  simp only [ih, T35_e]
noncomputable def T37_ (k : Nat) (a0 : ByteArray) (a1 : Int) (a2 : Int) (R_l1 : Int → Int → O (Int × Int)) (v4 : Int) (v5 : Int) : O (Int × Int) :=
  OT.cond (decide (v5 < a2)) (
   OT.chk (decide (0 ≤ v5 ∧ v5 < (ByteArray.size (ByteArray.extract a0 a1.toNat (IntKind.i64.wrap (a1 + a2)).toNat) : Int))) (
    R_l1 (bOr .u64 (shL .u64 v4 (8 : Int)) (IntKind.u64.wrap (bt (ByteArray.extract a0 a1.toNat (IntKind.i64.wrap (a1 + a2)).toNat) v5))) (IntKind.i64.wrap (v5 + (1 : Int))))) (
   .ok (v4, (0 : Int)))
theorem T37_e : @F_words_Get.l1_b = @T37_ := by
 delta F_words_Get.l1_b T37_
 simp only [OT.cond_e, OT.chk_e]
noncomputable def T38_ (k : Nat) (a0 : ByteArray) (a1 : Int) (a2 : Int) : Nat → Int → Int → O (Int × Int)
 | 0, _, _ => .no
 | j + 1, v4, v5 => T37_ k a0 a1 a2 (T38_ k a0 a1 a2 j) v4 v5
theorem T38_e : @F_words_Get.l1 = @T38_ := by
 funext k a0 a1 a2 j
 induction j with
 | zero => rfl
 | succ j ih =>
  funext  v4  v5
  show F_words_Get.l1_b k a0 a1 a2 (F_words_Get.l1 k a0 a1 a2 j) v4 v5 = T37_ k a0 a1 a2 (T38_ k a0 a1 a2 j) v4 v5
  simp only [ih, T37_e]
noncomputable def T39_ (k : Nat) (a0 : ByteArray) (a1 : Int) (a2 : Int) (a3 : Bool) (D_l0 : ByteArray → Int → Int → O (Int × Int)) (D_l1 : Int → Int → O (Int × Int)) : O (Int × Int) :=
  OT.cond (decide (a2 < (1 : Int))) (
   .ok ((0 : Int), (1 : Int))) (
   OT.cond (decide (a2 > (8 : Int))) (
    .ok ((0 : Int), (1 : Int))) (
    OT.cond (decide (a1 < (0 : Int))) (
     .ok ((0 : Int), (10 : Int))) (
     OT.cond (decide (a1 > (IntKind.i64.wrap ((ByteArray.size a0 : Int) - a2)))) (
      .ok ((0 : Int), (10 : Int))) (
      OT.chk (decide (0 ≤ a1 ∧ a1 ≤ (IntKind.i64.wrap (a1 + a2)) ∧ (IntKind.i64.wrap (a1 + a2)) ≤ (ByteArray.size a0 : Int))) (
       OT.cond (!a3) (
        OT.bind (T16_ k (ByteArray.extract a0 a1.toNat (IntKind.i64.wrap (a1 + a2)).toNat)) fun r1 =>
        D_l0 r1 (0 : Int) (0 : Int)) (
        D_l1 (0 : Int) (0 : Int)))))))
theorem T39_e : @F_words_Get.top = @T39_ := by
 delta F_words_Get.top T39_
 simp only [OT.bind_e, OT.cond_e, OT.chk_e, T16_e]
noncomputable def T40_ (k : Nat) (a0 : ByteArray) (a1 : Int) (a2 : Int) (a3 : Bool) : O (Int × Int) := T39_ k a0 a1 a2 a3 ((fun (r1 : ByteArray) (v2 : Int) (v3 : Int) => T36_ k a2 r1 k v2 v3)) ((fun (v4 : Int) (v5 : Int) => T38_ k a0 a1 a2 k v4 v5))
theorem T40_e : @F_words_Get.S = @T40_ := by
 delta F_words_Get.S T40_
 simp only [T39_e, T36_e, T38_e]
noncomputable def T41_ (k : Nat) (a0 : ByteArray) : O (TY6 × Int) :=
  OT.cond (decide ((ByteArray.size a0 : Int) ≠ (16 : Int))) (
   .ok (((0 : Int), (0 : Int), (0 : Int), (0 : Int)), (1 : Int))) (
   OT.bind (T40_ k a0 (0 : Int) (8 : Int) false) fun r1 =>
   OT.bind (T40_ k a0 (8 : Int) (4 : Int) false) fun r2 =>
   OT.bind (T40_ k a0 (12 : Int) (2 : Int) false) fun r3 =>
   OT.bind (T40_ k a0 (14 : Int) (2 : Int) false) fun r4 =>
   .ok ((r1.1, (IntKind.u32.wrap r2.1), (IntKind.i64.wrap r3.1), (IntKind.i64.wrap r4.1)), (0 : Int)))
theorem T41_e : @F_desc_Parse.S = @T41_ := by
 delta F_desc_Parse.S T41_
 simp only [OT.bind_e, OT.cond_e, T40_e]
noncomputable def T42_ (k : Nat) (a0 : Int) (a1 : Bool) : O Int :=
  OT.cond (decide ((decide ((bAnd .i64 a0 (128 : Int)) ≠ (0 : Int))) = (decide ((bAnd .i64 a0 (32768 : Int)) ≠ (0 : Int))))) (
   OT.cond (decide ((decide ((bAnd .i64 a0 (128 : Int)) ≠ (0 : Int))) = a1)) (
    .ok (2 : Int)) (
    OT.cond (decide ((decide ((bAnd .i64 a0 (128 : Int)) ≠ (0 : Int))) ≠ (decide ((bAnd .i64 a0 (32768 : Int)) ≠ (0 : Int))))) (
     OT.cond (decide ((decide ((bAnd .i64 a0 (128 : Int)) ≠ (0 : Int))) = a1)) (
      .ok (1 : Int)) (
      .ok (0 : Int))) (
     .ok (0 : Int)))) (
   OT.cond (decide ((decide ((bAnd .i64 a0 (128 : Int)) ≠ (0 : Int))) ≠ (decide ((bAnd .i64 a0 (32768 : Int)) ≠ (0 : Int))))) (
    OT.cond (decide ((decide ((bAnd .i64 a0 (128 : Int)) ≠ (0 : Int))) = a1)) (
     .ok (1 : Int)) (
     .ok (0 : Int))) (
    .ok (0 : Int)))
theorem T42_e : @F_desc_says.S = @T42_ := by
 delta F_desc_says.S T42_
 simp only [OT.cond_e]
noncomputable def T43_ (k : Nat) (a0 : Int) (a1 : Bool) : O Bool :=
 OT.bind (T42_ k a0 a1) fun r1 =>
 .ok (decide (r1 = (2 : Int)))
theorem T43_e : @F_desc_Used.S = @T43_ := by
 delta F_desc_Used.S T43_
 simp only [OT.bind_e, T42_e]
noncomputable def T44_ (k : Nat) (g0 : TY6 × (Int × Bool) × (Int × Bool) × (Int × Bool) × Int × Int × TY7) (g1 : List Int × Int × TY1) : O ((Int × Int × Bool × Int) × TY3 × TY4) :=
  OT.bind (T34_ k (IntKind.i64.wrap (g0.1.1 + (IntKind.i64.wrap ((16 : Int) * g0.2.2.1.1)))) (16 : Int) g1) fun r2 =>
  OT.bind (T41_ k r2.1.1) fun r4 =>
  OT.bind (T43_ k r4.1.2.2.2 g0.2.2.1.2) fun r6 =>
  OT.cond (!r6) (
   .ok (((0 : Int), (0 : Int), false, (0 : Int)), (g0, r2.2))) (
   OT.cond (!(mhas g0.2.2.2.2.2.2 r4.1.2.2.1)) (
    .ok (((0 : Int), (0 : Int), false, (150 : Int)), (g0, r2.2))) (
    OT.bind (T23_ k g0.2.2.1 (mget (0 : Int) g0.2.2.2.2.2.2 r4.1.2.2.1) g0.1.2.1) fun r7 =>
    .ok ((r4.1.2.2.1, (IntKind.i64.wrap r4.1.2.1), true, (0 : Int)), ((g0.1, g0.2.1, r7.1, g0.2.2.2.1, g0.2.2.2.2.1, (IntKind.i64.wrap (g0.2.2.2.2.2.1 + (mget (0 : Int) g0.2.2.2.2.2.2 r4.1.2.2.1))), (mdel g0.2.2.2.2.2.2 r4.1.2.2.1)), r2.2))))
theorem T44_e : @F_drvq_Queue_Reap.S = @T44_ := by
 delta F_drvq_Queue_Reap.S T44_
 simp only [OT.bind_e, OT.cond_e, T34_e, T41_e, T43_e, T23_e]
noncomputable def T45_ (k : Nat) (a0 : Int) : O (Int ⊕ (Int × ByteArray × Int × TY1)) :=
  OT.cond (decide (a0 < (64 : Int))) (
   .ok (.inl (40 : Int))) (
   OT.cond (decide (a0 > (1048576 : Int))) (
    .ok (.inl (40 : Int))) (
    OT.chk (decide (0 ≤ a0 ∧ a0 = a0 ∧ a0 ≤ 1073741824)) (
     .ok (.inr ((0 : Int), ((Go.Aq.strOf (List.replicate a0.toNat (0 : Int))), (0 : Int), []))))))
theorem T45_e : @F_aqueductref04_New.S = @T45_ := by
 delta F_aqueductref04_New.S T45_
 simp only [OT.cond_e, OT.chk_e]
noncomputable def T46_ (k : Nat) (a1 : Int) (a2 : Int) (g0 : ByteArray × Int × TY1) : O Bool :=
  OT.cond (decide (a1 ≥ (0 : Int))) (
   OT.cond (decide (a2 ≥ (0 : Int))) (
    OT.cond (decide (a2 ≤ (ByteArray.size g0.1 : Int))) (
     .ok (decide (a1 ≤ (IntKind.i64.wrap ((ByteArray.size g0.1 : Int) - a2))))) (
     .ok false)) (
    .ok false)) (
   .ok false)
theorem T46_e : @F_aqueductref04_Memory_May.S = @T46_ := by
 delta F_aqueductref04_Memory_May.S T46_
 simp only [OT.cond_e]
noncomputable def T47_ (k : Nat) (a1 : Int) (a2 : Int) (a3 : Bool) (g0 : ByteArray × Int × TY1) : O (ByteArray × Int × TY1) :=
  OT.cond (decide (a2 > (0 : Int))) (
   OT.same (
    OT.same (
     OT.chk (decide ((0 : Nat) + List.length g0.2.2 ≤ 1073741824)) (
      OT.chk (decide (List.length ([] ++ g0.2.2) + List.length [(g0.2.1, a1, a2, a3)] ≤ 1073741824)) (
       OT.cond (decide ((List.length (([] ++ g0.2.2) ++ [(g0.2.1, a1, a2, a3)]) : Int) > (4096 : Int))) (
        OT.chk (decide (0 ≤ (1 : Int) ∧ (1 : Int) ≤ (List.length (([] ++ g0.2.2) ++ [(g0.2.1, a1, a2, a3)]) : Int)) && (decide (0 ≤ (List.length (([] ++ g0.2.2) ++ [(g0.2.1, a1, a2, a3)]) : Int) ∧ (List.length (([] ++ g0.2.2) ++ [(g0.2.1, a1, a2, a3)]) : Int) ≤ (List.length (([] ++ g0.2.2) ++ [(g0.2.1, a1, a2, a3)]) : Int)))) (
         .no)) (
        .ok (g0.1, g0.2.1, (([] ++ g0.2.2) ++ [(g0.2.1, a1, a2, a3)])))))) (
     OT.twice (
      OT.chk (decide ((0 : Nat) + List.length g0.2.2 ≤ 1073741824)) (
       OT.chk (decide (List.length ([] ++ g0.2.2) + List.length [(g0.2.1, a1, a2, a3)] ≤ 1073741824)) (
        OT.cond (decide ((List.length (([] ++ g0.2.2) ++ [(g0.2.1, a1, a2, a3)]) : Int) > (4096 : Int))) (
         OT.chk (decide (0 ≤ (1 : Int) ∧ (1 : Int) ≤ (List.length (([] ++ g0.2.2) ++ [(g0.2.1, a1, a2, a3)]) : Int)) && (decide (0 ≤ (List.length (([] ++ g0.2.2) ++ [(g0.2.1, a1, a2, a3)]) : Int) ∧ (List.length (([] ++ g0.2.2) ++ [(g0.2.1, a1, a2, a3)]) : Int) ≤ (List.length (([] ++ g0.2.2) ++ [(g0.2.1, a1, a2, a3)]) : Int)))) (
          .no)) (
         .ok (g0.1, g0.2.1, (([] ++ g0.2.2) ++ [(g0.2.1, a1, a2, a3)])))))))) (
    OT.same (
     OT.twice (
      OT.chk (decide ((0 : Nat) + List.length g0.2.2 ≤ 1073741824)) (
       OT.chk (decide (List.length ([] ++ g0.2.2) + List.length [(g0.2.1, a1, a2, a3)] ≤ 1073741824)) (
        OT.cond (decide ((List.length (([] ++ g0.2.2) ++ [(g0.2.1, a1, a2, a3)]) : Int) > (4096 : Int))) (
         OT.chk (decide (0 ≤ (1 : Int) ∧ (1 : Int) ≤ (List.length (([] ++ g0.2.2) ++ [(g0.2.1, a1, a2, a3)]) : Int)) && (decide (0 ≤ (List.length (([] ++ g0.2.2) ++ [(g0.2.1, a1, a2, a3)]) : Int) ∧ (List.length (([] ++ g0.2.2) ++ [(g0.2.1, a1, a2, a3)]) : Int) ≤ (List.length (([] ++ g0.2.2) ++ [(g0.2.1, a1, a2, a3)]) : Int)))) (
          .no)) (
         .ok (g0.1, g0.2.1, (([] ++ g0.2.2) ++ [(g0.2.1, a1, a2, a3)]))))))) (
     OT.chk (decide ((0 : Nat) + List.length g0.2.2 ≤ 1073741824)) (
      OT.chk (decide (List.length ([] ++ g0.2.2) + List.length [(g0.2.1, a1, a2, a3)] ≤ 1073741824)) (
       OT.cond (decide ((List.length (([] ++ g0.2.2) ++ [(g0.2.1, a1, a2, a3)]) : Int) > (4096 : Int))) (
        OT.chk (decide (0 ≤ (1 : Int) ∧ (1 : Int) ≤ (List.length (([] ++ g0.2.2) ++ [(g0.2.1, a1, a2, a3)]) : Int)) && (decide (0 ≤ (List.length (([] ++ g0.2.2) ++ [(g0.2.1, a1, a2, a3)]) : Int) ∧ (List.length (([] ++ g0.2.2) ++ [(g0.2.1, a1, a2, a3)]) : Int) ≤ (List.length (([] ++ g0.2.2) ++ [(g0.2.1, a1, a2, a3)]) : Int)))) (
         .no)) (
        .ok (g0.1, g0.2.1, (([] ++ g0.2.2) ++ [(g0.2.1, a1, a2, a3)])))))))) (
   OT.cond (decide ((List.length g0.2.2 : Int) > (4096 : Int))) (
    OT.chk (decide (0 ≤ (1 : Int) ∧ (1 : Int) ≤ (List.length g0.2.2 : Int)) && (decide (0 ≤ (List.length g0.2.2 : Int) ∧ (List.length g0.2.2 : Int) ≤ (List.length g0.2.2 : Int)))) (
     .no)) (
    .ok g0))
theorem T47_e : @F_aqueductref04_Memory_note.S = @T47_ := by
 delta F_aqueductref04_Memory_note.S T47_
 simp only [O.twice_eq, OT.same_self, OT.same, OT.twice, OT.cond_e, OT.chk_e]
noncomputable def T48_ (k : Nat) (a1 : Int × Int × Int × Int) (g0 : ByteArray × Int × TY1) : O Int :=
  OT.cond (decide (a1.2.1 < (1 : Int))) (
   .ok (140 : Int)) (
   OT.cond (decide (a1.2.1 > (32768 : Int))) (
    .ok (140 : Int)) (
    OT.cond (decide ((Int.tmod a1.1 (16 : Int)) ≠ (0 : Int))) (
     .ok (140 : Int)) (
     OT.cond (decide ((Int.tmod a1.2.2.1 (4 : Int)) ≠ (0 : Int))) (
      .ok (140 : Int)) (
      OT.cond (decide ((Int.tmod a1.2.2.2 (4 : Int)) ≠ (0 : Int))) (
       .ok (140 : Int)) (
       OT.bind (T46_ k a1.1 (IntKind.i64.wrap ((16 : Int) * a1.2.1)) g0) fun r1 =>
       OT.cond (!r1) (
        .ok (140 : Int)) (
        OT.bind (T46_ k a1.2.2.1 (4 : Int) g0) fun r2 =>
        OT.cond (!r2) (
         .ok (140 : Int)) (
         OT.bind (T46_ k a1.2.2.2 (4 : Int) g0) fun r3 =>
         OT.cond (!r3) (
          .ok (140 : Int)) (
          .ok (0 : Int)))))))))
theorem T48_e : @F_aqueductref14_Check.S = @T48_ := by
 delta F_aqueductref14_Check.S T48_
 simp only [OT.bind_e, OT.cond_e, T46_e]
noncomputable def T49_ (k : Nat) (a1 : Int × Int × Int × Int) (g0 : ByteArray × Int × TY1) : O ((Int × ByteArray × Int × TY1) ⊕ (Int × (ByteArray × Int × TY1) × (TY6 × (Int × Bool) × (Int × Bool) × (Int × Bool) × Int × List Int))) :=
  OT.bind (T48_ k a1 g0) fun r2 =>
  OT.cond (decide (r2 ≠ (0 : Int))) (
   .ok (.inl (r2, g0))) (
   OT.chk (decide (0 ≤ (IntKind.i64.wrap ((16 : Int) * a1.2.1)) ∧ (IntKind.i64.wrap ((16 : Int) * a1.2.1)) = (IntKind.i64.wrap ((16 : Int) * a1.2.1)) ∧ (IntKind.i64.wrap ((16 : Int) * a1.2.1)) ≤ 1073741824)) (
    OT.bind (T46_ k a1.1 (ByteArray.size (Go.Aq.strOf (List.replicate (IntKind.i64.wrap ((16 : Int) * a1.2.1)).toNat (0 : Int))) : Int) g0) fun r3 =>
    OT.cond (!r3) (
     OT.chk (decide (0 ≤ (4 : Int) ∧ (4 : Int) = (4 : Int) ∧ (4 : Int) ≤ 1073741824)) (
      OT.bind (T46_ k a1.2.2.1 (ByteArray.size (Go.Aq.strOf (List.replicate (4 : Int).toNat (0 : Int))) : Int) g0) fun r4 =>
      OT.cond (!r4) (
       OT.chk (decide (0 ≤ (4 : Int) ∧ (4 : Int) = (4 : Int) ∧ (4 : Int) ≤ 1073741824)) (
        OT.bind (T46_ k a1.2.2.2 (ByteArray.size (Go.Aq.strOf (List.replicate (4 : Int).toNat (0 : Int))) : Int) g0) fun r5 =>
        OT.cond (!r5) (
         OT.chk (decide (0 ≤ a1.2.1 ∧ a1.2.1 = a1.2.1 ∧ a1.2.1 ≤ 1073741824)) (
          .ok (.inr ((0 : Int), (g0, (a1, ((0 : Int), true), ((0 : Int), true), ((0 : Int), true), (0 : Int), (List.replicate a1.2.1.toNat (0 : Int)))))))) (
         OT.bind (T47_ k a1.2.2.2 (ByteArray.size (Go.Aq.strOf (List.replicate (4 : Int).toNat (0 : Int))) : Int) true g0) fun r6 =>
         OT.chk (decide (0 ≤ a1.2.2.2 ∧ a1.2.2.2 ≤ (ByteArray.size r6.1 : Int))) (
          OT.chk (decide (((ByteArray.size (ByteArray.extract r6.1 0 a1.2.2.2.toNat) + ByteArray.size (Go.Aq.strOf (List.replicate (4 : Int).toNat (0 : Int))) : Nat) : Int) ≤ 9223372036854775807)) (
           OT.chk (decide (0 ≤ (IntKind.i64.wrap (a1.2.2.2 + (ByteArray.size (Go.Aq.strOf (List.replicate (4 : Int).toNat (0 : Int))) : Int))) ∧ (IntKind.i64.wrap (a1.2.2.2 + (ByteArray.size (Go.Aq.strOf (List.replicate (4 : Int).toNat (0 : Int))) : Int))) ≤ (ByteArray.size r6.1 : Int))) (
            OT.chk (decide (((ByteArray.size ((ByteArray.extract r6.1 0 a1.2.2.2.toNat) ++ (Go.Aq.strOf (List.replicate (4 : Int).toNat (0 : Int)))) + ByteArray.size (ByteArray.extract r6.1 (IntKind.i64.wrap (a1.2.2.2 + (ByteArray.size (Go.Aq.strOf (List.replicate (4 : Int).toNat (0 : Int))) : Int))).toNat (ByteArray.size r6.1)) : Nat) : Int) ≤ 9223372036854775807)) (
             OT.chk (decide (0 ≤ a1.2.1 ∧ a1.2.1 = a1.2.1 ∧ a1.2.1 ≤ 1073741824)) (
              .ok (.inr ((0 : Int), (((((ByteArray.extract r6.1 0 a1.2.2.2.toNat) ++ (Go.Aq.strOf (List.replicate (4 : Int).toNat (0 : Int)))) ++ (ByteArray.extract r6.1 (IntKind.i64.wrap (a1.2.2.2 + (ByteArray.size (Go.Aq.strOf (List.replicate (4 : Int).toNat (0 : Int))) : Int))).toNat (ByteArray.size r6.1))), r6.2.1, r6.2.2), (a1, ((0 : Int), true), ((0 : Int), true), ((0 : Int), true), (0 : Int), (List.replicate a1.2.1.toNat (0 : Int)))))))))))))) (
       OT.bind (T47_ k a1.2.2.1 (ByteArray.size (Go.Aq.strOf (List.replicate (4 : Int).toNat (0 : Int))) : Int) true g0) fun r7 =>
       OT.chk (decide (0 ≤ a1.2.2.1 ∧ a1.2.2.1 ≤ (ByteArray.size r7.1 : Int))) (
        OT.chk (decide (((ByteArray.size (ByteArray.extract r7.1 0 a1.2.2.1.toNat) + ByteArray.size (Go.Aq.strOf (List.replicate (4 : Int).toNat (0 : Int))) : Nat) : Int) ≤ 9223372036854775807)) (
         OT.chk (decide (0 ≤ (IntKind.i64.wrap (a1.2.2.1 + (ByteArray.size (Go.Aq.strOf (List.replicate (4 : Int).toNat (0 : Int))) : Int))) ∧ (IntKind.i64.wrap (a1.2.2.1 + (ByteArray.size (Go.Aq.strOf (List.replicate (4 : Int).toNat (0 : Int))) : Int))) ≤ (ByteArray.size r7.1 : Int))) (
          OT.chk (decide (((ByteArray.size ((ByteArray.extract r7.1 0 a1.2.2.1.toNat) ++ (Go.Aq.strOf (List.replicate (4 : Int).toNat (0 : Int)))) + ByteArray.size (ByteArray.extract r7.1 (IntKind.i64.wrap (a1.2.2.1 + (ByteArray.size (Go.Aq.strOf (List.replicate (4 : Int).toNat (0 : Int))) : Int))).toNat (ByteArray.size r7.1)) : Nat) : Int) ≤ 9223372036854775807)) (
           OT.chk (decide (0 ≤ (4 : Int) ∧ (4 : Int) = (4 : Int) ∧ (4 : Int) ≤ 1073741824)) (
            OT.bind (T46_ k a1.2.2.2 (ByteArray.size (Go.Aq.strOf (List.replicate (4 : Int).toNat (0 : Int))) : Int) ((((ByteArray.extract r7.1 0 a1.2.2.1.toNat) ++ (Go.Aq.strOf (List.replicate (4 : Int).toNat (0 : Int)))) ++ (ByteArray.extract r7.1 (IntKind.i64.wrap (a1.2.2.1 + (ByteArray.size (Go.Aq.strOf (List.replicate (4 : Int).toNat (0 : Int))) : Int))).toNat (ByteArray.size r7.1))), r7.2.1, r7.2.2)) fun r8 =>
            OT.cond (!r8) (
             OT.chk (decide (0 ≤ a1.2.1 ∧ a1.2.1 = a1.2.1 ∧ a1.2.1 ≤ 1073741824)) (
              .ok (.inr ((0 : Int), (((((ByteArray.extract r7.1 0 a1.2.2.1.toNat) ++ (Go.Aq.strOf (List.replicate (4 : Int).toNat (0 : Int)))) ++ (ByteArray.extract r7.1 (IntKind.i64.wrap (a1.2.2.1 + (ByteArray.size (Go.Aq.strOf (List.replicate (4 : Int).toNat (0 : Int))) : Int))).toNat (ByteArray.size r7.1))), r7.2.1, r7.2.2), (a1, ((0 : Int), true), ((0 : Int), true), ((0 : Int), true), (0 : Int), (List.replicate a1.2.1.toNat (0 : Int)))))))) (
             OT.bind (T47_ k a1.2.2.2 (ByteArray.size (Go.Aq.strOf (List.replicate (4 : Int).toNat (0 : Int))) : Int) true ((((ByteArray.extract r7.1 0 a1.2.2.1.toNat) ++ (Go.Aq.strOf (List.replicate (4 : Int).toNat (0 : Int)))) ++ (ByteArray.extract r7.1 (IntKind.i64.wrap (a1.2.2.1 + (ByteArray.size (Go.Aq.strOf (List.replicate (4 : Int).toNat (0 : Int))) : Int))).toNat (ByteArray.size r7.1))), r7.2.1, r7.2.2)) fun r9 =>
             OT.chk (decide (0 ≤ a1.2.2.2 ∧ a1.2.2.2 ≤ (ByteArray.size r9.1 : Int))) (
              OT.chk (decide (((ByteArray.size (ByteArray.extract r9.1 0 a1.2.2.2.toNat) + ByteArray.size (Go.Aq.strOf (List.replicate (4 : Int).toNat (0 : Int))) : Nat) : Int) ≤ 9223372036854775807)) (
               OT.chk (decide (0 ≤ (IntKind.i64.wrap (a1.2.2.2 + (ByteArray.size (Go.Aq.strOf (List.replicate (4 : Int).toNat (0 : Int))) : Int))) ∧ (IntKind.i64.wrap (a1.2.2.2 + (ByteArray.size (Go.Aq.strOf (List.replicate (4 : Int).toNat (0 : Int))) : Int))) ≤ (ByteArray.size r9.1 : Int))) (
                OT.chk (decide (((ByteArray.size ((ByteArray.extract r9.1 0 a1.2.2.2.toNat) ++ (Go.Aq.strOf (List.replicate (4 : Int).toNat (0 : Int)))) + ByteArray.size (ByteArray.extract r9.1 (IntKind.i64.wrap (a1.2.2.2 + (ByteArray.size (Go.Aq.strOf (List.replicate (4 : Int).toNat (0 : Int))) : Int))).toNat (ByteArray.size r9.1)) : Nat) : Int) ≤ 9223372036854775807)) (
                 OT.chk (decide (0 ≤ a1.2.1 ∧ a1.2.1 = a1.2.1 ∧ a1.2.1 ≤ 1073741824)) (
                  .ok (.inr ((0 : Int), (((((ByteArray.extract r9.1 0 a1.2.2.2.toNat) ++ (Go.Aq.strOf (List.replicate (4 : Int).toNat (0 : Int)))) ++ (ByteArray.extract r9.1 (IntKind.i64.wrap (a1.2.2.2 + (ByteArray.size (Go.Aq.strOf (List.replicate (4 : Int).toNat (0 : Int))) : Int))).toNat (ByteArray.size r9.1))), r9.2.1, r9.2.2), (a1, ((0 : Int), true), ((0 : Int), true), ((0 : Int), true), (0 : Int), (List.replicate a1.2.1.toNat (0 : Int)))))))))))))))))))) (
     OT.bind (T47_ k a1.1 (ByteArray.size (Go.Aq.strOf (List.replicate (IntKind.i64.wrap ((16 : Int) * a1.2.1)).toNat (0 : Int))) : Int) true g0) fun r10 =>
     OT.chk (decide (0 ≤ a1.1 ∧ a1.1 ≤ (ByteArray.size r10.1 : Int))) (
      OT.chk (decide (((ByteArray.size (ByteArray.extract r10.1 0 a1.1.toNat) + ByteArray.size (Go.Aq.strOf (List.replicate (IntKind.i64.wrap ((16 : Int) * a1.2.1)).toNat (0 : Int))) : Nat) : Int) ≤ 9223372036854775807)) (
       OT.chk (decide (0 ≤ (IntKind.i64.wrap (a1.1 + (ByteArray.size (Go.Aq.strOf (List.replicate (IntKind.i64.wrap ((16 : Int) * a1.2.1)).toNat (0 : Int))) : Int))) ∧ (IntKind.i64.wrap (a1.1 + (ByteArray.size (Go.Aq.strOf (List.replicate (IntKind.i64.wrap ((16 : Int) * a1.2.1)).toNat (0 : Int))) : Int))) ≤ (ByteArray.size r10.1 : Int))) (
        OT.chk (decide (((ByteArray.size ((ByteArray.extract r10.1 0 a1.1.toNat) ++ (Go.Aq.strOf (List.replicate (IntKind.i64.wrap ((16 : Int) * a1.2.1)).toNat (0 : Int)))) + ByteArray.size (ByteArray.extract r10.1 (IntKind.i64.wrap (a1.1 + (ByteArray.size (Go.Aq.strOf (List.replicate (IntKind.i64.wrap ((16 : Int) * a1.2.1)).toNat (0 : Int))) : Int))).toNat (ByteArray.size r10.1)) : Nat) : Int) ≤ 9223372036854775807)) (
         OT.chk (decide (0 ≤ (4 : Int) ∧ (4 : Int) = (4 : Int) ∧ (4 : Int) ≤ 1073741824)) (
          OT.bind (T46_ k a1.2.2.1 (ByteArray.size (Go.Aq.strOf (List.replicate (4 : Int).toNat (0 : Int))) : Int) ((((ByteArray.extract r10.1 0 a1.1.toNat) ++ (Go.Aq.strOf (List.replicate (IntKind.i64.wrap ((16 : Int) * a1.2.1)).toNat (0 : Int)))) ++ (ByteArray.extract r10.1 (IntKind.i64.wrap (a1.1 + (ByteArray.size (Go.Aq.strOf (List.replicate (IntKind.i64.wrap ((16 : Int) * a1.2.1)).toNat (0 : Int))) : Int))).toNat (ByteArray.size r10.1))), r10.2.1, r10.2.2)) fun r11 =>
          OT.cond (!r11) (
           OT.chk (decide (0 ≤ (4 : Int) ∧ (4 : Int) = (4 : Int) ∧ (4 : Int) ≤ 1073741824)) (
            OT.bind (T46_ k a1.2.2.2 (ByteArray.size (Go.Aq.strOf (List.replicate (4 : Int).toNat (0 : Int))) : Int) ((((ByteArray.extract r10.1 0 a1.1.toNat) ++ (Go.Aq.strOf (List.replicate (IntKind.i64.wrap ((16 : Int) * a1.2.1)).toNat (0 : Int)))) ++ (ByteArray.extract r10.1 (IntKind.i64.wrap (a1.1 + (ByteArray.size (Go.Aq.strOf (List.replicate (IntKind.i64.wrap ((16 : Int) * a1.2.1)).toNat (0 : Int))) : Int))).toNat (ByteArray.size r10.1))), r10.2.1, r10.2.2)) fun r12 =>
            OT.cond (!r12) (
             OT.chk (decide (0 ≤ a1.2.1 ∧ a1.2.1 = a1.2.1 ∧ a1.2.1 ≤ 1073741824)) (
              .ok (.inr ((0 : Int), (((((ByteArray.extract r10.1 0 a1.1.toNat) ++ (Go.Aq.strOf (List.replicate (IntKind.i64.wrap ((16 : Int) * a1.2.1)).toNat (0 : Int)))) ++ (ByteArray.extract r10.1 (IntKind.i64.wrap (a1.1 + (ByteArray.size (Go.Aq.strOf (List.replicate (IntKind.i64.wrap ((16 : Int) * a1.2.1)).toNat (0 : Int))) : Int))).toNat (ByteArray.size r10.1))), r10.2.1, r10.2.2), (a1, ((0 : Int), true), ((0 : Int), true), ((0 : Int), true), (0 : Int), (List.replicate a1.2.1.toNat (0 : Int)))))))) (
             OT.bind (T47_ k a1.2.2.2 (ByteArray.size (Go.Aq.strOf (List.replicate (4 : Int).toNat (0 : Int))) : Int) true ((((ByteArray.extract r10.1 0 a1.1.toNat) ++ (Go.Aq.strOf (List.replicate (IntKind.i64.wrap ((16 : Int) * a1.2.1)).toNat (0 : Int)))) ++ (ByteArray.extract r10.1 (IntKind.i64.wrap (a1.1 + (ByteArray.size (Go.Aq.strOf (List.replicate (IntKind.i64.wrap ((16 : Int) * a1.2.1)).toNat (0 : Int))) : Int))).toNat (ByteArray.size r10.1))), r10.2.1, r10.2.2)) fun r13 =>
             OT.chk (decide (0 ≤ a1.2.2.2 ∧ a1.2.2.2 ≤ (ByteArray.size r13.1 : Int))) (
              OT.chk (decide (((ByteArray.size (ByteArray.extract r13.1 0 a1.2.2.2.toNat) + ByteArray.size (Go.Aq.strOf (List.replicate (4 : Int).toNat (0 : Int))) : Nat) : Int) ≤ 9223372036854775807)) (
               OT.chk (decide (0 ≤ (IntKind.i64.wrap (a1.2.2.2 + (ByteArray.size (Go.Aq.strOf (List.replicate (4 : Int).toNat (0 : Int))) : Int))) ∧ (IntKind.i64.wrap (a1.2.2.2 + (ByteArray.size (Go.Aq.strOf (List.replicate (4 : Int).toNat (0 : Int))) : Int))) ≤ (ByteArray.size r13.1 : Int))) (
                OT.chk (decide (((ByteArray.size ((ByteArray.extract r13.1 0 a1.2.2.2.toNat) ++ (Go.Aq.strOf (List.replicate (4 : Int).toNat (0 : Int)))) + ByteArray.size (ByteArray.extract r13.1 (IntKind.i64.wrap (a1.2.2.2 + (ByteArray.size (Go.Aq.strOf (List.replicate (4 : Int).toNat (0 : Int))) : Int))).toNat (ByteArray.size r13.1)) : Nat) : Int) ≤ 9223372036854775807)) (
                 OT.chk (decide (0 ≤ a1.2.1 ∧ a1.2.1 = a1.2.1 ∧ a1.2.1 ≤ 1073741824)) (
                  .ok (.inr ((0 : Int), (((((ByteArray.extract r13.1 0 a1.2.2.2.toNat) ++ (Go.Aq.strOf (List.replicate (4 : Int).toNat (0 : Int)))) ++ (ByteArray.extract r13.1 (IntKind.i64.wrap (a1.2.2.2 + (ByteArray.size (Go.Aq.strOf (List.replicate (4 : Int).toNat (0 : Int))) : Int))).toNat (ByteArray.size r13.1))), r13.2.1, r13.2.2), (a1, ((0 : Int), true), ((0 : Int), true), ((0 : Int), true), (0 : Int), (List.replicate a1.2.1.toNat (0 : Int)))))))))))))) (
           OT.bind (T47_ k a1.2.2.1 (ByteArray.size (Go.Aq.strOf (List.replicate (4 : Int).toNat (0 : Int))) : Int) true ((((ByteArray.extract r10.1 0 a1.1.toNat) ++ (Go.Aq.strOf (List.replicate (IntKind.i64.wrap ((16 : Int) * a1.2.1)).toNat (0 : Int)))) ++ (ByteArray.extract r10.1 (IntKind.i64.wrap (a1.1 + (ByteArray.size (Go.Aq.strOf (List.replicate (IntKind.i64.wrap ((16 : Int) * a1.2.1)).toNat (0 : Int))) : Int))).toNat (ByteArray.size r10.1))), r10.2.1, r10.2.2)) fun r14 =>
           OT.chk (decide (0 ≤ a1.2.2.1 ∧ a1.2.2.1 ≤ (ByteArray.size r14.1 : Int))) (
            OT.chk (decide (((ByteArray.size (ByteArray.extract r14.1 0 a1.2.2.1.toNat) + ByteArray.size (Go.Aq.strOf (List.replicate (4 : Int).toNat (0 : Int))) : Nat) : Int) ≤ 9223372036854775807)) (
             OT.chk (decide (0 ≤ (IntKind.i64.wrap (a1.2.2.1 + (ByteArray.size (Go.Aq.strOf (List.replicate (4 : Int).toNat (0 : Int))) : Int))) ∧ (IntKind.i64.wrap (a1.2.2.1 + (ByteArray.size (Go.Aq.strOf (List.replicate (4 : Int).toNat (0 : Int))) : Int))) ≤ (ByteArray.size r14.1 : Int))) (
              OT.chk (decide (((ByteArray.size ((ByteArray.extract r14.1 0 a1.2.2.1.toNat) ++ (Go.Aq.strOf (List.replicate (4 : Int).toNat (0 : Int)))) + ByteArray.size (ByteArray.extract r14.1 (IntKind.i64.wrap (a1.2.2.1 + (ByteArray.size (Go.Aq.strOf (List.replicate (4 : Int).toNat (0 : Int))) : Int))).toNat (ByteArray.size r14.1)) : Nat) : Int) ≤ 9223372036854775807)) (
               OT.chk (decide (0 ≤ (4 : Int) ∧ (4 : Int) = (4 : Int) ∧ (4 : Int) ≤ 1073741824)) (
                OT.bind (T46_ k a1.2.2.2 (ByteArray.size (Go.Aq.strOf (List.replicate (4 : Int).toNat (0 : Int))) : Int) ((((ByteArray.extract r14.1 0 a1.2.2.1.toNat) ++ (Go.Aq.strOf (List.replicate (4 : Int).toNat (0 : Int)))) ++ (ByteArray.extract r14.1 (IntKind.i64.wrap (a1.2.2.1 + (ByteArray.size (Go.Aq.strOf (List.replicate (4 : Int).toNat (0 : Int))) : Int))).toNat (ByteArray.size r14.1))), r14.2.1, r14.2.2)) fun r15 =>
                OT.cond (!r15) (
                 OT.chk (decide (0 ≤ a1.2.1 ∧ a1.2.1 = a1.2.1 ∧ a1.2.1 ≤ 1073741824)) (
                  .ok (.inr ((0 : Int), (((((ByteArray.extract r14.1 0 a1.2.2.1.toNat) ++ (Go.Aq.strOf (List.replicate (4 : Int).toNat (0 : Int)))) ++ (ByteArray.extract r14.1 (IntKind.i64.wrap (a1.2.2.1 + (ByteArray.size (Go.Aq.strOf (List.replicate (4 : Int).toNat (0 : Int))) : Int))).toNat (ByteArray.size r14.1))), r14.2.1, r14.2.2), (a1, ((0 : Int), true), ((0 : Int), true), ((0 : Int), true), (0 : Int), (List.replicate a1.2.1.toNat (0 : Int)))))))) (
                 OT.bind (T47_ k a1.2.2.2 (ByteArray.size (Go.Aq.strOf (List.replicate (4 : Int).toNat (0 : Int))) : Int) true ((((ByteArray.extract r14.1 0 a1.2.2.1.toNat) ++ (Go.Aq.strOf (List.replicate (4 : Int).toNat (0 : Int)))) ++ (ByteArray.extract r14.1 (IntKind.i64.wrap (a1.2.2.1 + (ByteArray.size (Go.Aq.strOf (List.replicate (4 : Int).toNat (0 : Int))) : Int))).toNat (ByteArray.size r14.1))), r14.2.1, r14.2.2)) fun r16 =>
                 OT.chk (decide (0 ≤ a1.2.2.2 ∧ a1.2.2.2 ≤ (ByteArray.size r16.1 : Int))) (
                  OT.chk (decide (((ByteArray.size (ByteArray.extract r16.1 0 a1.2.2.2.toNat) + ByteArray.size (Go.Aq.strOf (List.replicate (4 : Int).toNat (0 : Int))) : Nat) : Int) ≤ 9223372036854775807)) (
                   OT.chk (decide (0 ≤ (IntKind.i64.wrap (a1.2.2.2 + (ByteArray.size (Go.Aq.strOf (List.replicate (4 : Int).toNat (0 : Int))) : Int))) ∧ (IntKind.i64.wrap (a1.2.2.2 + (ByteArray.size (Go.Aq.strOf (List.replicate (4 : Int).toNat (0 : Int))) : Int))) ≤ (ByteArray.size r16.1 : Int))) (
                    OT.chk (decide (((ByteArray.size ((ByteArray.extract r16.1 0 a1.2.2.2.toNat) ++ (Go.Aq.strOf (List.replicate (4 : Int).toNat (0 : Int)))) + ByteArray.size (ByteArray.extract r16.1 (IntKind.i64.wrap (a1.2.2.2 + (ByteArray.size (Go.Aq.strOf (List.replicate (4 : Int).toNat (0 : Int))) : Int))).toNat (ByteArray.size r16.1)) : Nat) : Int) ≤ 9223372036854775807)) (
                     OT.chk (decide (0 ≤ a1.2.1 ∧ a1.2.1 = a1.2.1 ∧ a1.2.1 ≤ 1073741824)) (
                      .ok (.inr ((0 : Int), (((((ByteArray.extract r16.1 0 a1.2.2.2.toNat) ++ (Go.Aq.strOf (List.replicate (4 : Int).toNat (0 : Int)))) ++ (ByteArray.extract r16.1 (IntKind.i64.wrap (a1.2.2.2 + (ByteArray.size (Go.Aq.strOf (List.replicate (4 : Int).toNat (0 : Int))) : Int))).toNat (ByteArray.size r16.1))), r16.2.1, r16.2.2), (a1, ((0 : Int), true), ((0 : Int), true), ((0 : Int), true), (0 : Int), (List.replicate a1.2.1.toNat (0 : Int))))))))))))))))))))))))))
theorem T49_e : @F_aqueductref15_New.S = @T49_ := by
 delta F_aqueductref15_New.S T49_
 simp only [OT.bind_e, OT.cond_e, OT.chk_e, T48_e, T46_e, T47_e]
noncomputable def T50_ (k : Nat) (a0 : Int × TY6 × TY13) (v14 : Int) (v17 : ByteArray) (v18 : Int) (v15 : List Int) (v16 : List TY5) (v19 : List TY5) : O (Bool ⊕ TY16 ⊕ TY11 ⊕ TY12 ⊕ TY10) :=
  OT.sum (T5_ k a0.2.1 (v15, v14, v16)) (fun r22 =>
   OT.sum (T49_ k a0.2.1 (v17, v18, v19)) (fun r24 =>
    OT.cond (decide (r22.1 = r24.1)) (
     .ok (.inr (.inl ((decide ((Go.Aq.strOf r22.2.1) = r24.2.1)), r22.2)))) (
     .ok (.inr (.inl (false, r22.2))))) fun r25 =>
   OT.cond (decide (r22.1 = r25.1)) (
    .ok (.inr (.inr (.inl (false, (r22.2, r25.2.2, r25.2.1)))))) (
    .ok (.inr (.inr (.inl (false, (r22.2, r25.2.2, r25.2.1))))))) fun r23 =>
  OT.sum (T49_ k a0.2.1 (v17, v18, v19)) (fun r26 =>
   OT.cond (decide (r23.1 = r26.1)) (
    .ok (.inr (.inr (.inr (.inl (false, (r23.2.1, r23.2.2))))))) (
    .ok (.inr (.inr (.inr (.inl (false, (r23.2.1, r23.2.2)))))))) fun r27 =>
  OT.cond (decide (r23.1 = r27.1)) (
   .ok (.inr (.inr (.inr (.inr ((decide ((Go.Aq.strOf r23.2.1.1) = r27.2.1.1)), (r23.2.1, r23.2.2, r27.2.2, r27.2.1))))))) (
   .ok (.inr (.inr (.inr (.inr (false, (r23.2.1, r23.2.2, r27.2.2, r27.2.1)))))))
theorem T50_e : @F_aqueductlaw15_laid.j6_b = @T50_ := by
 delta F_aqueductlaw15_laid.j6_b T50_
 simp only [OT.cond_e, OT.sum_e, T5_e, T49_e]
noncomputable def T51_ (k : Nat) (a0 : Int × TY6 × TY13) (v14 : Int) (v17 : ByteArray) (v18 : Int) (v15 : List Int) (v16 : List TY5) (v19 : List TY5) : O (Bool ⊕ TY16 ⊕ TY11 ⊕ TY12 ⊕ TY10) := T50_ k a0 v14 v17 v18 v15 v16 v19
theorem T51_e : @F_aqueductlaw15_laid.j6 = @T51_ := by
 delta F_aqueductlaw15_laid.j6 T51_
 simp only [T50_e]
noncomputable def T52_ (k : Nat) (a0 : Int × TY6 × TY13) (D_j6 : Int → ByteArray → Int → (List Int) → TY1 → TY1 → O (Bool ⊕ TY16 ⊕ TY11 ⊕ TY12 ⊕ TY10)) : O (Bool ⊕ TY16 ⊕ TY11 ⊕ TY12 ⊕ TY10) :=
  OT.sum (T0_ k (max (64 : Int) (min a0.1 (2048 : Int)))) (fun r3 =>
   OT.sum (T45_ k (max (64 : Int) (min a0.1 (2048 : Int)))) (fun r7 =>
    .ok (.inl false)) fun r8 =>
   .ok (.inl false)) fun r4 =>
  OT.sum (T45_ k (max (64 : Int) (min a0.1 (2048 : Int)))) (fun r9 =>
   .ok (.inl false)) fun r10 =>
  OT.cond (decide (r4.1 ≠ (0 : Int))) (
   .ok (.inl false)) (
   OT.cond (decide (r10.1 ≠ (0 : Int))) (
    .ok (.inl false)) (
    OT.chk (decide (0 ≤ (30 : Int) ∧ (30 : Int) = (30 : Int) ∧ (30 : Int) ≤ 1073741824)) (
     OT.chk (decide (((ByteArray.size (Go.Aq.strOf (List.replicate (30 : Int).toNat (0 : Int))) + ByteArray.size (⟨#[119, 104, 97, 116, 32, 115, 116, 111, 111, 100, 32, 116, 104, 101, 114, 101]⟩ : ByteArray) : Nat) : Int) ≤ 9223372036854775807)) (
      OT.bind (T3_ k (0 : Int) ((Go.Aq.strOf (List.replicate (30 : Int).toNat (0 : Int))) ++ (⟨#[119, 104, 97, 116, 32, 115, 116, 111, 111, 100, 32, 116, 104, 101, 114, 101]⟩ : ByteArray)) r4.2) fun r20 =>
      OT.cond (decide (r20.1 ≠ (0 : Int))) (
       .ok (.inl false)) (
       OT.bind (T46_ k (0 : Int) (ByteArray.size ((Go.Aq.strOf (List.replicate (30 : Int).toNat (0 : Int))) ++ (⟨#[119, 104, 97, 116, 32, 115, 116, 111, 111, 100, 32, 116, 104, 101, 114, 101]⟩ : ByteArray)) : Int) r10.2) fun r21 =>
       OT.cond (!r21) (
        OT.cond true (
         .ok (.inl false)) (
         D_j6 r20.2.2.1 r10.2.1 r10.2.2.1 r20.2.1 r20.2.2.2 r10.2.2.2)) (
        OT.bind (T47_ k (0 : Int) (ByteArray.size ((Go.Aq.strOf (List.replicate (30 : Int).toNat (0 : Int))) ++ (⟨#[119, 104, 97, 116, 32, 115, 116, 111, 111, 100, 32, 116, 104, 101, 114, 101]⟩ : ByteArray)) : Int) true r10.2) fun r28 =>
        OT.chk (decide (0 ≤ (0 : Int) ∧ (0 : Int) ≤ (ByteArray.size r28.1 : Int))) (
         OT.chk (decide (((ByteArray.size (ByteArray.extract r28.1 0 0) + ByteArray.size ((Go.Aq.strOf (List.replicate (30 : Int).toNat (0 : Int))) ++ (⟨#[119, 104, 97, 116, 32, 115, 116, 111, 111, 100, 32, 116, 104, 101, 114, 101]⟩ : ByteArray)) : Nat) : Int) ≤ 9223372036854775807)) (
          OT.chk (decide (0 ≤ (IntKind.i64.wrap ((0 : Int) + (ByteArray.size ((Go.Aq.strOf (List.replicate (30 : Int).toNat (0 : Int))) ++ (⟨#[119, 104, 97, 116, 32, 115, 116, 111, 111, 100, 32, 116, 104, 101, 114, 101]⟩ : ByteArray)) : Int))) ∧ (IntKind.i64.wrap ((0 : Int) + (ByteArray.size ((Go.Aq.strOf (List.replicate (30 : Int).toNat (0 : Int))) ++ (⟨#[119, 104, 97, 116, 32, 115, 116, 111, 111, 100, 32, 116, 104, 101, 114, 101]⟩ : ByteArray)) : Int))) ≤ (ByteArray.size r28.1 : Int))) (
           OT.chk (decide (((ByteArray.size ((ByteArray.extract r28.1 0 0) ++ ((Go.Aq.strOf (List.replicate (30 : Int).toNat (0 : Int))) ++ (⟨#[119, 104, 97, 116, 32, 115, 116, 111, 111, 100, 32, 116, 104, 101, 114, 101]⟩ : ByteArray))) + ByteArray.size (ByteArray.extract r28.1 (IntKind.i64.wrap ((0 : Int) + (ByteArray.size ((Go.Aq.strOf (List.replicate (30 : Int).toNat (0 : Int))) ++ (⟨#[119, 104, 97, 116, 32, 115, 116, 111, 111, 100, 32, 116, 104, 101, 114, 101]⟩ : ByteArray)) : Int))).toNat (ByteArray.size r28.1)) : Nat) : Int) ≤ 9223372036854775807)) (
            OT.cond false (
             .ok (.inl false)) (
             D_j6 r20.2.2.1 (((ByteArray.extract r28.1 0 0) ++ ((Go.Aq.strOf (List.replicate (30 : Int).toNat (0 : Int))) ++ (⟨#[119, 104, 97, 116, 32, 115, 116, 111, 111, 100, 32, 116, 104, 101, 114, 101]⟩ : ByteArray))) ++ (ByteArray.extract r28.1 (IntKind.i64.wrap ((0 : Int) + (ByteArray.size ((Go.Aq.strOf (List.replicate (30 : Int).toNat (0 : Int))) ++ (⟨#[119, 104, 97, 116, 32, 115, 116, 111, 111, 100, 32, 116, 104, 101, 114, 101]⟩ : ByteArray)) : Int))).toNat (ByteArray.size r28.1))) r28.2.1 r20.2.1 r20.2.2.2 r28.2.2)))))))))))
theorem T52_e : @F_aqueductlaw15_laid.top = @T52_ := by
 delta F_aqueductlaw15_laid.top T52_
 simp only [OT.bind_e, OT.cond_e, OT.chk_e, OT.sum_e, T0_e, T45_e, T3_e, T46_e, T47_e]
noncomputable def T53_ (k : Nat) (a0 : Int × TY6 × TY13) : O (Bool ⊕ TY16 ⊕ TY11 ⊕ TY12 ⊕ TY10) := T52_ k a0 ((fun (v14 : Int) (v17 : ByteArray) (v18 : Int) (v15 : List Int) (v16 : List TY5) (v19 : List TY5) => T51_ k a0 v14 v17 v18 v15 v16 v19))
theorem T53_e : @F_aqueductlaw15_laid.S = @T53_ := by
 delta F_aqueductlaw15_laid.S T53_
 simp only [T52_e, T51_e]
noncomputable def T54_ (k : Nat) (v35 : Int) (v36 : Int) (v37 : Int) (v38 : Int) (v39 : Int) (v40 : Int) (v41 : Bool) (v42 : Int) (v43 : ByteArray) (v44 : Int) (v45 : Int) (v46 : Int) (v47 : Bool) (v48 : Int) (v62 : Int) (v49 : Int) (v50 : Int) (v51 : Int) (v52 : Int) (v53 : Int) (v54 : Bool) (v55 : Int) (v56 : Bool) (v57 : Int) (v58 : Bool) (v59 : Int) (v60 : Int) (v63 : Int) (v61 : List (Int × Int)) (v64 : List Int) (v65 : List TY5) : O Bool :=
  OT.cond (decide (v35 = (0 : Int))) (
   OT.cond (decide (v36 = (0 : Int))) (
    OT.cond (decide (v37 = (2 : Int))) (
     OT.cond (decide (v38 = (151 : Int))) (
      OT.cond (decide (v39 = (150 : Int))) (
       OT.cond (decide (v40 = (150 : Int))) (
        OT.cond (!v41) (
         OT.cond (decide (v42 = (0 : Int))) (
          OT.cond (decide (v44 = (0 : Int))) (
           OT.cond (decide (v43 = (⟨#[128, 0, 0, 0, 0, 0, 0, 0, 5, 0, 0, 0, 0, 0, 129, 0, 140, 0, 0, 0, 0, 0, 0, 0, 6, 0, 0, 0, 0, 0, 130, 0]⟩ : ByteArray))) (
            OT.cond (decide (v45 = (0 : Int))) (
             OT.cond (decide (v46 = (7 : Int))) (
              OT.cond v47 (
               OT.cond (decide (v48 = (0 : Int))) (
                OT.cond (decide (v60 = (4 : Int))) (
                 OT.chk (heldOk v61) (
                  OT.cond (decide ((List.length (heldL v61) : Int) = (0 : Int))) (
                   OT.cond (decide (v62 = (140 : Int))) (
                    .ok (decide (v55 = (2 : Int)) && (decide (v56 = true) && true))) (
                    .ok false)) (
                   .ok false))) (
                 .ok false)) (
                .ok false)) (
               .ok false)) (
              .ok false)) (
             .ok false)) (
            .ok false)) (
           .ok false)) (
          .ok false)) (
         .ok false)) (
        .ok false)) (
       .ok false)) (
      .ok false)) (
     .ok false)) (
    .ok false)) (
   .ok false)
theorem T54_e : @F_aqueductlaw15_fixed.j14_b = @T54_ := by
 delta F_aqueductlaw15_fixed.j14_b T54_
 simp only [OT.cond_e, OT.chk_e]
noncomputable def T55_ (k : Nat) (v35 : Int) (v36 : Int) (v37 : Int) (v38 : Int) (v39 : Int) (v40 : Int) (v41 : Bool) (v42 : Int) (v43 : ByteArray) (v44 : Int) (v45 : Int) (v46 : Int) (v47 : Bool) (v48 : Int) (v62 : Int) (v49 : Int) (v50 : Int) (v51 : Int) (v52 : Int) (v53 : Int) (v54 : Bool) (v55 : Int) (v56 : Bool) (v57 : Int) (v58 : Bool) (v59 : Int) (v60 : Int) (v63 : Int) (v61 : List (Int × Int)) (v64 : List Int) (v65 : List TY5) : O Bool := T54_ k v35 v36 v37 v38 v39 v40 v41 v42 v43 v44 v45 v46 v47 v48 v62 v49 v50 v51 v52 v53 v54 v55 v56 v57 v58 v59 v60 v63 v61 v64 v65
theorem T55_e : @F_aqueductlaw15_fixed.j14 = @T55_ := by
 delta F_aqueductlaw15_fixed.j14 T55_
 simp only [T54_e]
noncomputable def T56_ (k : Nat) (D_j14 : Int → Int → Int → Int → Int → Int → Bool → Int → ByteArray → Int → Int → Int → Bool → Int → Int → Int → Int → Int → Int → Int → Bool → Int → Bool → Int → Bool → Int → Int → Int → TY7 → (List Int) → TY1 → O Bool) : O Bool :=
  OT.sum (T53_ k ((256 : Int), ((0 : Int), (4 : Int), (64 : Int), (68 : Int)), [])) (fun r9 =>
   OT.cond (!r9) (
    .ok false) (
    .ok false)) fun z14 =>
  OT.sum (.ok z14) (fun r10 =>
   OT.cond (!r10.1) (
    .ok false) (
    .ok false)) fun z15 =>
  OT.sum (.ok z15) (fun r11 =>
   OT.cond (!r11.1) (
    .ok false) (
    .ok false)) fun z16 =>
  OT.sum (.ok z16) (fun r12 =>
   OT.cond (!r12.1) (
    .ok false) (
    OT.bind (T33_ k [((128 : Int), (5 : Int), false), ((140 : Int), (6 : Int), true)] r12.2.2 r12.2.1) fun r18 =>
    OT.chk (decide (List.length [((128 : Int), (5 : Int), false)] + List.length [((128 : Int), (5 : Int), false), ((140 : Int), (6 : Int), true)] ≤ 1073741824)) (
     OT.bind (T33_ k [((128 : Int), (5 : Int), false), ((128 : Int), (5 : Int), false), ((140 : Int), (6 : Int), true)] r18.2.1 r18.2.2) fun r20 =>
     OT.bind (T33_ k [] r20.2.1 r20.2.2) fun r22 =>
     OT.chk (decide (0 ≤ (1 : Int) ∧ (1 : Int) < (2 : Int) ∧ (2 : Int) ≤ (List.length [((128 : Int), (5 : Int), false), ((140 : Int), (6 : Int), true)] : Int))) (
      OT.chk (decide (0 ≤ (1 : Int) ∧ (1 : Int) < (List.length [((128 : Int), (5 : Int), false), ((140 : Int), (6 : Int), true)] : Int))) (
       OT.chk (decide (0 ≤ (0 : Int) ∧ (0 : Int) < (2 : Int) ∧ (2 : Int) ≤ (List.length [((128 : Int), (5 : Int), false), ((140 : Int), (6 : Int), true)] : Int))) (
        OT.chk (decide (0 ≤ (0 : Int) ∧ (0 : Int) < (List.length [((128 : Int), (5 : Int), false), ((140 : Int), (6 : Int), true)] : Int))) (
         OT.bind (T33_ k [((140 : Int), (6 : Int), true), ((128 : Int), (5 : Int), false)] r22.2.1 r22.2.2) fun r24 =>
         OT.bind (T44_ k r24.2.1 r24.2.2) fun r26 =>
         OT.bind (T34_ k (0 : Int) (32 : Int) r26.2.2) fun r28 =>
         OT.bind (T3_ k (8 : Int) (⟨#[7, 0, 0, 0, 0, 0, 128, 128]⟩ : ByteArray) r28.2) fun r30 =>
         OT.bind (T44_ k r26.2.1 r30.2) fun r32 =>
         OT.sum (T5_ k ((0 : Int), (0 : Int), (0 : Int), (0 : Int)) r32.2.2) (fun r66 =>
          D_j14 r18.1.1 r18.1.2 r18.2.1.2.2.2.2.2.1 r20.1.2 r22.1.2 r24.1.2 r26.1.2.2.1 r26.1.2.2.2 r28.1.1 r28.1.2 r32.1.1 r32.1.2.1 r32.1.2.2.1 r32.1.2.2.2 r66.1 r32.2.1.1.1 r32.2.1.1.2.1 r32.2.1.1.2.2.1 r32.2.1.1.2.2.2 r32.2.1.2.1.1 r32.2.1.2.1.2 r32.2.1.2.2.1.1 r32.2.1.2.2.1.2 r32.2.1.2.2.2.1.1 r32.2.1.2.2.2.1.2 r32.2.1.2.2.2.2.1 r32.2.1.2.2.2.2.2.1 r66.2.2.1 r32.2.1.2.2.2.2.2.2 r66.2.1 r66.2.2.2) fun r67 =>
         D_j14 r18.1.1 r18.1.2 r18.2.1.2.2.2.2.2.1 r20.1.2 r22.1.2 r24.1.2 r26.1.2.2.1 r26.1.2.2.2 r28.1.1 r28.1.2 r32.1.1 r32.1.2.1 r32.1.2.2.1 r32.1.2.2.2 r67.1 r32.2.1.1.1 r32.2.1.1.2.1 r32.2.1.1.2.2.1 r32.2.1.1.2.2.2 r32.2.1.2.1.1 r32.2.1.2.1.2 r32.2.1.2.2.1.1 r32.2.1.2.2.1.2 r32.2.1.2.2.2.1.1 r32.2.1.2.2.2.1.2 r32.2.1.2.2.2.2.1 r32.2.1.2.2.2.2.2.1 r67.2.1.2.1 r32.2.1.2.2.2.2.2.2 r67.2.1.1 r67.2.1.2.2))))))) fun r13 =>
  OT.cond (!r13.1) (
   .ok false) (
   OT.bind (T33_ k [((128 : Int), (5 : Int), false), ((140 : Int), (6 : Int), true)] r13.2.2.1 r13.2.1) fun r68 =>
   OT.chk (decide (List.length [((128 : Int), (5 : Int), false)] + List.length [((128 : Int), (5 : Int), false), ((140 : Int), (6 : Int), true)] ≤ 1073741824)) (
    OT.bind (T33_ k [((128 : Int), (5 : Int), false), ((128 : Int), (5 : Int), false), ((140 : Int), (6 : Int), true)] r68.2.1 r68.2.2) fun r69 =>
    OT.bind (T33_ k [] r69.2.1 r69.2.2) fun r70 =>
    OT.chk (decide (0 ≤ (1 : Int) ∧ (1 : Int) < (2 : Int) ∧ (2 : Int) ≤ (List.length [((128 : Int), (5 : Int), false), ((140 : Int), (6 : Int), true)] : Int))) (
     OT.chk (decide (0 ≤ (1 : Int) ∧ (1 : Int) < (List.length [((128 : Int), (5 : Int), false), ((140 : Int), (6 : Int), true)] : Int))) (
      OT.chk (decide (0 ≤ (0 : Int) ∧ (0 : Int) < (2 : Int) ∧ (2 : Int) ≤ (List.length [((128 : Int), (5 : Int), false), ((140 : Int), (6 : Int), true)] : Int))) (
       OT.chk (decide (0 ≤ (0 : Int) ∧ (0 : Int) < (List.length [((128 : Int), (5 : Int), false), ((140 : Int), (6 : Int), true)] : Int))) (
        OT.bind (T33_ k [((140 : Int), (6 : Int), true), ((128 : Int), (5 : Int), false)] r70.2.1 r70.2.2) fun r71 =>
        OT.bind (T44_ k r71.2.1 r71.2.2) fun r72 =>
        OT.bind (T34_ k (0 : Int) (32 : Int) r72.2.2) fun r73 =>
        OT.bind (T3_ k (8 : Int) (⟨#[7, 0, 0, 0, 0, 0, 128, 128]⟩ : ByteArray) r73.2) fun r74 =>
        OT.bind (T44_ k r72.2.1 r74.2) fun r75 =>
        OT.sum (T5_ k ((0 : Int), (0 : Int), (0 : Int), (0 : Int)) r75.2.2) (fun r76 =>
         D_j14 r68.1.1 r68.1.2 r68.2.1.2.2.2.2.2.1 r69.1.2 r70.1.2 r71.1.2 r72.1.2.2.1 r72.1.2.2.2 r73.1.1 r73.1.2 r75.1.1 r75.1.2.1 r75.1.2.2.1 r75.1.2.2.2 r76.1 r75.2.1.1.1 r75.2.1.1.2.1 r75.2.1.1.2.2.1 r75.2.1.1.2.2.2 r75.2.1.2.1.1 r75.2.1.2.1.2 r75.2.1.2.2.1.1 r75.2.1.2.2.1.2 r75.2.1.2.2.2.1.1 r75.2.1.2.2.2.1.2 r75.2.1.2.2.2.2.1 r75.2.1.2.2.2.2.2.1 r76.2.2.1 r75.2.1.2.2.2.2.2.2 r76.2.1 r76.2.2.2) fun r77 =>
        D_j14 r68.1.1 r68.1.2 r68.2.1.2.2.2.2.2.1 r69.1.2 r70.1.2 r71.1.2 r72.1.2.2.1 r72.1.2.2.2 r73.1.1 r73.1.2 r75.1.1 r75.1.2.1 r75.1.2.2.1 r75.1.2.2.2 r77.1 r75.2.1.1.1 r75.2.1.1.2.1 r75.2.1.1.2.2.1 r75.2.1.1.2.2.2 r75.2.1.2.1.1 r75.2.1.2.1.2 r75.2.1.2.2.1.1 r75.2.1.2.2.1.2 r75.2.1.2.2.2.1.1 r75.2.1.2.2.2.1.2 r75.2.1.2.2.2.2.1 r75.2.1.2.2.2.2.2.1 r77.2.1.2.1 r75.2.1.2.2.2.2.2.2 r77.2.1.1 r77.2.1.2.2))))))
theorem T56_e : @F_aqueductlaw15_fixed.top = @T56_ := by
 delta F_aqueductlaw15_fixed.top T56_
 simp only [OT.bind_e, OT.cond_e, OT.chk_e, OT.sum_e, T53_e, T33_e, T44_e, T34_e, T3_e, T5_e]
noncomputable def T57_ (k : Nat) : O Bool := T56_ k ((fun (v35 : Int) (v36 : Int) (v37 : Int) (v38 : Int) (v39 : Int) (v40 : Int) (v41 : Bool) (v42 : Int) (v43 : ByteArray) (v44 : Int) (v45 : Int) (v46 : Int) (v47 : Bool) (v48 : Int) (v62 : Int) (v49 : Int) (v50 : Int) (v51 : Int) (v52 : Int) (v53 : Int) (v54 : Bool) (v55 : Int) (v56 : Bool) (v57 : Int) (v58 : Bool) (v59 : Int) (v60 : Int) (v63 : Int) (v61 : List (Int × Int)) (v64 : List Int) (v65 : List TY5) => T55_ k v35 v36 v37 v38 v39 v40 v41 v42 v43 v44 v45 v46 v47 v48 v62 v49 v50 v51 v52 v53 v54 v55 v56 v57 v58 v59 v60 v63 v61 v64 v65))
theorem T57_e : @F_aqueductlaw15_fixed.S = @T57_ := by
 delta F_aqueductlaw15_fixed.S T57_
 simp only [T56_e, T55_e]
theorem T_aqueductlaw15_fixed.S_e : @F_aqueductlaw15_fixed.S = @T57_ := T57_e
end Go.Proofs.Ytpfddjdkafjjfaa
end
section
namespace Go.Proofs.Ytpfddjdkafjjfaa
open Go.Aq Go.IntWalk
set_option linter.unusedVariables false
set_option maxRecDepth 100000 in
theorem fixed15 (m : Nat) : F_aqueductlaw15_fixed.S (m + 60) = .ok true := by
 rw [T_aqueductlaw15_fixed.S_e]
 show _ = _
 kernel_rfl
end Go.Proofs.Ytpfddjdkafjjfaa
end
section
namespace Go.Proofs.Ytpfddjdkafjjfaa
open Go.Aq Go.IntWalk
set_option linter.unusedVariables false
abbrev LAY := Int × Int × Int × Int
def chkL (L : LAY) (len : Int) : Int :=
 if L.2.1 < 1 then 140 else if L.2.1 > 32768 then 140 else if Int.tmod L.1 16 ≠ 0 then 140 else if Int.tmod L.2.2.1 4 ≠ 0 then 140 else if Int.tmod L.2.2.2 4 ≠ 0 then 140 else
 if mayM L.1 (16 * L.2.1) len = true then (if mayM L.2.2.1 4 len = true then (if mayM L.2.2.2 4 len = true then 0 else 140) else 140) else 140
theorem Check_g (k : Nat) (L : LAY) (g : TM) (h : g.1.length ≤ 1048576) : F_devq_Check.S k L g = .ok (chkL L g.1.length) := by
 unfold F_devq_Check.S chkL
 by_cases a1 : L.2.1 < 1
 ·rw [O.cond_pos a1, if_pos a1]
 by_cases a2 : L.2.1 > 32768
 ·rw [O.cond_neg a1, O.cond_pos a2, if_neg a1, if_pos a2]
 rw [O.cond_neg a1, O.cond_neg a2, if_neg a1, if_neg a2]
 by_cases a3 : Int.tmod L.1 16 ≠ 0
 ·rw [O.cond_pos a3, if_pos a3]
 rw [O.cond_neg a3, if_neg a3]
 by_cases a4 : Int.tmod L.2.2.1 4 ≠ 0
 ·rw [O.cond_pos a4, if_pos a4]
 rw [O.cond_neg a4, if_neg a4]
 by_cases a5 : Int.tmod L.2.2.2 4 ≠ 0
 ·rw [O.cond_pos a5, if_pos a5]
 rw [O.cond_neg a5, if_neg a5, i64_in (16 * L.2.1) (by omega), May_S k _ _ g h, O.bind_ok]
 by_cases b1 : mayM L.1 (16 * L.2.1) g.1.length = true
 ·rw [if_pos b1, b1, Bool.not_true, O.cond_false, May_S k _ _ g h, O.bind_ok]
  by_cases b2 : mayM L.2.2.1 4 g.1.length = true
  ·rw [if_pos b2, b2, Bool.not_true, O.cond_false, May_S k _ _ g h, O.bind_ok]
   by_cases b3 : mayM L.2.2.2 4 g.1.length = true
   ·rw [if_pos b3, b3, Bool.not_true, O.cond_false]
   ·rw [if_neg b3, Bool.eq_false_iff.2 b3, Bool.not_false, O.cond_true]
  ·rw [if_neg b2, Bool.eq_false_iff.2 b2, Bool.not_false, O.cond_true]
 ·rw [if_neg b1, Bool.eq_false_iff.2 b1, Bool.not_false, O.cond_true]
theorem chkL_or (L : LAY) (len : Int) : chkL L len = 0 ∨ chkL L len = 140 := by
 unfold chkL
 repeat' split
 all_goals first | exact .inl rfl | exact .inr rfl
structure LayIn (L : LAY) (len : Int) : Prop where
 sz : 1 ≤ L.2.1 ∧ L.2.1 ≤ 32768
 r : 0 ≤ L.1 ∧ L.1 + 16 * L.2.1 ≤ len
 d : 0 ≤ L.2.2.1 ∧ L.2.2.1 + 4 ≤ len
 e : 0 ≤ L.2.2.2 ∧ L.2.2.2 + 4 ≤ len
theorem chkL_in {L : LAY} {len : Int} (h : chkL L len = 0) : LayIn L len := by
 unfold chkL at h
 repeat' split at h
 all_goals first | (exact absurd h (by decide)) | skip
 rename_i a1 a2 _ _ _ b1 b2 b3
 rw [mayM_iff] at b1 b2 b3
 exact ⟨by omega, by omega, by omega, by omega⟩
def zb : ByteArray := ⟨#[0]⟩
def zerL (g : TM) (L : LAY) : TM := wrM (wrM (wrM g L.1 (repT zb (16 * L.2.1))) L.2.2.1 (repT zb 4)) L.2.2.2 (repT zb 4)
theorem zsz (n : Int) (h : 0 ≤ n) : (repT zb n).size = n.toNat := rep_size n h
theorem zerL_ok (g : TM) (L : LAY) (h : okM g) (hL : LayIn L g.1.length) : okM (zerL g L) ∧ (zerL g L).1.length = g.1.length := by
 have s1 := hL.sz; have s2 := hL.r; have s3 := hL.d; have s4 := hL.e
 have a := wrM_ok g L.1 (repT zb (16 * L.2.1)) h (mayM_iff.2 (by rw [zsz _ (by omega)]; omega))
 have b := wrM_ok _ L.2.2.1 (repT zb 4) a.1 (mayM_iff.2 (by rw [zsz _ (by omega), a.2]; omega))
 have c := wrM_ok _ L.2.2.2 (repT zb 4) b.1 (mayM_iff.2 (by rw [zsz _ (by omega), b.2, a.2]; omega))
 exact ⟨c.1, by show (zerL g L).1.length = _; unfold zerL; rw [c.2, b.2, a.2]⟩
def q0L (L : LAY) : TV := (L, ((0 : Int), true), ((0 : Int), true), ((0 : Int), true), (0 : Int), L.2.1, [])
theorem drvNew_g (k : Nat) (L : LAY) (g : TM) (h : okM g) : F_drvq_New.S k L g = .ok (if chkL L g.1.length = 0 then .inr ((0 : Int), (zerL g L, q0L L)) else .inl ((140 : Int), g)) := by
 unfold F_drvq_New.S
 rw [Check_g k L g h.1, O.bind_ok]
 rcases chkL_or L g.1.length with hc | hc
 ·have hL := chkL_in hc
  have s1 := hL.sz; have s2 := hL.r; have s3 := hL.d; have s4 := hL.e
  have a := wrM_ok g L.1 (repT zb (16 * L.2.1)) h (mayM_iff.2 (by rw [zsz _ (by omega)]; omega))
  have b := wrM_ok _ L.2.2.1 (repT zb 4) a.1 (mayM_iff.2 (by rw [zsz _ (by omega), a.2]; omega))
  rw [hc, if_pos rfl, O.cond_neg (by simp), i64_in (16 * L.2.1) (by omega), Rep_S k (16 * L.2.1) (by omega), O.bind_ok, show repT (⟨#[0]⟩ : ByteArray) (16 * L.2.1) = repT zb (16 * L.2.1) from rfl, Write_S k L.1 _ g h, O.bind_ok, if_pos (mayM_iff.2 (by rw [zsz _ (by omega)]; omega)), Rep_S k 4 (by omega), O.bind_ok, show repT (⟨#[0]⟩ : ByteArray) 4 = repT zb 4 from rfl]
  dsimp only
  rw [Write_S k L.2.2.1 _ _ a.1, O.bind_ok, if_pos (mayM_iff.2 (by rw [zsz _ (by omega), a.2]; omega)), O.bind_ok]
  dsimp only
  rw [Write_S k L.2.2.2 _ _ b.1, O.bind_ok, if_pos (mayM_iff.2 (by rw [zsz _ (by omega), b.2, a.2]; omega))]
  rfl
 ·rw [hc, if_neg (by decide), O.cond_pos (by decide)]
theorem gNew_g (k : Nat) (n : Int) (h : 64 ≤ n ∧ n ≤ 2048) : F_gmem_New.S k n = .ok (.inr ((0 : Int), (List.replicate n.toNat (0 : Int)), (0 : Int), [])) := by
 unfold F_gmem_New.S
 rw [O.cond_neg (by omega), O.cond_neg (by omega), O.chk_dec (by omega)]
end Go.Proofs.Ytpfddjdkafjjfaa
end
section
namespace Go.Proofs.Ytpfddjdkafjjfaa
open Go.Aq Go.IntWalk
set_option linter.unusedVariables false
def sm : EI → Int
 | [] => 0
 | e :: es => e.2 + sm es
theorem sm_app : ∀ (a b : EI), sm (a ++ b) = sm a + sm b
 | [], b => by simp [sm]
 | e :: a, b => by simp [sm, sm_app a b, Int.add_assoc]
theorem len_sm : ∀ {es : EI}, (∀ e ∈ es, 1 ≤ e.2) → (es.length : Int) ≤ sm es
 | [], _ => by simp [sm]
 | e :: es, h => by
  have h1 := h e (by simp)
  have h2 := len_sm (es := es) fun x hx => h x (by simp [hx])
  simp only [sm, List.length_cons]
  omega
theorem mput_newI : ∀ {es : EI} {k : Int} (v : Int), mhas es k = false → mput es k v = es ++ [(k, v)]
 | [], k, v, h => rfl
 | e :: es, k, v, h => by
  have he : ¬ e.1 = k := fun he => by simp [mhas, he] at h
  unfold mput
  rw [if_neg he, mput_newI v (by simpa [mhas, he] using h)]
  rfl
theorem mhas_iff {es : EI} {k : Int} : mhas es k = true ↔ k ∈ es.map (·.1) := by
 constructor
 ·exact has_mem
 ·intro hm
  obtain ⟨x, hx, he⟩ := List.mem_map.1 hm
  unfold mhas
  rw [List.any_eq_true]
  exact ⟨x, hx, by simpa using he⟩
theorem mdel_facts : ∀ (es : EI) (k : Int), mhas es k = true → (mdel es k).Sublist es ∧ (mdel es k).length + 1 = es.length ∧ sm (mdel es k) + mget 0 es k = sm es ∧ (k, mget 0 es k) ∈ es
 | [], k, h => by simp [mhas] at h
 | e :: es, k, h => by
  by_cases he : e.1 = k
  ·have e1 : mdel (e :: es) k = es := by simp [mdel, he]
   have e2 : mget 0 (e :: es) k = e.2 := by simp [mget, he]
   rw [e1, e2]
   refine ⟨List.sublist_cons_self _ _, rfl, by simp only [sm]; omega, ?_⟩
   rw [← he]; simp
  ·have h' : mhas es k = true := by simpa [mhas, he] using h
   obtain ⟨a, b, c, d⟩ := mdel_facts es k h'
   have e1 : mdel (e :: es) k = e :: mdel es k := by simp [mdel, he]
   have e2 : mget 0 (e :: es) k = mget 0 es k := by simp [mget, he]
   rw [e1, e2]
   exact ⟨a.cons_cons e, by simp [b], by simp only [sm]; omega, by simp [d]⟩
theorem heldL_len (es : EI) : (heldL es).length = es.length := by
 unfold heldL
 rw [(sortI_perm _).length_eq, List.length_map]
structure RI (L : LAY) (len : Nat) (q : TV) (g : TM) : Prop where
 lay : q.1 = L
 nx : 0 ≤ q.2.1.1 ∧ q.2.1.1 < L.2.1
 bk : 0 ≤ q.2.2.1.1 ∧ q.2.2.1.1 < L.2.1
 fr : 0 ≤ q.2.2.2.2.2.1
 sum : q.2.2.2.2.2.1 + sm q.2.2.2.2.2.2 = L.2.1
 vals : ∀ e ∈ q.2.2.2.2.2.2, 1 ≤ e.2
 keys : (q.2.2.2.2.2.2.map (·.1)).Nodup
 kin : ∀ e ∈ q.2.2.2.2.2.2, 0 ≤ e.1 ∧ e.1 ≤ 40000
 okg : okM g
 len : g.1.length = len
theorem RI.ids {L : LAY} {len : Nat} {q : TV} {g : TM} (h : RI L len q g) : (q.2.2.2.2.2.2.length : Int) ≤ L.2.1 - q.2.2.2.2.2.1 := by
 have := len_sm h.vals; have := h.sum; omega
theorem RI.held {L : LAY} {len : Nat} {q : TV} {g : TM} (h : RI L len q g) (hs : L.2.1 ≤ 32768) : heldOk q.2.2.2.2.2.2 = true := by
 have h1 := h.ids; have h2 := h.fr
 unfold heldOk
 rw [Bool.and_eq_true, decide_eq_true_eq, List.all_eq_true]
 refine ⟨by omega, fun e he => ?_⟩
 have := h.kin e he
 simp [Lit.wf, IntKind.min, IntKind.max, IntKind.bits, IntKind.signed]
 omega
theorem may_any (k : Nat) (hk : 70 ≤ k) (p : List TP) (q : TV) (g : TM) (hg : okM g) : ∃ c, F_drvq_Queue_may.S k p q g = .ok (c, (q, g)) ∧ (c ≠ 0 ∨ (c = 0 ∧ 1 ≤ p.length ∧ p.length ≤ 64 ∧ (p.length : Int) ≤ q.2.2.2.2.2.1)) := by
 unfold F_drvq_Queue_may.S F_drvq_Queue_may.top
 by_cases a1 : (p.length : Int) = 0
 ·rw [O.cond_pos a1]; exact ⟨_, rfl, .inl (by decide)⟩
 by_cases a2 : (p.length : Int) > 64
 ·rw [O.cond_neg a1, O.cond_pos a2]; exact ⟨_, rfl, .inl (by decide)⟩
 rw [O.cond_neg a1, O.cond_neg a2]
 have lp : ∀ (m i j : Nat), i + m = p.length → m < j → ∃ c, F_drvq_Queue_may.l0 k p q g j (i : Int) = .ok (c, (q, g)) ∧ (c ≠ 0 ∨ (c = 0 ∧ 1 ≤ p.length ∧ p.length ≤ 64 ∧ (p.length : Int) ≤ q.2.2.2.2.2.1)) := by
  intro m
  induction m with
  | zero =>
   intro i j hi hj
   obtain ⟨j, rfl⟩ : ∃ i, j = i + 1 := ⟨j - 1, by omega⟩
   show ∃ c, F_drvq_Queue_may.l0_b _ _ _ _ _ _ = .ok (c, (q, g)) ∧ _
   unfold F_drvq_Queue_may.l0_b
   rw [O.cond_neg (by omega), O.cond_dec]
   split
   ·exact ⟨_, rfl, .inl (by decide)⟩
   ·exact ⟨_, rfl, .inr ⟨rfl, by omega, by omega, by omega⟩⟩
  | succ m ih =>
   intro i j hi hj
   obtain ⟨j, rfl⟩ : ∃ i, j = i + 1 := ⟨j - 1, by omega⟩
   obtain ⟨c, hc, hcc⟩ := ih (i + 1) j (by omega) (by omega)
   have hlt : i < p.length := by omega
   show ∃ c, F_drvq_Queue_may.l0_b _ _ _ _ _ _ = .ok (c, (q, g)) ∧ _
   unfold F_drvq_Queue_may.l0_b
   rw [O.cond_pos (by omega), O.chk_dec (by omega), O.chk_dec (by omega), O.cond_dec]
   split
   ·exact ⟨_, rfl, .inl (by decide)⟩
   rw [May_S k _ _ g hg.1, O.bind_ok]
   cases mayM (gt ((0 : Int), (0 : Int), false) p (i : Int)).1 (gt ((0 : Int), (0 : Int), false) p (i : Int)).2.1 g.1.length with
   | false => rw [Bool.not_false, O.cond_true]; exact ⟨_, rfl, .inl (by decide)⟩
   | true =>
    have e1 : IntKind.i64.wrap ((i : Int) + 1) = ((i + 1 : Nat) : Int) := i64_in _ (by omega)
    rw [Bool.not_true, O.cond_false, e1]
    by_cases h0 : i = 0
    ·subst h0
     rw [O.cond_neg (by omega)]
     exact ⟨c, hc, hcc⟩
    ·have e3 : IntKind.i64.wrap ((i : Int) - 1) = ((i - 1 : Nat) : Int) := by rw [i64_in _ (by omega)]; omega
     rw [O.cond_pos (by omega), e3, O.chk_dec (by omega), O.chk_dec (by omega)]
     cases (gt ((0 : Int), (0 : Int), false) p ((i - 1 : Nat) : Int)).2.2 with
     | false => rw [O.cond_false]; exact ⟨c, hc, hcc⟩
     | true =>
      rw [O.cond_true]
      cases (gt ((0 : Int), (0 : Int), false) p (i : Int)).2.2 with
      | false => rw [Bool.not_false, O.cond_true]; exact ⟨_, rfl, .inl (by decide)⟩
      | true => rw [Bool.not_true, O.cond_false]; exact ⟨c, hc, hcc⟩
 exact lp p.length 0 k (by omega) (by omega)
theorem Post_may (k : Nat) (hk : 70 ≤ k) (p : List TP) (q : TV) (g : TM) (hg : okM g) (hm : F_drvq_Queue_may.S k p q g = .ok (0, (q, g))) (hlo : 1 ≤ p.length) (hhi : p.length ≤ 64) (hq : 0 ≤ q.2.1.1 ∧ q.2.1.1 < q.1.2.1 ∧ q.1.2.1 ≤ 32768) (he : q.2.2.2.2.2.2.length ≤ 1000000) :
  ∃ z, F_drvq_Queue_Post.S k p q g = .ok z ∧ PostR q p g.1.length z := by
 unfold F_drvq_Queue_Post.S F_drvq_Queue_Post.top
 rw [hm, O.bind_ok, O.cond_neg (by simp), O.twice_eq, O.chk_dec he]
 have lp : ∀ (m i j : Nat) (f : Int) (s : Int × Bool) (g' : TM), i + m = p.length → m < j → 0 ≤ s.1 ∧ s.1 < q.1.2.1 → okM g' → g'.1.length = g.1.length →
   ∃ z, F_drvq_Queue_Post.l1 k p (0, q, g) j f (i : Int) s.1 s.2 g'.1 g'.2.2 g'.2.1 = .ok z ∧ PostR q p g.1.length z := by
  intro m
  induction m with
  | zero =>
   intro i j f s g' hi hj hs hg' hl
   obtain ⟨j, rfl⟩ : ∃ i, j = i + 1 := ⟨j - 1, by omega⟩
   show ∃ z, F_drvq_Queue_Post.l1_b _ _ _ _ _ _ _ _ _ _ _ _ = .ok z ∧ _
   unfold F_drvq_Queue_Post.l1_b
   obtain ⟨r, hr, r1, r2⟩ := Store_sat k (by omega) (IntKind.i64.wrap ((IntKind.i64.wrap (q.1.1 + (IntKind.i64.wrap ((16 : Int) * q.2.1.1)))) + (14 : Int))) 2 (by omega) f g' hg'
   rw [O.cond_neg (by omega)]
   have hr' : F_gmem_Memory_Store.S k (IntKind.i64.wrap ((IntKind.i64.wrap (q.1.1 + (IntKind.i64.wrap ((16 : Int) * q.2.1.1)))) + (14 : Int))) (2 : Int) (IntKind.u64.wrap f) (g'.1, g'.2.1, g'.2.2) = .ok r := hr
   rw [hr', O.bind_ok]
   exact ⟨_, rfl, s, r.2, rfl, hs.1, hs.2, r1, r2.trans hl⟩
  | succ m ih =>
   intro i j f s g' hi hj hs hg' hl
   obtain ⟨j, rfl⟩ : ∃ i, j = i + 1 := ⟨j - 1, by omega⟩
   have hlt : i < p.length := by omega
   have nx := Next_S k s q.1.2.1 (by omega)
   have ni := nextP_in s q.1.2.1 hs
   have j9 : ∀ fl : Int, ∃ z, F_drvq_Queue_Post.j9 k p (0, q, g) f (i : Int) s.1 s.2 g'.1 g'.2.2 g'.2.1 (F_drvq_Queue_Post.l1 k p (0, q, g) j) fl = .ok z ∧ PostR q p g.1.length z := by
    intro fl
    show ∃ z, F_drvq_Queue_Post.j9_b _ _ _ _ _ _ _ _ _ _ _ _ = .ok z ∧ _
    unfold F_drvq_Queue_Post.j9_b
    obtain ⟨f1, hf1⟩ := Mark_ok k fl s.2 false
    obtain ⟨a, ha, a1, a2⟩ := Store_sat k (by omega) (IntKind.i64.wrap (q.1.1 + (IntKind.i64.wrap ((16 : Int) * s.1)))) 8 (by omega) (gt ((0 : Int), (0 : Int), false) p (i : Int)).1 g' hg'
    have ha' : F_gmem_Memory_Store.S k (IntKind.i64.wrap (q.1.1 + (IntKind.i64.wrap ((16 : Int) * s.1)))) (8 : Int) (IntKind.u64.wrap (gt ((0 : Int), (0 : Int), false) p (i : Int)).1) (g'.1, g'.2.1, g'.2.2) = .ok a := ha
    obtain ⟨b, hb, b1, b2⟩ := Store_sat k (by omega) (IntKind.i64.wrap ((IntKind.i64.wrap (q.1.1 + (IntKind.i64.wrap ((16 : Int) * s.1)))) + (8 : Int))) 4 (by omega) (gt ((0 : Int), (0 : Int), false) p (i : Int)).2.1 a.2 a1
    have hb' : F_gmem_Memory_Store.S k (IntKind.i64.wrap ((IntKind.i64.wrap (q.1.1 + (IntKind.i64.wrap ((16 : Int) * s.1)))) + (8 : Int))) (4 : Int) (IntKind.u64.wrap (gt ((0 : Int), (0 : Int), false) p (i : Int)).2.1) a.2 = .ok b := hb
    obtain ⟨c, hc, c1, c2⟩ := Store_sat k (by omega) (IntKind.i64.wrap ((IntKind.i64.wrap (q.1.1 + (IntKind.i64.wrap ((16 : Int) * s.1)))) + (12 : Int))) 2 (by omega) ((leastN q.2.2.2.2.2.2 : Nat) : Int) b.2 b1
    have hc' : F_gmem_Memory_Store.S k (IntKind.i64.wrap ((IntKind.i64.wrap (q.1.1 + (IntKind.i64.wrap ((16 : Int) * s.1)))) + (12 : Int))) (2 : Int) (IntKind.u64.wrap ((leastN q.2.2.2.2.2.2 : Nat) : Int)) b.2 = .ok c := hc
    rw [hf1, O.bind_ok, ha', O.bind_ok, hb', O.bind_ok, hc', O.bind_ok, i64_in ((i : Int) + 1) (by omega)]
    by_cases h0 : (i : Int) = 0
    ·rw [O.cond_pos h0, show ((s.1, s.2) : Int × Bool) = s from rfl, nx, O.bind_ok]
     exact ih (i + 1) j f1 (nextP s q.1.2.1) c.2 (by omega) (by omega) ni c1 (by omega)
    ·obtain ⟨d, hd, d1, d2⟩ := Store_sat k (by omega) (IntKind.i64.wrap ((IntKind.i64.wrap (q.1.1 + (IntKind.i64.wrap ((16 : Int) * s.1)))) + (14 : Int))) 2 (by omega) f1 c.2 c1
     have hd' : F_gmem_Memory_Store.S k (IntKind.i64.wrap ((IntKind.i64.wrap (q.1.1 + (IntKind.i64.wrap ((16 : Int) * s.1)))) + (14 : Int))) (2 : Int) (IntKind.u64.wrap f1) c.2 = .ok d := hd
     rw [O.cond_neg h0, hd', O.bind_ok, show ((s.1, s.2) : Int × Bool) = s from rfl, nx, O.bind_ok]
     exact ih (i + 1) j f (nextP s q.1.2.1) d.2 (by omega) (by omega) ni d1 (by omega)
   have j8 : ∀ fl : Int, ∃ z, F_drvq_Queue_Post.j8 k p (0, q, g) f (i : Int) s.1 s.2 g'.1 g'.2.2 g'.2.1 (F_drvq_Queue_Post.l1 k p (0, q, g) j) fl = .ok z ∧ PostR q p g.1.length z := by
    intro fl
    show ∃ z, F_drvq_Queue_Post.j8_b _ _ _ _ _ _ _ _ _ _ _ _ _ = .ok z ∧ _
    unfold F_drvq_Queue_Post.j8_b
    cases (gt ((0 : Int), (0 : Int), false) p (i : Int)).2.2 with
    | true => rw [O.cond_true]; exact j9 _
    | false => rw [O.cond_false]; exact j9 _
   show ∃ z, F_drvq_Queue_Post.l1_b _ _ _ _ _ _ _ _ _ _ _ _ = .ok z ∧ _
   unfold F_drvq_Queue_Post.l1_b
   rw [O.cond_pos (by omega), O.chk_dec (by omega), O.chk_dec (by omega), O.cond_dec]
   split
   ·exact j8 1
   ·exact j8 0
 exact lp p.length 0 k 0 q.2.1 g (by omega) (by omega) ⟨hq.1, hq.2.1⟩ hg rfl
theorem Post_any (k : Nat) (hk : 70 ≤ k) {L : LAY} {len : Nat} (hs : L.2.1 ≤ 32768) (p : List TP) (q : TV) (g : TM) (h : RI L len q g) :
  ∃ r, F_drvq_Queue_Post.S k p q g = .ok r ∧ ((r.1.2 ≠ 0 ∧ r.1.1 = 0 ∧ r.2 = (q, g)) ∨
   (r.1.2 = 0 ∧ RI L len r.2.1 r.2.2 ∧ r.2.1.2.2.2.2.2.1 = IntKind.i64.wrap (q.2.2.2.2.2.1 - (p.length : Int)) ∧ p.length ≤ 64 ∧ r.2.1.2.2.2.2.2.2.length = q.2.2.2.2.2.2.length + 1 ∧ 0 ≤ r.1.1 ∧ r.1.1 < L.2.1)) := by
 have h1 := h.ids; have h2 := h.fr; have hlay := h.lay; have hnx := h.nx
 obtain ⟨c, hm, hc⟩ := may_any k hk p q g h.okg
 by_cases hc0 : c = 0
 ·subst hc0
  obtain ⟨_, c1, c2, c3⟩ := hc.resolve_left (by simp)
  obtain ⟨z, hz, s', g', rfl, s1, s2, g1, g2⟩ := Post_may k hk p q g h.okg hm c1 c2 (by rw [hlay]; omega) (by omega)
  have hls := least_spec q.2.2.2.2.2.2
  have hle := held_le q.2.2.2.2.2.2 (leastN q.2.2.2.2.2.2) hls.1
  have hput := mput_newI (p.length : Int) hls.2
  have hfree : IntKind.i64.wrap (q.2.2.2.2.2.1 - (p.length : Int)) = q.2.2.2.2.2.1 - (p.length : Int) := i64_in _ (by omega)
  refine ⟨_, hz, .inr ⟨rfl, ⟨hlay, ?_, h.bk, ?_, ?_, ?_, ?_, ?_, g1, g2.trans h.len⟩, rfl, c2, ?_, ?_, ?_⟩⟩
  ·rw [hlay] at s2; exact ⟨s1, s2⟩
  ·show 0 ≤ IntKind.i64.wrap (q.2.2.2.2.2.1 - (p.length : Int))
   rw [hfree]; omega
  ·show IntKind.i64.wrap (q.2.2.2.2.2.1 - (p.length : Int)) + sm (mput _ _ _) = _
   rw [hput, hfree, sm_app]
   have := h.sum
   simp only [sm]; omega
  ·show ∀ e ∈ mput _ _ _, 1 ≤ e.2
   rw [hput]
   intro e he
   rcases List.mem_append.1 he with he | he
   ·exact h.vals e he
   ·simp only [List.mem_singleton] at he; subst he; show 1 ≤ (p.length : Int); omega
  ·show ((mput _ _ _).map (·.1)).Nodup
   rw [hput, List.map_append, List.nodup_append]
   refine ⟨h.keys, by simp, fun a ha b hb e => ?_⟩
   simp only [List.map_cons, List.map_nil, List.mem_singleton] at hb
   subst hb; subst e
   rw [← mhas_iff] at ha
   rw [hls.2] at ha; cases ha
  ·show ∀ e ∈ mput _ _ _, 0 ≤ e.1 ∧ e.1 ≤ 40000
   rw [hput]
   intro e he
   rcases List.mem_append.1 he with he | he
   ·exact h.kin e he
   ·simp only [List.mem_singleton] at he; subst he; show 0 ≤ ((leastN _ : Nat) : Int) ∧ ((leastN _ : Nat) : Int) ≤ 40000; omega
  ·show (mput _ _ _).length = _
   rw [hput, List.length_append]; rfl
  ·show 0 ≤ ((leastN _ : Nat) : Int); omega
  ·show ((leastN q.2.2.2.2.2.2 : Nat) : Int) < L.2.1; omega
 ·refine ⟨(((0 : Int), c), (q, g)), ?_, .inl ⟨hc0, rfl, rfl⟩⟩
  unfold F_drvq_Queue_Post.S F_drvq_Queue_Post.top
  rw [hm, O.bind_ok, O.cond_pos hc0]
theorem Used_any (k : Nat) (x : Int) (w : Bool) : ∃ b, F_desc_Used.S k x w = .ok b := by
 have : ∃ n, F_desc_says.S k x w = .ok n := by
  unfold F_desc_says.S
  simp only [O.cond_dec]
  repeat' split
  all_goals exact ⟨_, rfl⟩
 obtain ⟨n, hn⟩ := this
 unfold F_desc_Used.S
 rw [hn, O.bind_ok]
 exact ⟨_, rfl⟩
theorem Next_g (k : Nat) (s : Int × Bool) (n sz : Int) (h : 0 ≤ s.1 ∧ s.1 < sz ∧ sz ≤ 32768) (hn : 0 ≤ n ∧ n ≤ sz) : ∃ s', F_spot_Next.S k s n sz = .ok (s', 0) ∧ 0 ≤ s'.1 ∧ s'.1 < sz := by
 unfold F_spot_Next.S
 have hc : F_spot_Check.S k s sz = .ok 0 := by
  unfold F_spot_Check.S
  rw [O.cond_neg (by omega), O.cond_neg (by omega), O.cond_neg (by omega), O.cond_neg (by omega)]
 rw [hc, O.bind_ok, O.cond_neg (by simp), O.cond_neg (by omega), O.cond_neg (by omega), i64_in (s.1 + n) (by omega)]
 by_cases h1 : s.1 + n ≥ sz
 ·rw [O.cond_pos h1, i64_in _ (by omega)]
  exact ⟨_, rfl, by show 0 ≤ s.1 + n - sz; omega, by show s.1 + n - sz < sz; omega⟩
 ·rw [O.cond_neg h1]
  exact ⟨_, rfl, by show 0 ≤ s.1 + n; omega, by show s.1 + n < sz; omega⟩
theorem Reap_any (k : Nat) (hk : 9 ≤ k) {L : LAY} {len : Nat} (hl : len ≤ 1048576) (hL : LayIn L len) (q : TV) (g : TM) (h : RI L len q g) :
  ∃ r, F_drvq_Queue_Reap.S k q g = .ok r ∧ r.2.2.1 = g.1 ∧ RI L len r.2.1 r.2.2 ∧
   ((r.1.2.2.1 = false ∧ r.2.1 = q) ∨ (r.1.2.2.1 = true ∧ r.1.2.2.2 = 0 ∧ mhas q.2.2.2.2.2.2 r.1.1 = true ∧ r.2.1.2.2.2.2.2.2.length + 1 = q.2.2.2.2.2.2.length)) := by
 have hlay := h.lay; have hbk := h.bk; have s1 := hL.sz; have s2 := hL.r; have hlen := h.len; have hokg := h.okg
 have ea : IntKind.i64.wrap (q.1.1 + (IntKind.i64.wrap ((16 : Int) * q.2.2.1.1))) = L.1 + 16 * q.2.2.1.1 := by
  rw [hlay, i64_in ((16 : Int) * q.2.2.1.1) (by omega), i64_in _ (by omega)]
 have hin : 0 ≤ L.1 + 16 * q.2.2.1.1 ∧ L.1 + 16 * q.2.2.1.1 + 16 ≤ (g.1.length : Int) := by rw [hlen]; omega
 have es : (Go.Aq.strOf (sub g.1 (L.1 + 16 * q.2.2.1.1) 16)).size = 16 := by rw [size_strOf, sub_len _ _ _ (by omega)]; rfl
 unfold F_drvq_Queue_Reap.S
 rw [ea, Read_S k _ 16 g hokg, if_neg (by omega), if_pos (mayM_iff.2 (by omega)), O.bind_ok]
 dsimp only
 rw [Parse_S k hk _ es, O.bind_ok]
 dsimp only
 have hro := rdM_ok g (L.1 + 16 * q.2.2.1.1) 16 hokg
 generalize descP (Go.Aq.strOf (sub g.1 (L.1 + 16 * q.2.2.1.1) 16)) = d
 obtain ⟨u, hu⟩ := Used_any k d.2.2.2 q.2.2.1.2
 have hRI : RI L len q (rdM g (L.1 + 16 * q.2.2.1.1) 16) := ⟨h.lay, h.nx, h.bk, h.fr, h.sum, h.vals, h.keys, h.kin, hro.1, by rw [hro.2]; exact hlen⟩
 rw [hu, O.bind_ok]
 cases u with
 | false => rw [Bool.not_false, O.cond_true]; exact ⟨_, rfl, hro.2, hRI, .inl ⟨rfl, rfl⟩⟩
 | true =>
  rw [Bool.not_true, O.cond_false]
  cases hm : mhas q.2.2.2.2.2.2 d.2.2.1 with
  | false => rw [Bool.not_false, O.cond_true]; exact ⟨_, rfl, hro.2, hRI, .inl ⟨rfl, rfl⟩⟩
  | true =>
   rw [Bool.not_true, O.cond_false]
   obtain ⟨f1, f2, f3, f4⟩ := mdel_facts _ _ hm
   have v1 := h.vals _ f4
   have v1 : 1 ≤ mget 0 q.2.2.2.2.2.2 d.2.2.1 := v1
   have v2 : ∀ e ∈ mdel q.2.2.2.2.2.2 d.2.2.1, 1 ≤ e.2 := fun e he => h.vals e (f1.subset he)
   have v3 := len_sm v2
   have hsum := h.sum
   have hfr := h.fr
   obtain ⟨s', hs', n1, n2⟩ := Next_g k q.2.2.1 (mget 0 q.2.2.2.2.2.2 d.2.2.1) L.2.1 (by omega) (by omega)
   rw [hlay, hs', O.bind_ok]
   have hw : IntKind.i64.wrap (q.2.2.2.2.2.1 + mget 0 q.2.2.2.2.2.2 d.2.2.1) = q.2.2.2.2.2.1 + mget 0 q.2.2.2.2.2.2 d.2.2.1 := i64_in _ (by omega)
   refine ⟨_, rfl, hro.2, ⟨rfl, h.nx, ⟨n1, n2⟩, ?_, ?_, v2, ?_, fun e he => h.kin e (f1.subset he), hro.1, by rw [hro.2]; exact hlen⟩, .inr ⟨rfl, rfl, hm, f2⟩⟩
   ·show 0 ≤ IntKind.i64.wrap _
    rw [hw]; omega
   ·show IntKind.i64.wrap _ + sm (mdel _ _) = L.2.1
    rw [hw]; omega
   ·exact List.Nodup.sublist (f1.map _) h.keys
end Go.Proofs.Ytpfddjdkafjjfaa
end
section
namespace Go.Proofs.Ytpfddjdkafjjfaa
open Go.Aq Go.IntWalk
set_option linter.unusedVariables false
def dscB (d : Int × Int × Int × Int) : ByteArray := ((putL d.1 8 ++ putL d.2.1 4) ++ putL d.2.2.1 2) ++ putL d.2.2.2 2
theorem dscB_size (d : Int × Int × Int × Int) : (dscB d).size = 16 := by unfold dscB; simp only [app_size, putL_size]
def nextSp (s : Int × Bool) (n size : Int) : Int × Bool := if s.1 + n ≥ size then (s.1 + n - size, !s.2) else (s.1 + n, s.2)
theorem spotNext_S (k : Nat) (s : Int × Bool) (n size : Int) (hs : 0 ≤ s.1 ∧ s.1 < size) (hz : size ≤ 32768) (hn : 0 ≤ n ∧ n ≤ size) : F_spot_Next.S k s n size = .ok (nextSp s n size, 0) := by
 have hc : F_spot_Check.S k s size = .ok 0 := by
  unfold F_spot_Check.S
  rw [O.cond_neg (by omega), O.cond_neg (by omega), O.cond_neg (by omega), O.cond_neg (by omega)]
 unfold F_spot_Next.S
 rw [hc, O.bind_ok, O.cond_neg (by omega), O.cond_neg (by omega), O.cond_neg (by omega), i64_in (s.1 + n) (by omega)]
 unfold nextSp
 by_cases h : s.1 + n ≥ size
 ·rw [O.cond_pos h, if_pos h, i64_in _ (by omega)]
 ·rw [O.cond_neg h, if_neg h]
theorem nextSp_in (s : Int × Bool) (n size : Int) (hs : 0 ≤ s.1 ∧ s.1 < size) (hn : 0 ≤ n ∧ n ≤ size) : 0 ≤ (nextSp s n size).1 ∧ (nextSp s n size).1 < size := by
 unfold nextSp; split <;> simp <;> omega
def rngD (d : D4) : Prop := 0 ≤ d.1 ∧ 0 ≤ d.2.1 ∧ d.2.1 < 4294967296 ∧ 0 ≤ d.2.2.1 ∧ d.2.2.1 ≤ 65535 ∧ 0 ≤ d.2.2.2 ∧ d.2.2.2 ≤ 65535
theorem rdD_rng (b : List Int) (a : Int) : rngD (rdD b a) := by
 unfold rdD descP
 generalize Go.Aq.strOf _ = s
 have b1 := bl_lo s 8 8; have b2 := bl_lo s 12 4; have b3 := bl_lo s 14 2; have b4 := bl_lo s 16 2
 rw [show (256 : Int) ^ 4 = 4294967296 from rfl] at b2
 rw [show (256 : Int) ^ 2 = 65536 from rfl] at b3 b4
 exact ⟨b1.1, b2.1, b2.2, b3.1, Int.le_of_lt_add_one b3.2, b4.1, Int.le_of_lt_add_one b4.2⟩
theorem nextSp_add (s : Int × Bool) (n size : Int) (hs : 0 ≤ s.1 ∧ s.1 < size) (hn : 0 ≤ n ∧ n < size) : nextSp (nextSp s n size) 1 size = nextSp s (n + 1) size := by
 unfold nextSp
 by_cases h1 : s.1 + n ≥ size
 ·simp only [if_pos h1, if_pos (show s.1 + (n + 1) ≥ size by omega)]
  rw [if_neg (by omega)]; congr 1; omega
 ·simp only [if_neg h1]
  by_cases h2 : s.1 + (n + 1) ≥ size
  ·rw [if_pos (by omega), if_pos h2]; congr 1; omega
  ·rw [if_neg (by omega), if_neg h2]; congr 1; omega
theorem nextSp_zero (s : Int × Bool) (size : Int) (hs : 0 ≤ s.1 ∧ s.1 < size) : nextSp s 0 size = s := by
 unfold nextSp; rw [if_neg (by omega), Int.add_zero]
theorem sub_put_same (b ys : List Int) (a : Int) (h : 0 ≤ a ∧ a + ys.length ≤ b.length) : sub (putAt b a ys) a ys.length = ys := by
 unfold sub putAt
 have h1 : (List.take a.toNat b).length = a.toNat := by rw [List.length_take]; omega
 rw [Int.toNat_natCast, List.drop_left' h1, List.take_left' rfl]
theorem sub_put_ahead (b ys : List Int) (a x m : Int) (h : 0 ≤ a ∧ a + ys.length ≤ b.length) (hx : 0 ≤ x ∧ 0 ≤ m ∧ x + m ≤ a) : sub (putAt b a ys) x m = sub b x m := by
 unfold sub putAt
 rw [List.drop_append_of_le_length (by rw [List.length_take]; omega), List.take_append_of_le_length (by rw [List.length_drop, List.length_take]; omega), List.drop_take, List.take_take]
 congr 1; omega
theorem sub_put_behind (b ys : List Int) (a x m : Int) (h : 0 ≤ a ∧ a + ys.length ≤ b.length) (hx : a + ys.length ≤ x ∧ 0 ≤ m) : sub (putAt b a ys) x m = sub b x m := by
 unfold sub putAt
 have h1 : (List.take a.toNat b).length = a.toNat := by rw [List.length_take]; omega
 rw [← List.append_assoc, List.drop_append, List.drop_eq_nil_of_le (by rw [List.length_append, h1]; omega), List.nil_append, List.length_append, h1, List.drop_drop]
 congr 2; omega
theorem sub_put_off (b ys : List Int) (a x m : Int) (h : 0 ≤ a ∧ a + ys.length ≤ b.length) (hx : 0 ≤ x ∧ 0 ≤ m ∧ (x + m ≤ a ∨ a + ys.length ≤ x)) : sub (putAt b a ys) x m = sub b x m := by
 rcases hx.2.2 with h1 | h1
 ·exact sub_put_ahead b ys a x m h ⟨hx.1, hx.2.1, h1⟩
 ·exact sub_put_behind b ys a x m h ⟨h1, hx.2.1⟩
theorem put_put (b ys zs : List Int) (a : Int) (h : 0 ≤ a ∧ a + ys.length + zs.length ≤ b.length) : putAt (putAt b a ys) (a + ys.length) zs = putAt b a (ys ++ zs) := by
 unfold putAt
 have h1 : (List.take a.toNat b).length = a.toNat := by rw [List.length_take]; omega
 have e1 : List.take (a + ys.length).toNat (List.take a.toNat b ++ (ys ++ List.drop (a.toNat + ys.length) b)) = List.take a.toNat b ++ ys := by
  rw [← List.append_assoc]; exact List.take_left' (by rw [List.length_append, h1]; omega)
 have e2 : List.drop ((a + ys.length).toNat + zs.length) (List.take a.toNat b ++ (ys ++ List.drop (a.toNat + ys.length) b)) = List.drop (a.toNat + (ys ++ zs).length) b := by
  rw [← List.append_assoc, List.drop_append, List.drop_eq_nil_of_le (by rw [List.length_append, h1]; omega), List.nil_append, List.drop_drop, List.length_append, h1, List.length_append]
  congr 1; omega
 rw [e1, e2]; simp
theorem bytesOf_app (a b : ByteArray) : bytesOf (a ++ b) = bytesOf a ++ bytesOf b := by unfold bytesOf; rw [app_list, List.map_append]
end Go.Proofs.Ytpfddjdkafjjfaa
end
section
namespace Go.Proofs.Ytpfddjdkafjjfaa
open Go.Aq Go.IntWalk
set_option linter.unusedVariables false
abbrev TX := LAY × (Int × Bool) × (Int × Bool) × (Int × Bool) × Int × List Int
def sumF (f : Nat → Int) : Nat → Int
 | 0 => 0
 | n + 1 => sumF f n + f n
theorem sumF_congr {f g : Nat → Int} : ∀ {n : Nat}, (∀ i, i < n → f i = g i) → sumF f n = sumF g n
 | 0, _ => rfl
 | n + 1, h => by simp only [sumF]; rw [sumF_congr fun i hi => h i (by omega), h n (by omega)]
theorem sumF_one (f : Nat → Int) (k : Nat) (v : Int) : ∀ n, k < n → sumF (fun i => if i = k then v else f i) n = sumF f n - f k + v
 | 0, h => by omega
 | n + 1, h => by
  simp only [sumF]
  by_cases hk : k = n
  ·subst hk
   rw [if_pos rfl, sumF_congr (g := f) fun i hi => if_neg (by omega)]; omega
  ·rw [sumF_one f k v n (by omega), if_neg (by omega)]; omega
theorem mget_cons (e : Int × Int) (es : EI) (k : Int) : mget 0 (e :: es) k = if e.1 = k then e.2 else mget 0 es k := by
 by_cases h : e.1 = k <;> simp [mget, h]
theorem mget_none : ∀ {es : EI} {k : Int}, mhas es k = false → mget 0 es k = 0
 | [], k, _ => rfl
 | e :: es, k, h => by
  have he : ¬ e.1 = k := fun he => by simp [mhas, he] at h
  rw [mget_cons, if_neg he]
  exact mget_none (by simpa [mhas, he] using h)
theorem sumF_sm : ∀ (es : EI) (n : Nat), (es.map (·.1)).Nodup → (∀ e ∈ es, 0 ≤ e.1 ∧ e.1 < (n : Int)) → sumF (fun i => mget 0 es (i : Int)) n = sm es
 | [], n, _, _ => by
  have : ∀ m, sumF (fun i => mget 0 ([] : EI) (i : Int)) m = 0 := by
   intro m
   induction m with
   | zero => rfl
   | succ m ih => simp only [sumF]; rw [ih]; rfl
  exact this n
 | e :: es, n, h, hk => by
  rw [List.map_cons, List.nodup_cons] at h
  have he := hk e (by simp)
  have h0 : mget 0 es e.1 = 0 := mget_none (by
   rw [Bool.eq_false_iff]
   intro hm
   exact h.1 (mhas_iff.1 hm))
  rw [sumF_congr (g := fun i => if i = e.1.toNat then e.2 else mget 0 es (i : Int)) fun i hi => by
   show mget 0 (e :: es) (i : Int) = _
   rw [mget_cons]
   by_cases hh : e.1 = (i : Int)
   ·rw [if_pos hh, if_pos (by omega)]
   ·rw [if_neg hh, if_neg (by omega)], sumF_one (fun i => mget 0 es (i : Int)) e.1.toNat e.2 n (by omega), sumF_sm es n h.2 fun x hx => hk x (by simp [hx])]
  show sm es - mget 0 es ((e.1.toNat : Nat) : Int) + e.2 = e.2 + sm es
  rw [show ((e.1.toNat : Nat) : Int) = e.1 by omega, h0]; omega
def mapF (f : Nat → Int) (n : Nat) : List Int := (List.range n).map f
structure RX (L : LAY) (len : Nat) (q : TV) (g : TM) (x : TX) (h : TR) : Prop where
 ri : RI L len q g
 le64 : ∀ e ∈ q.2.2.2.2.2.2, e.2 ≤ 64
 klt : ∀ e ∈ q.2.2.2.2.2.2, e.1 < L.2.1
 xl : x.1 = L
 xn : x.2.1 = q.2.1
 xb : x.2.2.1 = q.2.2.1
 xt : x.2.2.2.1 = q.2.2.2.1
 tin : 0 ≤ q.2.2.2.1.1 ∧ q.2.2.2.1.1 < L.2.1
 since : q.2.2.2.2.1 = min x.2.2.2.2.1 (2 * L.2.1)
 sin : 0 ≤ x.2.2.2.2.1
 hs : x.2.2.2.2.2 = mapF (fun i => mget 0 q.2.2.2.2.2.2 (i : Int)) L.2.1.toNat
 mem : h.1 = Go.Aq.strOf g.1
theorem RX.sum {L : LAY} {len : Nat} {q : TV} {g : TM} {x : TX} {h : TR} (r : RX L len q g x h) (hs : 1 ≤ L.2.1) : sumF (fun i => mget 0 q.2.2.2.2.2.2 (i : Int)) L.2.1.toNat = L.2.1 - q.2.2.2.2.2.1 := by
 rw [sumF_sm _ _ r.ri.keys fun e he => ⟨(r.ri.kin e he).1, by have := r.klt e he; omega⟩]
 have := r.ri.sum; omega
end Go.Proofs.Ytpfddjdkafjjfaa
end
section
namespace Go.Proofs.Ytpfddjdkafjjfaa
open Go.Aq Go.IntWalk
set_option linter.unusedVariables false
theorem putAt_get (b ys : List Int) (a : Int) (h : 0 ≤ a ∧ a + ys.length ≤ b.length) (i : Nat) : (putAt b a ys)[i]? = if a.toNat ≤ i ∧ i < a.toNat + ys.length then ys[i - a.toNat]? else b[i]? := by
 have h1 : (List.take a.toNat b).length = a.toNat := by rw [List.length_take]; omega
 unfold putAt
 by_cases c1 : i < a.toNat
 ·rw [if_neg (by omega), List.getElem?_append_left (by omega), List.getElem?_take, if_pos c1]
 ·rw [List.getElem?_append_right (by omega), h1]
  by_cases c2 : i < a.toNat + ys.length
  ·rw [if_pos ⟨by omega, c2⟩, List.getElem?_append_left (by omega)]
  ·rw [if_neg (by omega), List.getElem?_append_right (by omega), List.getElem?_drop]
   congr 1; omega
theorem putAt_comm (b ys zs : List Int) (a c : Int) (ha : 0 ≤ a ∧ a + ys.length ≤ b.length) (hc : 0 ≤ c ∧ c + zs.length ≤ b.length) (hd : a + ys.length ≤ c ∨ c + zs.length ≤ a) : putAt (putAt b a ys) c zs = putAt (putAt b c zs) a ys := by
 have e1 : (putAt b a ys).length = b.length := putAt_len _ _ _ ha.1 ha.2
 have e2 : (putAt b c zs).length = b.length := putAt_len _ _ _ hc.1 hc.2
 apply List.ext_getElem?
 intro i
 rw [putAt_get _ zs c (by rw [e1]; exact hc), putAt_get b ys a ha, putAt_get _ ys a (by rw [e2]; exact ha), putAt_get b zs c hc]
 by_cases c1 : c.toNat ≤ i ∧ i < c.toNat + zs.length
 ·rw [if_pos c1, if_neg (by omega), if_pos c1]
 ·rw [if_neg c1]
  by_cases c2 : a.toNat ≤ i ∧ i < a.toNat + ys.length
  ·rw [if_pos c2, if_pos c2]
  ·rw [if_neg c2, if_neg c2, if_neg c1]
theorem Store_at (k : Nat) (hk : 9 ≤ k) (a : Int) (n : Nat) (hn : n = 2 ∨ n = 4 ∨ n = 8) (v : Int) (hv : 0 ≤ v ∧ v < 256 ^ n) (g : TM) (h : okM g) (ha : 0 ≤ a ∧ a + n ≤ g.1.length) :
  ∃ r, F_gmem_Memory_Store.S k a (n : Int) (IntKind.u64.wrap v) g = .ok (0, r) ∧ okM r ∧ r.1 = putAt g.1 a (bytesOf (putL v n)) ∧ r.1.length = g.1.length := by
 have hv2 : v < 18446744073709551616 := by
  have : (256 : Int) ^ n ≤ 18446744073709551616 := by rcases hn with rfl | rfl | rfl <;> decide
  omega
 have hm : mayM a n g.1.length = true := mayM_iff.2 (by omega)
 have hm' : mayM a ((putL v n).size : Int) g.1.length = true := by rw [putL_size]; exact hm
 have w := wrM_ok g a (putL v n) h hm'
 rw [u64_in v ⟨hv.1, by omega⟩, Store_S k hk a n hn v ⟨hv.1, hv2⟩ g h, if_pos hv.2, if_pos hm]
 exact ⟨_, rfl, w.1, rfl, w.2⟩
def flB (nx wr rd : Bool) : Int := (bif nx then 1 else 0) + (bif wr then 2 else 0) + (bif rd then 128 else 32768)
theorem flB_in (nx wr rd : Bool) : 0 ≤ flB nx wr rd ∧ flB nx wr rd < 65536 := by cases nx <;> cases wr <;> cases rd <;> decide
theorem dMark_B (k : Nat) (nx wr rd : Bool) : F_desc_Mark.S k (bif wr then bOr .i64 (bif nx then 1 else 0) 2 else (bif nx then 1 else 0)) rd false = .ok (flB nx wr rd) := by
 unfold F_desc_Mark.S
 cases rd
 ·rw [O.cond_false, O.cond_pos rfl]; cases nx <;> cases wr <;> rfl
 ·rw [O.cond_true, O.cond_neg (by simp)]; cases nx <;> cases wr <;> rfl
section
variable (p : List TP) (L : LAY) (s0 : Int × Bool) (id : Int)
def paP (i : Nat) : TP := gt ((0 : Int), (0 : Int), false) p (i : Int)
def plP (i : Nat) : Int := L.1 + 16 * (nextSp s0 (i : Int) L.2.1).1
def fgP (i : Nat) : Int := flB (decide (i + 1 < p.length)) (paP p i).2.2 (nextSp s0 (i : Int) L.2.1).2
def hdP (i : Nat) : ByteArray := (putL (paP p i).1 8 ++ putL (paP p i).2.1 4) ++ putL id 2
def dsP (i : Nat) : ByteArray := dscB ((paP p i).1, (paP p i).2.1, id, fgP p L s0 i)
theorem dsP_eq (i : Nat) : dsP p L s0 id i = hdP p id i ++ putL (fgP p L s0 i) 2 := rfl
theorem hdP_len (i : Nat) : (bytesOf (hdP p id i)).length = 14 := by rw [bytesOf_len]; unfold hdP; rw [app_size, app_size, putL_size, putL_size, putL_size]
theorem dsP_len (i : Nat) : (bytesOf (dsP p L s0 id i)).length = 16 := by rw [bytesOf_len]; exact dscB_size _
def bD (b : List Int) : Nat → List Int
 | 0 => b
 | i + 1 => putAt (bD b i) (plP L s0 i) (bytesOf (dsP p L s0 id i))
def bI (b : List Int) : Nat → List Int
 | 0 => b
 | i + 1 => putAt (bI b i) (plP L s0 i) (bytesOf (if i = 0 then hdP p id i else dsP p L s0 id i))
theorem plP_in (hs : 0 ≤ s0.1 ∧ s0.1 < L.2.1) (i : Nat) (hi : (i : Int) < L.2.1) (len : Int) (hL : LayIn L len) : 0 ≤ plP L s0 i ∧ plP L s0 i + 16 ≤ len := by
 have h1 := nextSp_in s0 (i : Int) L.2.1 hs (by omega)
 have h2 := hL.r
 unfold plP; omega
theorem plP_ne (hs : 0 ≤ s0.1 ∧ s0.1 < L.2.1) (i : Nat) (h0 : 0 < i) (hi : (i : Int) < L.2.1) : plP L s0 i + 16 ≤ plP L s0 0 ∨ plP L s0 0 + 16 ≤ plP L s0 i := by
 unfold plP nextSp
 rw [if_neg (show ¬ s0.1 + ((0 : Nat) : Int) ≥ L.2.1 by omega)]
 split
 ·show L.1 + 16 * (s0.1 + (i : Int) - L.2.1) + 16 ≤ L.1 + 16 * (s0.1 + ((0 : Nat) : Int)) ∨ _
  omega
 ·show _ ∨ L.1 + 16 * (s0.1 + ((0 : Nat) : Int)) + 16 ≤ L.1 + 16 * (s0.1 + (i : Int))
  omega
theorem bI_len (b : List Int) (hs : 0 ≤ s0.1 ∧ s0.1 < L.2.1) (hL : LayIn L b.length) : ∀ i : Nat, (i : Int) ≤ L.2.1 → (bI p L s0 id b i).length = b.length
 | 0, _ => rfl
 | i + 1, h => by
  have ih := bI_len b hs hL i (by omega)
  have hp := plP_in L s0 hs i (by omega) b.length hL
  show (putAt _ _ (bytesOf (if i = 0 then _ else _))).length = _
  have hl : (bytesOf (if i = 0 then hdP p id i else dsP p L s0 id i)).length ≤ 16 := by
   split
   ·rw [hdP_len]; omega
   ·rw [dsP_len]; omega
  rw [putAt_len _ _ _ hp.1 (by rw [ih]; omega), ih]
theorem bD_bI (b : List Int) (hs : 0 ≤ s0.1 ∧ s0.1 < L.2.1) (hL : LayIn L b.length) : ∀ i : Nat, ((i + 1 : Nat) : Int) ≤ L.2.1 → bD p L s0 id b (i + 1) = putAt (bI p L s0 id b (i + 1)) (plP L s0 0 + 14) (bytesOf (putL (fgP p L s0 0) 2))
 | 0, h => by
  have hp := plP_in L s0 hs 0 (by omega) b.length hL
  have hf : (bytesOf (putL (fgP p L s0 0) 2)).length = 2 := by rw [bytesOf_len, putL_size]
  have := put_put b (bytesOf (hdP p id 0)) (bytesOf (putL (fgP p L s0 0) 2)) (plP L s0 0) (by rw [hdP_len, hf]; omega)
  rw [hdP_len, ← bytesOf_app, ← dsP_eq] at this
  exact this.symm
 | i + 1, h => by
  have ih := bD_bI b hs hL i (by omega)
  have hp0 := plP_in L s0 hs 0 (by omega) b.length hL
  have hp := plP_in L s0 hs (i + 1) (by omega) b.length hL
  have hne := plP_ne L s0 hs (i + 1) (by omega) (by omega)
  have hl := bI_len p L s0 id b hs hL (i + 1) (by omega)
  have hf : (bytesOf (putL (fgP p L s0 0) 2)).length = 2 := by rw [bytesOf_len, putL_size]
  show putAt (bD p L s0 id b (i + 1)) (plP L s0 (i + 1)) (bytesOf (dsP p L s0 id (i + 1))) = putAt (putAt (bI p L s0 id b (i + 1)) (plP L s0 (i + 1)) (bytesOf (if i + 1 = 0 then _ else _))) _ _
  rw [if_neg (by omega), ih]
  exact putAt_comm _ _ _ _ _ (by rw [hf, hl]; omega) (by rw [dsP_len, hl]; omega) (by rw [hf, dsP_len]; omega)
end
def pOk (p : List TP) (len : Int) (i : Nat) : Bool := decide (0 < (paP p i).2.1) && mayM (paP p i).1 (paP p i).2.1 len && (decide (i = 0) || (paP p i).2.2 || !(paP p (i - 1)).2.2)
def alF (p : List TP) (len : Int) : Nat → Nat → Bool
 | 0, _ => true
 | m + 1, i => pOk p len i && alF p len m (i + 1)
theorem alF_at (p : List TP) (len : Int) : ∀ (m i j : Nat), alF p len m i = true → i ≤ j → j < i + m → pOk p len j = true
 | 0, i, j, _, _, _ => by omega
 | m + 1, i, j, h, h1, h2 => by
  simp only [alF, Bool.and_eq_true] at h
  by_cases e : i = j
  ·subst e; exact h.1
  ·exact alF_at p len m (i + 1) j h.2 (by omega) (by omega)
def mayE (p : List TP) (len f : Int) : Int := if 1 ≤ p.length ∧ p.length ≤ 64 ∧ alF p len p.length 0 = true then (if (p.length : Int) > f then 151 else 0) else 150
theorem may_is (k : Nat) (hk : 70 ≤ k) (p : List TP) (q : TV) (g : TM) (hg : okM g) : F_drvq_Queue_may.S k p q g = .ok (mayE p g.1.length q.2.2.2.2.2.1, (q, g)) := by
 unfold F_drvq_Queue_may.S F_drvq_Queue_may.top mayE
 by_cases a1 : (p.length : Int) = 0
 ·rw [O.cond_pos a1, if_neg (by omega)]
 by_cases a2 : (p.length : Int) > 64
 ·rw [O.cond_neg a1, O.cond_pos a2, if_neg (by omega)]
 rw [O.cond_neg a1, O.cond_neg a2]
 have lp : ∀ (m i j : Nat), i + m = p.length → m < j → F_drvq_Queue_may.l0 k p q g j (i : Int) = .ok ((if alF p g.1.length m i = true then (if (p.length : Int) > q.2.2.2.2.2.1 then 151 else 0) else 150), (q, g)) := by
  intro m
  induction m with
  | zero =>
   intro i j hi hj
   obtain ⟨j, rfl⟩ : ∃ i, j = i + 1 := ⟨j - 1, by omega⟩
   show F_drvq_Queue_may.l0_b _ _ _ _ _ _ = _
   unfold F_drvq_Queue_may.l0_b
   rw [O.cond_neg (by omega), O.cond_dec, if_pos (show alF p g.1.length 0 i = true from rfl)]
   split <;> rfl
  | succ m ih =>
   intro i j hi hj
   obtain ⟨j, rfl⟩ : ∃ i, j = i + 1 := ⟨j - 1, by omega⟩
   have hc := ih (i + 1) j (by omega) (by omega)
   have ea : alF p g.1.length (m + 1) i = (pOk p g.1.length i && alF p g.1.length m (i + 1)) := rfl
   have e1 : IntKind.i64.wrap ((i : Int) + 1) = ((i + 1 : Nat) : Int) := i64_in _ (by omega)
   show F_drvq_Queue_may.l0_b _ _ _ _ _ _ = _
   unfold F_drvq_Queue_may.l0_b
   rw [ea, O.cond_pos (by omega), O.chk_dec (by omega), O.chk_dec (by omega), show gt ((0 : Int), (0 : Int), false) p (i : Int) = paP p i from rfl]
   unfold pOk
   by_cases b1 : (paP p i).2.1 < 1
   ·rw [O.cond_pos b1, decide_eq_false (show ¬ 0 < (paP p i).2.1 by omega)]; simp
   rw [O.cond_neg b1, May_S k _ _ g hg.1, O.bind_ok, decide_eq_true (show 0 < (paP p i).2.1 by omega), e1]
   cases b2 : mayM (paP p i).1 (paP p i).2.1 g.1.length with
   | false => rw [Bool.not_false, O.cond_true]; simp
   | true =>
    rw [Bool.not_true, O.cond_false]
    by_cases h0 : i = 0
    ·subst h0
     rw [O.cond_neg (by omega), hc]; simp
    ·have e3 : IntKind.i64.wrap ((i : Int) - 1) = ((i - 1 : Nat) : Int) := by rw [i64_in _ (by omega)]; omega
     rw [O.cond_pos (by omega), e3, O.chk_dec (by omega), O.chk_dec (by omega), show gt ((0 : Int), (0 : Int), false) p ((i - 1 : Nat) : Int) = paP p (i - 1) from rfl]
     cases b3 : (paP p (i - 1)).2.2 with
     | false => rw [O.cond_false, hc]; simp
     | true =>
      rw [O.cond_true]
      cases b4 : (paP p i).2.2 with
      | false => rw [Bool.not_false, O.cond_true]; simp [h0]
      | true => rw [Bool.not_true, O.cond_false, hc]; simp
 have lp0 := lp p.length 0 k (by omega) (by omega)
 rw [show ((0 : Nat) : Int) = 0 from rfl] at lp0
 show F_drvq_Queue_may.l0 k p q g k (0 : Int) = _
 rw [lp0]
 by_cases c : alF p g.1.length p.length 0 = true
 ·rw [if_pos c, if_pos (show 1 ≤ p.length ∧ p.length ≤ 64 ∧ alF p g.1.length p.length 0 = true from ⟨by omega, by omega, c⟩)]
 ·rw [if_neg c, if_neg (show ¬ (1 ≤ p.length ∧ p.length ≤ 64 ∧ alF p g.1.length p.length 0 = true) from fun h => c h.2.2)]
end Go.Proofs.Ytpfddjdkafjjfaa
end
section
namespace Go.Proofs.Ytpfddjdkafjjfaa
open Go.Aq Go.IntWalk
set_option linter.unusedVariables false
structure PIn (p : List TP) : Prop where
 lo : 1 ≤ p.length
 hi : p.length ≤ 64
 each : ∀ i, i < p.length → (0 ≤ (paP p i).1 ∧ (paP p i).1 ≤ 1048576) ∧ 1 ≤ (paP p i).2.1 ∧ (paP p i).2.1 ≤ 1048576
theorem PIn.of {p : List TP} {len : Nat} (hl : len ≤ 1048576) (h1 : 1 ≤ p.length ∧ p.length ≤ 64) (h : alF p len p.length 0 = true) : PIn p := by
 refine ⟨h1.1, h1.2, fun i hi => ?_⟩
 have := alF_at p len p.length 0 i h (by omega) (by omega)
 unfold pOk at this
 simp only [Bool.and_eq_true, decide_eq_true_eq] at this
 have h2 := mayM_iff.1 this.1.2
 have h3 := this.1.1
 omega
end Go.Proofs.Ytpfddjdkafjjfaa
end
section
namespace Go.Proofs.Ytpfddjdkafjjfaa
open Go.Aq Go.IntWalk
set_option linter.unusedVariables false
theorem Post_img (k : Nat) (hk : 70 ≤ k) (p : List TP) (hp : PIn p) {L : LAY} {len : Nat} (hlen : len ≤ 2048) (hL : LayIn L len) (q : TV) (g : TM) (h : RI L len q g) (hm : F_drvq_Queue_may.S k p q g = .ok (0, (q, g))) (hn : (p.length : Int) ≤ L.2.1) :
    ∃ g', F_drvq_Queue_Post.S k p q g = .ok ((((leastN q.2.2.2.2.2.2 : Nat) : Int), 0), (q.1, nextSp q.2.1 (p.length : Int) L.2.1, q.2.2.1, q.2.2.2.1, min (IntKind.i64.wrap (q.2.2.2.2.1 + (p.length : Int))) (IntKind.i64.wrap (2 * q.1.2.1)), IntKind.i64.wrap (q.2.2.2.2.2.1 - (p.length : Int)), mput q.2.2.2.2.2.2 ((leastN q.2.2.2.2.2.2 : Nat) : Int) (p.length : Int)), g') ∧
      okM g' ∧ g'.1 = bD p L q.2.1 ((leastN q.2.2.2.2.2.2 : Nat) : Int) g.1 p.length := by
  have hlo := hp.lo; have hhi := hp.hi; have hids := h.ids; have hfr := h.fr
  have hs1 := hL.sz; have hr := hL.r; have hlay := h.lay; have hs0 := h.nx
  have hLg : LayIn L g.1.length := by rw [h.len]; exact hL
  have hls := least_spec q.2.2.2.2.2.2
  have hle := held_le q.2.2.2.2.2.2 (leastN q.2.2.2.2.2.2) hls.1
  obtain ⟨id, hid⟩ : ∃ id : Int, ((leastN q.2.2.2.2.2.2 : Nat) : Int) = id := ⟨_, rfl⟩
  have hidr : 0 ≤ id ∧ id ≤ 40000 := by omega
  unfold F_drvq_Queue_Post.S F_drvq_Queue_Post.top
  rw [hm, O.bind_ok, O.cond_neg (by simp), O.twice_eq, O.chk_dec (by dsimp only; omega), hid]
  have lp : ∀ (m i j : Nat) (f : Int) (g' : TM), i + m = p.length → m < j → okM g' → g'.1 = bI p L q.2.1 id g.1 i → (0 < i → f = fgP p L q.2.1 0) →
      ∃ g'', F_drvq_Queue_Post.l1 k p (0, q, g) j f (i : Int) (nextSp q.2.1 (i : Int) L.2.1).1 (nextSp q.2.1 (i : Int) L.2.1).2 g'.1 g'.2.2 g'.2.1 = .ok ((id, 0), (q.1, nextSp q.2.1 (p.length : Int) L.2.1, q.2.2.1, q.2.2.2.1, min (IntKind.i64.wrap (q.2.2.2.2.1 + (p.length : Int))) (IntKind.i64.wrap (2 * q.1.2.1)), IntKind.i64.wrap (q.2.2.2.2.2.1 - (p.length : Int)), mput q.2.2.2.2.2.2 id (p.length : Int)), g'') ∧
        okM g'' ∧ g''.1 = bD p L q.2.1 id g.1 p.length := by
    intro m
    induction m with
    | zero =>
      intro i j f g' hi hj hg' hb hf
      obtain ⟨j, rfl⟩ : ∃ i, j = i + 1 := ⟨j - 1, by omega⟩
      obtain rfl : i = p.length := by omega
      have hpl0 := plP_in L q.2.1 hs0 0 (by omega) g.1.length hLg
      have hlI := bI_len p L q.2.1 id g.1 hs0 hLg p.length hn
      have e0 : IntKind.i64.wrap ((IntKind.i64.wrap (q.1.1 + (IntKind.i64.wrap ((16 : Int) * q.2.1.1)))) + (14 : Int)) = plP L q.2.1 0 + 14 := by
        have hg1 := h.len
        rw [hlay, i64_in ((16 : Int) * q.2.1.1) (by omega), i64_in (L.1 + _) (by omega), i64_in _ (by omega)]
        unfold plP
        rw [show ((0 : Nat) : Int) = 0 from rfl, nextSp_zero q.2.1 L.2.1 hs0]
      show ∃ g'', F_drvq_Queue_Post.l1_b _ _ _ _ _ _ _ _ _ _ _ _ = .ok (_, _, g'') ∧ _
      unfold F_drvq_Queue_Post.l1_b
      obtain ⟨r, hr1, hr2, hr3, hr4⟩ := Store_at k (by omega) (plP L q.2.1 0 + 14) 2 (by omega) f (by
        rw [hf (by omega)]
        have := flB_in (decide (0 + 1 < p.length)) (paP p 0).2.2 (nextSp q.2.1 ((0 : Nat) : Int) L.2.1).2
        show 0 ≤ fgP p L q.2.1 0 ∧ fgP p L q.2.1 0 < 65536
        unfold fgP; omega) g' hg' (by rw [hb, hlI]; omega)
      have hr1' : F_gmem_Memory_Store.S k (plP L q.2.1 0 + 14) (2 : Int) (IntKind.u64.wrap f) (g'.1, g'.2.1, g'.2.2) = .ok (0, r) := hr1
      rw [O.cond_neg (by omega)]
      dsimp only
      rw [e0, hr1', O.bind_ok, hid]
      refine ⟨r, rfl, hr2, ?_⟩
      obtain ⟨n, hnn⟩ : ∃ n, p.length = n + 1 := ⟨p.length - 1, by omega⟩
      rw [hr3, hb, hf (by omega), hnn]
      exact (bD_bI p L q.2.1 id g.1 hs0 hLg n (by omega)).symm
    | succ m ih =>
      intro i j f g' hi hj hg' hb hf
      obtain ⟨j, rfl⟩ : ∃ i, j = i + 1 := ⟨j - 1, by omega⟩
      have hlt : i < p.length := by omega
      have hpl := plP_in L q.2.1 hs0 i (by omega) g.1.length hLg
      have hlI := bI_len p L q.2.1 id g.1 hs0 hLg i (by omega)
      have hns := nextSp_in q.2.1 (i : Int) L.2.1 hs0 (by omega)
      have hea := hp.each i hlt
      have nx : F_spot_Next.S k ((nextSp q.2.1 (i : Int) L.2.1).1, (nextSp q.2.1 (i : Int) L.2.1).2) 1 q.1.2.1 = .ok (nextSp q.2.1 ((i + 1 : Nat) : Int) L.2.1, 0) := by
        rw [hlay]
        have := spotNext_S k (nextSp q.2.1 (i : Int) L.2.1) 1 L.2.1 hns hs1.2 (by omega)
        rw [nextSp_add q.2.1 (i : Int) L.2.1 hs0 (by omega)] at this
        exact this
      have e1 : IntKind.i64.wrap ((i : Int) + 1) = ((i + 1 : Nat) : Int) := i64_in _ (by omega)
      have hg1 := h.len
      have a0 : IntKind.i64.wrap (q.1.1 + (IntKind.i64.wrap ((16 : Int) * (nextSp q.2.1 (i : Int) L.2.1).1))) = plP L q.2.1 i := by
        rw [hlay, i64_in ((16 : Int) * _) (by omega), i64_in _ (by omega)]; rfl
      have hfgr : 0 ≤ fgP p L q.2.1 i ∧ fgP p L q.2.1 i < 65536 := flB_in _ _ _
      have j9 : ∀ fl : Int, fl = (bif (paP p i).2.2 then bOr .i64 (bif decide (i + 1 < p.length) then 1 else 0) 2 else (bif decide (i + 1 < p.length) then 1 else 0)) →
          ∃ g'', F_drvq_Queue_Post.j9 k p (0, q, g) f (i : Int) (nextSp q.2.1 (i : Int) L.2.1).1 (nextSp q.2.1 (i : Int) L.2.1).2 g'.1 g'.2.2 g'.2.1 (F_drvq_Queue_Post.l1 k p (0, q, g) j) fl = .ok ((id, 0), (q.1, nextSp q.2.1 (p.length : Int) L.2.1, q.2.2.1, q.2.2.2.1, min (IntKind.i64.wrap (q.2.2.2.2.1 + (p.length : Int))) (IntKind.i64.wrap (2 * q.1.2.1)), IntKind.i64.wrap (q.2.2.2.2.2.1 - (p.length : Int)), mput q.2.2.2.2.2.2 id (p.length : Int)), g'') ∧
            okM g'' ∧ g''.1 = bD p L q.2.1 id g.1 p.length := by
        intro fl hfl
        subst hfl
        show ∃ g'', F_drvq_Queue_Post.j9_b _ _ _ _ _ _ _ _ _ _ _ _ = .ok (_, _, g'') ∧ _
        unfold F_drvq_Queue_Post.j9_b
        dsimp only
        rw [dMark_B, O.bind_ok, a0, hid, show gt ((0 : Int), (0 : Int), false) p (i : Int) = paP p i from rfl, show flB (decide (i + 1 < p.length)) (paP p i).2.2 (nextSp q.2.1 (i : Int) L.2.1).2 = fgP p L q.2.1 i from rfl]
        obtain ⟨a, ha, a1, a2, a3⟩ := Store_at k (by omega) (plP L q.2.1 i) 8 (by omega) (paP p i).1 (by rw [show (256 : Int) ^ 8 = 18446744073709551616 from rfl]; omega) g' hg' (by rw [hb, hlI]; omega)
        have ha' : F_gmem_Memory_Store.S k (plP L q.2.1 i) (8 : Int) (IntKind.u64.wrap (paP p i).1) (g'.1, g'.2.1, g'.2.2) = .ok (0, a) := ha
        have hal : a.1.length = g.1.length := by rw [a3, hb, hlI]
        obtain ⟨b, hbb, b1, b2, b3⟩ := Store_at k (by omega) (plP L q.2.1 i + 8) 4 (by omega) (paP p i).2.1 (by rw [show (256 : Int) ^ 4 = 4294967296 from rfl]; omega) a a1 (by rw [hal]; omega)
        have hb' : F_gmem_Memory_Store.S k (plP L q.2.1 i + 8) (4 : Int) (IntKind.u64.wrap (paP p i).2.1) a = .ok (0, b) := hbb
        obtain ⟨c, hc, c1, c2, c3⟩ := Store_at k (by omega) (plP L q.2.1 i + 12) 2 (by omega) id (by rw [show (256 : Int) ^ 2 = 65536 from rfl]; omega) b b1 (by rw [b3, hal]; omega)
        have hc' : F_gmem_Memory_Store.S k (plP L q.2.1 i + 12) (2 : Int) (IntKind.u64.wrap id) b = .ok (0, c) := hc
        have y1 : (bytesOf (putL (paP p i).1 8)).length = 8 := by rw [bytesOf_len, putL_size]
        have y2 : (bytesOf (putL (paP p i).2.1 4)).length = 4 := by rw [bytesOf_len, putL_size]
        have y3 : (bytesOf (putL id 2)).length = 2 := by rw [bytesOf_len, putL_size]
        have hput : c.1 = putAt (bI p L q.2.1 id g.1 i) (plP L q.2.1 i) (bytesOf (hdP p id i)) := by
          have p1 := put_put g'.1 (bytesOf (putL (paP p i).1 8)) (bytesOf (putL (paP p i).2.1 4)) (plP L q.2.1 i) (by rw [hb, hlI]; omega)
          rw [y1] at p1
          have p2 := put_put g'.1 (bytesOf (putL (paP p i).1 8) ++ bytesOf (putL (paP p i).2.1 4)) (bytesOf (putL id 2)) (plP L q.2.1 i) (by rw [List.length_append, hb, hlI]; omega)
          rw [List.length_append, y1, y2] at p2
          rw [c2, b2, a2, show plP L q.2.1 i + 8 = plP L q.2.1 i + ((8 : Nat) : Int) from rfl, p1, show plP L q.2.1 i + 12 = plP L q.2.1 i + ((8 + 4 : Nat) : Int) from rfl, p2, hb]
          unfold hdP
          rw [bytesOf_app, bytesOf_app]
        rw [ha', O.bind_ok, i64_in (plP L q.2.1 i + 8) (by omega), hb', O.bind_ok, i64_in (plP L q.2.1 i + 12) (by omega), hc', O.bind_ok, e1]
        by_cases h0 : i = 0
        · subst h0
          rw [O.cond_pos (show ((0 : Nat) : Int) = 0 from rfl), nx, O.bind_ok]
          have hbI : c.1 = bI p L q.2.1 id g.1 (0 + 1) := by
            show c.1 = putAt _ _ (bytesOf (if 0 = 0 then _ else _))
            rw [if_pos rfl]; exact hput
          exact ih (0 + 1) j (fgP p L q.2.1 0) c (by omega) (by omega) c1 hbI (fun _ => rfl)
        · obtain ⟨d, hd, d1, d2, d3⟩ := Store_at k (by omega) (plP L q.2.1 i + 14) 2 (by omega) (fgP p L q.2.1 i) (by rw [show (256 : Int) ^ 2 = 65536 from rfl]; omega) c c1 (by rw [c3, b3, hal]; omega)
          have hd' : F_gmem_Memory_Store.S k (plP L q.2.1 i + 14) (2 : Int) (IntKind.u64.wrap (fgP p L q.2.1 i)) c = .ok (0, d) := hd
          rw [O.cond_neg (by omega), i64_in (plP L q.2.1 i + 14) (by omega), hd', O.bind_ok, nx, O.bind_ok]
          have hbI : d.1 = bI p L q.2.1 id g.1 (i + 1) := by
            show d.1 = putAt _ _ (bytesOf (if i = 0 then _ else _))
            rw [if_neg h0, d2, hput, dsP_eq, bytesOf_app]
            have y4 : (bytesOf (putL (fgP p L q.2.1 i) 2)).length = 2 := by rw [bytesOf_len, putL_size]
            have p3 := put_put (bI p L q.2.1 id g.1 i) (bytesOf (hdP p id i)) (bytesOf (putL (fgP p L q.2.1 i) 2)) (plP L q.2.1 i) (by rw [hdP_len, y4, hlI]; omega)
            rw [hdP_len] at p3
            exact p3
          exact ih (i + 1) j f d (by omega) (by omega) d1 hbI (fun _ => hf (by omega))
      have j8 : ∀ fl : Int, fl = (bif decide (i + 1 < p.length) then 1 else 0) → ∃ g'', F_drvq_Queue_Post.j8 k p (0, q, g) f (i : Int) (nextSp q.2.1 (i : Int) L.2.1).1 (nextSp q.2.1 (i : Int) L.2.1).2 g'.1 g'.2.2 g'.2.1 (F_drvq_Queue_Post.l1 k p (0, q, g) j) fl = .ok ((id, 0), (q.1, nextSp q.2.1 (p.length : Int) L.2.1, q.2.2.1, q.2.2.2.1, min (IntKind.i64.wrap (q.2.2.2.2.1 + (p.length : Int))) (IntKind.i64.wrap (2 * q.1.2.1)), IntKind.i64.wrap (q.2.2.2.2.2.1 - (p.length : Int)), mput q.2.2.2.2.2.2 id (p.length : Int)), g'') ∧
            okM g'' ∧ g''.1 = bD p L q.2.1 id g.1 p.length := by
        intro fl hfl
        show ∃ g'', F_drvq_Queue_Post.j8_b _ _ _ _ _ _ _ _ _ _ _ _ _ = .ok (_, _, g'') ∧ _
        unfold F_drvq_Queue_Post.j8_b
        rw [show gt ((0 : Int), (0 : Int), false) p (i : Int) = paP p i from rfl]
        cases hw : (paP p i).2.2 with
        | true => rw [O.cond_true]; exact j9 _ (by rw [hw, hfl]; rfl)
        | false => rw [O.cond_false]; exact j9 _ (by rw [hw, hfl]; rfl)
      show ∃ g'', F_drvq_Queue_Post.l1_b _ _ _ _ _ _ _ _ _ _ _ _ = .ok (_, _, g'') ∧ _
      unfold F_drvq_Queue_Post.l1_b
      rw [O.cond_pos (by omega), O.chk_dec (by omega), O.chk_dec (by omega), i64_in ((p.length : Int) - 1) (by omega)]
      by_cases c : i + 1 < p.length
      · rw [O.cond_pos (by omega)]
        exact j8 1 (by rw [decide_eq_true c]; rfl)
      · rw [O.cond_neg (by omega)]
        exact j8 0 (by rw [decide_eq_false c]; rfl)
  have := lp p.length 0 k 0 g (by omega) (by omega) h.okg rfl (fun h => by omega)
  rw [show ((0 : Nat) : Int) = 0 from rfl, nextSp_zero q.2.1 L.2.1 hs0] at this
  exact this
end Go.Proofs.Ytpfddjdkafjjfaa
end
section
namespace Go.Proofs.Ytpfddjdkafjjfaa
open Go.Aq Go.IntWalk
set_option linter.unusedVariables false
def usP (f : Int) (w : Bool) : Bool := (decide (bAnd .i64 f 128 ≠ 0) == decide (bAnd .i64 f 32768 ≠ 0)) && (decide (bAnd .i64 f 128 ≠ 0) == w)
theorem Used_is (k : Nat) (f : Int) (w : Bool) : F_desc_Used.S k f w = .ok (usP f w) := by
 unfold F_desc_Used.S F_desc_says.S usP
 generalize decide (bAnd .i64 f 128 ≠ 0) = a
 generalize decide (bAnd .i64 f 32768 ≠ 0) = u
 cases a <;> cases u <;> cases w <;> simp [O.cond_eq, O.bind_ok]
end Go.Proofs.Ytpfddjdkafjjfaa
end
