/- What words.Get, Put, Turn, and the document's, come to, either end first. -/
import Derived.Test.YtpfddjdkafjjfaaGreatDPW
namespace Go.Proofs.YtpfddjdkafjjfaaGreat
open Go.Aq Go.IntWalk
set_option linter.unusedVariables false

theorem u64_bt (s : ByteArray) (i : Int) : IntKind.u64.wrap (bt s i) = bt s i := by
  have := bt_lo s i; have := bt_hi s i; exact u64_in _ (by omega)
theorem pow56 (o : Nat) (h : o ≤ 7) : (256 : Int) ^ o ≤ 2 ^ 56 := by
  rw [show (256 : Int) = 2 ^ 8 from rfl, ← Int.pow_mul]
  exact_mod_cast Nat.pow_le_pow_right (by decide) (by omega : 8 * o ≤ 56)
/-- A number of bytes that end at a place, the last first. -/
def bl (s : ByteArray) (e : Nat) : Nat → Int
  | 0 => 0
  | o + 1 => bl s e o * 256 + bt s ((e - 1 - o : Nat) : Int)
theorem bl_lo (s : ByteArray) (e : Nat) : ∀ n, 0 ≤ bl s e n ∧ bl s e n < 256 ^ n
  | 0 => by simp [bl]
  | n + 1 => by
    have := bl_lo s e n; have h1 := bt_lo s ((e - 1 - n : Nat) : Int); have h2 := bt_hi s ((e - 1 - n : Nat) : Int)
    unfold bl
    rw [Int.pow_succ]
    omega
/-- Bytes, turned about. -/
def revT (s : ByteArray) : ByteArray := ⟨s.data.toList.reverse.toArray⟩
theorem revT_size (s : ByteArray) : (revT s).size = s.size := by rw [size_list, size_list]; simp [revT]
theorem bt_rev (s : ByteArray) (i : Nat) (h : i < s.size) : bt (revT s) (i : Int) = bt s ((s.size - 1 - i : Nat) : Int) := by
  rw [size_list] at h ⊢
  have h1 : i < (revT s).data.toList.length := by simp [revT] at h ⊢; exact h
  rw [bt_at _ i h1, bt_at s _ (by omega)]
  simp [revT, List.getElem_reverse]
theorem be_rev (s : ByteArray) : ∀ n, n ≤ s.size → be (revT s) 0 n = bl s s.size n
  | 0, _ => rfl
  | n + 1, h => by
    unfold be bl
    rw [be_rev s n (by omega), Nat.zero_add, bt_rev s n (by omega)]
theorem bl_ext (s : ByteArray) (i j : Nat) (hj : j ≤ s.size) : ∀ n, n ≤ j - i → bl (s.extract i j) (j - i) n = bl s j n
  | 0, _ => rfl
  | n + 1, h => by
    unfold bl
    rw [bl_ext s i j hj n (by omega), bt_ext s i j _ (by omega)]
    congr 3; omega
theorem step_u64' (v b : Int) (hv : 0 ≤ v ∧ v < 2 ^ 56) (hb : 0 ≤ b ∧ b ≤ 255) : IntKind.u64.wrap (IntKind.u64.wrap (v * 256) + IntKind.u64.wrap b) = v * 256 + b := by
  rw [u64_in (v * 256) (by omega), u64_in b (by omega), u64_in _ (by omega)]

theorem Turn_S (k : Nat) (s : ByteArray) (hs : s.size ≤ 1073741824) (hk : s.size + 1 ≤ k) : F_words_Turn.S k s = .ok (revT s) := by
  have lp : ∀ (m i j : Nat), i + m = s.size → m < j → ∀ L : List Int, L.length = s.size → L.drop (s.size - i) = ((s.data.toList.take i).reverse.map fun c => (c.toNat : Int)) →
      F_words_Turn.l0 k s j (i : Int) L = .ok (revT s) := by
    intro m
    induction m with
    | zero =>
      intro i j hi hj L hl hd
      obtain ⟨j, rfl⟩ : ∃ i, j = i + 1 := ⟨j - 1, by omega⟩
      show F_words_Turn.l0_b k s _ _ _ = _
      unfold F_words_Turn.l0_b
      rw [O.cond_neg (by omega)]
      congr 1
      rw [show s.size - i = 0 from by omega, List.drop_zero, List.take_of_length_le (by rw [← size_list]; omega)] at hd
      rw [hd]
      apply list_eq
      show (List.map _ (List.map _ _)) = _
      rw [List.map_map]
      show _ = s.data.toList.reverse
      conv => rhs; rw [← List.map_id s.data.toList.reverse]
      apply List.map_congr_left
      intro c _
      show UInt8.ofNat ((c.toNat : Int)).toNat = c
      simp
    | succ m ih =>
      intro i j hi hj L hl hd
      obtain ⟨j, rfl⟩ : ∃ i, j = i + 1 := ⟨j - 1, by omega⟩
      show F_words_Turn.l0_b k s _ _ _ = _
      unfold F_words_Turn.l0_b
      have e1 : IntKind.i64.wrap (IntKind.i64.wrap ((s.size : Int) - 1) - (i : Int)) = ((s.size - 1 - i : Nat) : Int) := by
        rw [i64_in ((s.size : Int) - 1) (by omega), i64_in _ (by omega)]; omega
      rw [O.cond_pos (by omega), O.chk_dec (by omega), e1, O.chk_dec (by omega), O.chk_dec (by omega), i64_in _ (by omega)]
      refine ih (i + 1) j (by omega) (by omega) _ (by simp [su, hl]) ?_
      have hi' : i < s.data.toList.length := by rw [← size_list]; omega
      unfold su
      rw [Int.toNat_natCast, show s.size - (i + 1) = s.size - 1 - i from by omega, List.drop_eq_getElem_cons (by simp [hl]; omega), List.getElem_set_self, List.drop_set_of_lt (by omega), show s.size - 1 - i + 1 = s.size - i from by omega, hd]
      rw [List.take_succ_eq_append_getElem hi', List.reverse_append, bt_at s i hi']
      rfl
  unfold F_words_Turn.S F_words_Turn.top
  rw [O.chk_dec (by omega), Int.toNat_natCast]
  exact lp s.size 0 k (by omega) (by omega) _ (by simp) (by rw [Nat.sub_zero, List.drop_of_length_le (by simp)]; rfl)

/-- A number of so many bytes, its lowest byte first, at a place, or none. -/
theorem GetL_S (k : Nat) (hk : 9 ≤ k) (s : ByteArray) (hs : s.size ≤ 140737488351232) (i n : Nat) (hn : 1 ≤ n ∧ n ≤ 8) (hi : i ≤ 140737488351232) : F_words_Get.S k s (i : Int) (n : Int) false = .ok (if i + n ≤ s.size then (bl s (i + n) n, 0) else (0, 10)) := by
  have lp : i + n ≤ s.size → ∀ (m o j : Nat), o + m = n → m < j → F_words_Get.l0 k (n : Int) (revT (s.extract i (i + n))) j (be (revT (s.extract i (i + n))) 0 o) (o : Int) = .ok (bl s (i + n) n, 0) := by
    intro hin m
    have sz : (s.extract i (i + n)).size = n := by rw [ext_size]; omega
    induction m with
    | zero =>
      intro o j ho hj
      obtain ⟨j, rfl⟩ : ∃ i, j = i + 1 := ⟨j - 1, by omega⟩
      obtain rfl : o = n := by omega
      show F_words_Get.l0_b k _ _ _ _ _ = _
      unfold F_words_Get.l0_b
      rw [O.cond_neg (by omega), be_rev _ _ (by omega)]
      have h := bl_ext s i (i + o) hin o (by omega)
      rw [show i + o - i = o from by omega] at h
      rw [sz, h]
    | succ m ih =>
      intro o j ho hj
      obtain ⟨j, rfl⟩ : ∃ i, j = i + 1 := ⟨j - 1, by omega⟩
      show F_words_Get.l0_b k _ _ _ _ _ = _
      unfold F_words_Get.l0_b
      have hb := be_lo (revT (s.extract i (i + n))) 0 o
      have hp := pow56 o (by omega)
      have b1 := bt_lo (revT (s.extract i (i + n))) ((0 + o : Nat) : Int)
      have b2 := bt_hi (revT (s.extract i (i + n))) ((0 + o : Nat) : Int)
      rw [O.cond_pos (by omega), O.chk_dec (by rw [revT_size, sz]; omega)]
      rw [Nat.zero_add] at b1 b2
      rw [step_u64 _ _ ⟨hb.1, by omega⟩ ⟨b1, b2⟩, i64_in _ (by omega)]
      have h := ih (o + 1) j (by omega) (by omega)
      unfold be at h
      rw [Nat.zero_add] at h
      exact h
  unfold F_words_Get.S F_words_Get.top
  rw [O.cond_neg (by omega), O.cond_neg (by omega), O.cond_neg (by omega), i64_in ((s.size : Int) - _) (by omega), i64_in _ (by omega)]
  by_cases h : i + n ≤ s.size
  · rw [O.cond_neg (by omega), O.chk_dec (by omega), if_pos h]
    show O.cond true _ _ = _
    have e : ((i : Int) + (n : Int)).toNat = i + n := by omega
    rw [O.cond_true, Int.toNat_natCast, e, Turn_S k _ (by rw [ext_size]; omega) (by rw [ext_size]; omega), O.bind_ok]
    exact lp h n 0 k (by omega) (by omega)
  · rw [O.cond_pos (by omega), if_neg h]
/-- A number's lowest bytes, the highest of them first. -/
def wb (v : Int) : Nat → List Int
  | 0 => []
  | n + 1 => v / 256 ^ n % 256 :: wb v n
theorem wb_length (v : Int) : ∀ n, (wb v n).length = n
  | 0 => rfl
  | n + 1 => by simp [wb, wb_length v n]
theorem wb_range (v : Int) : ∀ n, ∀ x ∈ wb v n, 0 ≤ x ∧ x ≤ 255
  | 0, x, h => by cases h
  | n + 1, x, h => by
    simp only [wb, List.mem_cons] at h
    rcases h with rfl | h
    · omega
    · exact wb_range v n x h
theorem wb_snoc (v : Int) (hv : 0 ≤ v) : ∀ n, wb v (n + 1) = wb (v / 256) n ++ [v % 256]
  | 0 => by simp [wb]
  | n + 1 => by
    show v / 256 ^ (n + 1) % 256 :: wb v (n + 1) = (v / 256 / 256 ^ n % 256 :: wb (v / 256) n) ++ [v % 256]
    rw [wb_snoc v hv n, List.cons_append, Int.pow_succ, Int.mul_comm, Int.ediv_ediv_of_nonneg (by decide)]
theorem strOf_app (a b : List Int) : Go.Aq.strOf (a ++ b) = Go.Aq.strOf a ++ Go.Aq.strOf b := by
  apply list_eq; rw [app_list]; simp [Go.Aq.strOf]
/-- A number's bytes. -/
def putT (v : Int) (n : Nat) : ByteArray := Go.Aq.strOf (wb v n)
theorem putT_size (v : Int) (n : Nat) : (putT v n).size = n := by unfold putT; rw [size_strOf, wb_length]
theorem wmay_S (k : Nat) (v : Int) (n : Nat) (hv : 0 ≤ v ∧ v < 18446744073709551616) (hn : 1 ≤ n ∧ n ≤ 8) : F_words_may.S k v (n : Int) = .ok (decide (v < 256 ^ n)) := by
  unfold F_words_may.S
  rw [O.cond_pos (by omega), O.cond_pos (by omega)]
  by_cases h8 : n = 8
  · subst h8
    rw [O.cond_pos (by omega), decide_eq_true (by rw [show (256 : Int) ^ 8 = 18446744073709551616 from rfl]; exact hv.2)]
  · rw [O.cond_neg (by omega), i64_in _ (by omega), O.chk_dec (by omega)]
    congr 1
    apply decide_eq_decide.2
    have e : shR .u64 v (8 * (n : Int)) = v / 256 ^ n := by
      have h := shR_eq .u64 v (8 * n) (by rw [bits64]; omega)
      rw [show (256 : Int) = 2 ^ 8 from rfl, ← Int.pow_mul]
      rw [← h]; push_cast; rfl
    rw [e]
    have hp : (0 : Int) < 256 ^ n := Int.pow_pos (by decide)
    constructor
    · intro h
      rcases Int.lt_or_le v (256 ^ n) with hl | hl
      · exact hl
      · have h1 : 1 ≤ v / 256 ^ n := by rw [Int.le_ediv_iff_mul_le hp]; omega
        omega
    · intro h; exact Int.ediv_eq_zero_of_lt hv.1 h
theorem Put_S (k : Nat) (hk : 9 ≤ k) (v : Int) (n : Nat) (hv : 0 ≤ v ∧ v < 18446744073709551616) (hn : 1 ≤ n ∧ n ≤ 8) (big : Bool) :
    F_words_Put.S k v (n : Int) big = .ok (if v < 256 ^ n then (if big then putT v n else revT (putT v n), 0) else (⟨#[]⟩, 1)) := by
  have lp : ∀ (m i j : Nat), i + m = n → m < j → F_words_Put.l0 k v (n : Int) big j (i : Int) (List.replicate m 0 ++ wb v i) = .ok (if big then putT v n else revT (putT v n), 0) := by
    intro m
    induction m with
    | zero =>
      intro i j hi hj
      obtain ⟨j, rfl⟩ : ∃ i, j = i + 1 := ⟨j - 1, by omega⟩
      obtain rfl : i = n := by omega
      show F_words_Put.l0_b k v _ _ _ _ _ = _
      unfold F_words_Put.l0_b
      rw [O.cond_neg (by omega)]
      show O.cond (!big) (O.bind (F_words_Turn.S k (putT v i)) _) (.ok (putT v i, 0)) = _
      cases big
      · show O.cond true _ _ = _
        rw [O.cond_true, Turn_S k _ (by rw [putT_size]; omega) (by rw [putT_size]; omega), O.bind_ok]; rfl
      · show O.cond false _ _ = _
        rw [O.cond_false]; rfl
    | succ m ih =>
      intro i j hi hj
      obtain ⟨j, rfl⟩ : ∃ i, j = i + 1 := ⟨j - 1, by omega⟩
      show F_words_Put.l0_b k v _ _ _ _ _ = _
      unfold F_words_Put.l0_b
      have e1 : IntKind.i64.wrap (IntKind.i64.wrap ((n : Int) - 1) - (i : Int)) = (m : Int) := by
        rw [i64_in ((n : Int) - 1) (by omega), i64_in _ (by omega)]; omega
      have hl : (List.replicate (m + 1) (0 : Int) ++ wb v i).length = n := by simp [wb_length]; omega
      have e2 : IntKind.u8.wrap (shR .u64 v (IntKind.i64.wrap (8 * (i : Int)))) = v / 256 ^ i % 256 := by
        have h := shR_eq .u64 v (8 * i) (by rw [bits64]; omega)
        rw [i64_in _ (by omega), show (8 * (i : Int)) = ((8 * i : Nat) : Int) from by push_cast; rfl, h, Int.pow_mul, show (2 : Int) ^ 8 = 256 from rfl]
        simp [IntKind.wrap, IntKind.bits, IntKind.signed]
      rw [O.cond_pos (by omega), O.chk_dec (by rw [i64_in _ (by omega)]; omega), e1, O.chk_dec (by rw [hl]; omega), O.chk_dec (by rw [hl]; omega), e2, i64_in _ (by omega)]
      have e3 : su (List.replicate (m + 1) (0 : Int) ++ wb v i) (m : Int) (v / 256 ^ i % 256) = List.replicate m 0 ++ wb v (i + 1) := by
        unfold su
        rw [Int.toNat_natCast, List.replicate_succ', List.append_assoc, List.set_append_right _ _ (by simp)]
        simp [wb]
      rw [e3]
      exact ih (i + 1) j (by omega) (by omega)
  unfold F_words_Put.S F_words_Put.top
  rw [wmay_S k v n hv hn, O.bind_ok]
  by_cases h : v < 256 ^ n
  · rw [decide_eq_true h, if_pos h]
    show O.cond false _ _ = _
    rw [O.cond_false, O.chk_dec (by omega), Int.toNat_natCast]
    have := lp n 0 k (by omega) (by omega)
    simpa [wb] using this
  · rw [decide_eq_false h, if_neg h]
    show O.cond true _ _ = _
    rw [O.cond_true]
end Go.Proofs.YtpfddjdkafjjfaaGreat
