/- Texts of this proof, joined (30 of them): DPW, DPE, DPP, DPEB, DPTG, DPFa, DP20a, DP20b, DP20c, DP20d, DP20e, DP20f, DP20g, DP20h, DP20i, DP20j, DP20k, DP20m, DP20n, DP20o, DPKD, DPU, DP20p, DPFb, DPFm, DPFn, DPFe, DPFo, DP20s, DPureBridgeDoes.
   Conditions: none but those that stand at each theorem. -/
import Derived.Test.YtkihcmcaignmkaaGreatDM6
import Derived.Test.YtkihcmcaignmkaaGreatE5
import Derived.Test.YtkihcmcaignmkaaGreatDM2
import Derived.Test.YtkihcmcaignmkaaGreatDM4
section
namespace Go.Proofs.YtkihcmcaignmkaaGreat
open Go.Aq Go.IntWalk
set_option linter.unusedVariables false
theorem Get_S (k : Nat) (hk : 9 ≤ k) (s : ByteArray) (hs : s.size ≤ 140737488351232) (i n : Nat) (hn : 1 ≤ n ∧ n ≤ 8) (hi : i ≤ 140737488351232) : F_words_Get.S k s (i : Int) (n : Int) true = .ok (if i + n ≤ s.size then (be s i n, 0) else (0, 10)) := by
 have lp : i + n ≤ s.size → ∀ (m o j : Nat), o + m = n → m < j → F_words_Get.l1 k s (i : Int) (n : Int) j (be s i o) (o : Int) = .ok (be s i n, 0) := by
  intro hin m
  induction m with
  | zero =>
   intro o j ho hj
   obtain ⟨j, rfl⟩ : ∃ i, j = i + 1 := ⟨j - 1, by omega⟩
   obtain rfl : o = n := by omega
   show F_words_Get.l1_b k s _ _ _ _ _ = _
   unfold F_words_Get.l1_b
   rw [O.cond_neg (by omega)]
  | succ m ih =>
   intro o j ho hj
   obtain ⟨j, rfl⟩ : ∃ i, j = i + 1 := ⟨j - 1, by omega⟩
   show F_words_Get.l1_b k s _ _ _ _ _ = _
   unfold F_words_Get.l1_b
   have e : (IntKind.i64.wrap ((i : Int) + (n : Int))).toNat = i + n := by rw [i64_in _ (by omega)]; omega
   have hb := be_lo s i o
   have hp : (256 : Int) ^ o ≤ 2 ^ 56 := by
    rw [show (256 : Int) = 2 ^ 8 from rfl, ← Int.pow_mul]
    exact_mod_cast Nat.pow_le_pow_right (by decide) (by omega : 8 * o ≤ 56)
   have sz : (s.extract i (i + n)).size = n := by rw [ext_size]; omega
   have b1 := bt_lo s ((i + o : Nat) : Int)
   have b2 := bt_hi s ((i + o : Nat) : Int)
   rw [Int.toNat_natCast, e, sz, bt_ext s i (i + n) o (by omega), O.cond_pos (by omega), O.chk_dec (by omega), step_u64 _ _ ⟨hb.1, by omega⟩ ⟨b1, b2⟩, i64_in _ (by omega)]
   exact ih (o + 1) j (by omega) (by omega)
 unfold F_words_Get.S F_words_Get.top
 rw [O.cond_neg (by omega), O.cond_neg (by omega), O.cond_neg (by omega), i64_in ((s.size : Int) - _) (by omega), i64_in _ (by omega)]
 by_cases h : i + n ≤ s.size
 ·rw [O.cond_neg (by omega), O.chk_dec (by omega), if_pos h]
  show O.cond false _ _ = _
  rw [O.cond_false]
  exact lp h n 0 k (by omega) (by omega)
 ·rw [O.cond_pos (by omega), if_neg h]
end Go.Proofs.YtkihcmcaignmkaaGreat
end
section
namespace Go.Proofs.YtkihcmcaignmkaaGreat
open Go.Aq Go.IntWalk
set_option linter.unusedVariables false
theorem Get_take (k : Nat) (hk : 9 ≤ k) (s : ByteArray) (hs : s.size ≤ 140737488351232) (i : Nat) (hi : i + 2 ≤ s.size) : F_words_Get.S k ((s.extract i s.size).extract 0 2) (0 : Int) (2 : Int) true = .ok (be s i 2, 0) := by
 have sz : ((s.extract i s.size).extract 0 2).size = 2 := by rw [ext_size, ext_size]; omega
 have h := Get_S k hk ((s.extract i s.size).extract 0 2) (by omega) 0 2 (by omega) (by omega)
 rw [if_pos (by omega), be_ext _ 0 2 0 2 (by omega), be_ext _ i s.size (0 + 0) 2 (by omega)] at h
 exact h
theorem ext_rsize (s : ByteArray) (i : Nat) : (s.extract i s.size).size = s.size - i := by rw [ext_size]; omega
theorem ext_rest' (s : ByteArray) (i j : Nat) : (s.extract i s.size).extract j (s.size - i) = s.extract (i + j) s.size := by
 rw [ext_ext]; congr 1; omega
theorem ext_part (s : ByteArray) (i n : Nat) (h : i + n ≤ s.size) : (s.extract i s.size).extract 0 n = s.extract i (i + n) := by
 rw [ext_ext]; congr 1; omega
theorem and4096 (v : Int) (h : 0 ≤ v ∧ v ≤ 65535) : bAnd .i64 (IntKind.i64.wrap v) 4096 = v / 4096 % 2 * 4096 := by
 rw [i64_in v (by omega)]; exact bAnd_bit v 12 h.1 (by omega) (by decide)
theorem and4095 (v : Int) (h : 0 ≤ v ∧ v ≤ 65535) : bAnd .i64 (IntKind.i64.wrap v) 4095 = v % 4096 := by
 rw [i64_in v (by omega)]; exact bAnd_low v 12 h.1 (by omega) (by decide)
theorem shr13 (v : Int) (h : 0 ≤ v ∧ v ≤ 65535) : shR .i64 (IntKind.i64.wrap v) 13 = v / 8192 := by
 rw [i64_in v (by omega)]; exact shR_eq .i64 v 13 (by decide)
def mayP (n : Int) : Prop := 1536 ≤ n ∧ n ≤ 65535 ∧ n ≠ 33024
instance (n : Int) : Decidable (mayP n) := inferInstanceAs (Decidable (_ ∧ _ ∧ _))
theorem may_S (k : Nat) (n : Int) : F_eth_may.S k n = .ok (decide (mayP n)) := by
 unfold F_eth_may.S
 rw [O.cond_dec, O.cond_dec]
 split
 ·split
  ·congr 1; apply decide_eq_decide.2; unfold mayP; omega
  ·exact congrArg O.ok (decide_eq_false (by unfold mayP; omega)).symm
 ·exact congrArg O.ok (decide_eq_false (by unfold mayP; omega)).symm
theorem rkind_S (k : Nat) (n : Int) : F_aqueductref06_kind.S k n = .ok (decide (mayP n)) := by
 unfold F_aqueductref06_kind.S
 rw [O.cond_dec, O.cond_dec]
 split
 ·split
  ·congr 1; apply decide_eq_decide.2; unfold mayP; omega
  ·exact congrArg O.ok (decide_eq_false (by unfold mayP; omega)).symm
 ·exact congrArg O.ok (decide_eq_false (by unfold mayP; omega)).symm
def ethP (s : ByteArray) : (ByteArray × ByteArray × Int × Int × Int × ByteArray) × Int :=
 if s.size > 1518 then ((ByteArray.empty, ByteArray.empty, 0, 0, 0, ByteArray.empty), 61)
 else if s.size < 14 then ((ByteArray.empty, ByteArray.empty, 0, 0, 0, ByteArray.empty), 60)
 else if be s 12 2 = 33024 then
  if s.size < 18 then ((ByteArray.empty, ByteArray.empty, 0, 0, 0, ByteArray.empty), 60)
  else if be s 14 2 / 4096 % 2 = 1 ∨ be s 14 2 % 4096 = 4095 ∨ ¬ mayP (be s 16 2) then ((ByteArray.empty, ByteArray.empty, 0, 0, 0, ByteArray.empty), 61)
  else ((s.extract 0 6, s.extract 6 12, be s 14 2 % 4096, be s 14 2 / 8192, be s 16 2, s.extract 18 s.size), 0)
 else if ¬ mayP (be s 12 2) then ((ByteArray.empty, ByteArray.empty, 0, 0, 0, ByteArray.empty), 61)
 else ((s.extract 0 6, s.extract 6 12, -1, 0, be s 12 2, s.extract 14 s.size), 0)
theorem ethParse_S (k : Nat) (hk : 9 ≤ k) (s : ByteArray) : F_eth_Parse.S k s = .ok (ethP s) := by
 apply O.sat_val
 unfold F_eth_Parse.S
 simp only [ext_rsize, ext_rest', Nat.reduceAdd, may_S]
 have b1 := be2_lo s 12
 have b2 := be2_lo s 14
 have b3 := be2_lo s 16
 refine O.sat_cond (fun h => O.sat_ok (by unfold ethP; rw [if_pos (by omega)])) fun h1 => ?_
 refine O.sat_cond (fun h => O.sat_ok (by unfold ethP; rw [if_neg (by omega), if_pos (by omega)])) fun h2 => ?_
 refine O.sat_chk (by omega) (O.sat_chk (by omega) ?_)
 refine O.sat_cond (fun h => O.sat_ok (by unfold ethP; rw [if_neg (by omega), if_pos (by omega)])) fun h3 => ?_
 refine O.sat_chk (by omega) (O.sat_chk (by omega) ?_)
 refine O.sat_cond (fun h => O.sat_ok (by unfold ethP; rw [if_neg (by omega), if_pos (by omega)])) fun h4 => ?_
 refine O.sat_chk (by omega) (O.sat_chk (by omega) ?_)
 refine O.sat_eq (Get_take k hk s (by omega) 12 (by omega)) ?_
 simp only [i64_in (be s 12 2) (by omega)]
 refine O.sat_cond (fun h5 => ?_) fun h5 => ?_
 ·refine O.sat_cond (fun h => O.sat_ok (by unfold ethP; rw [if_neg (by omega), if_neg (by omega), if_pos (by omega), if_pos (by omega)])) fun h6 => ?_
  refine O.sat_chk (by omega) (O.sat_chk (by omega) ?_)
  refine O.sat_eq (Get_take k hk s (by omega) 14 (by omega)) ?_
  refine O.sat_cond (fun h => O.sat_ok (by unfold ethP; rw [if_neg (by omega), if_neg (by omega), if_pos (by omega), if_pos (by omega)])) fun h7 => ?_
  refine O.sat_chk (by omega) (O.sat_chk (by omega) ?_)
  refine O.sat_eq (Get_take k hk s (by omega) 16 (by omega)) ?_
  simp only [i64_in (be s 16 2) (by omega), and4096 _ b2, and4095 _ b2, shr13 _ b2]
  refine O.sat_cond (fun h => O.sat_ok (by unfold ethP; rw [if_neg (by omega), if_neg (by omega), if_pos (by omega), if_neg (by omega), if_pos (by omega)])) fun h8 => ?_
  refine O.sat_cond (fun h => O.sat_ok (by unfold ethP; rw [if_neg (by omega), if_neg (by omega), if_pos (by omega), if_neg (by omega), if_pos (by omega)])) fun h9 => ?_
  rw [O.bind_ok]
  refine O.sat_condn (fun h => O.sat_ok (by unfold ethP; rw [if_neg (by omega), if_neg (by omega), if_pos (by omega), if_neg (by omega), if_pos (by exact .inr (.inr h))])) fun h10 => ?_
  refine O.sat_ok ?_
  unfold ethP
  rw [if_neg (by omega), if_neg (by omega), if_pos (by omega), if_neg (by omega), if_neg (by intro hh; rcases hh with h | h | h <;> first | omega | exact h h10), ext_part s 6 6 (by omega)]
 ·rw [O.cond_false, O.bind_ok]
  refine O.sat_condn (fun h => O.sat_ok (by unfold ethP; rw [if_neg (by omega), if_neg (by omega), if_neg (by omega), if_pos h])) fun h10 => ?_
  refine O.sat_ok ?_
  unfold ethP
  rw [if_neg (by omega), if_neg (by omega), if_neg (by omega), if_neg (by exact fun h => h h10), ext_part s 6 6 (by omega)]
theorem rnum6_S (k : Nat) (s : ByteArray) (hs : s.size ≤ 140737488351232) (i : Nat) (hi : i + 2 ≤ s.size) : F_aqueductref06_num.S k s (i : Int) = .ok (be s i 2) := by
 unfold F_aqueductref06_num.S
 have a1 := bt_lo s (i : Int); have a2 := bt_hi s (i : Int); have a3 := bt_lo s ((i + 1 : Nat) : Int); have a4 := bt_hi s ((i + 1 : Nat) : Int)
 have e : IntKind.i64.wrap ((i : Int) + 1) = ((i + 1 : Nat) : Int) := by rw [i64_in _ (by omega)]; push_cast; rfl
 rw [e, O.chk_dec (by omega), O.chk_dec (by omega), i64_in (bt s (i : Int)) (by omega), i64_in (bt s ((i + 1 : Nat) : Int)) (by omega), i64_in (256 * _) (by omega), i64_in _ (by omega), be2]
 congr 1; omega
theorem rethParse_S (k : Nat) (s : ByteArray) : F_aqueductref06_Parse.S k s = .ok (ethP s) := by
 apply O.sat_val
 unfold F_aqueductref06_Parse.S
 have b1 := be2_lo s 12
 have b2 := be2_lo s 14
 have b3 := be2_lo s 16
 refine O.sat_cond (fun h => O.sat_ok (by unfold ethP; rw [if_pos (by omega)])) fun h1 => ?_
 refine O.sat_cond (fun h => O.sat_ok (by unfold ethP; rw [if_neg (by omega), if_pos (by omega)])) fun h2 => ?_
 refine O.sat_chk (by omega) (O.sat_chk (by omega) (O.sat_chk (by omega) (O.sat_twice ?_)))
 refine O.sat_eq (rnum6_S k s (by omega) 12 (by omega)) ?_
 refine O.sat_cond (fun h5 => ?_) fun h5 => ?_
 ·refine O.sat_cond (fun h => O.sat_ok (by unfold ethP; rw [if_neg (by omega), if_neg (by omega), if_pos (by omega), if_pos (by omega)])) fun h6 => ?_
  refine O.sat_eq (rnum6_S k s (by omega) 14 (by omega)) ?_
  refine O.sat_chk (by omega) (O.sat_chk (by omega) (O.sat_chk (by omega) ?_))
  refine O.sat_eq (rnum6_S k s (by omega) 16 (by omega)) ?_
  simp only [rem_in _ _ b2.1, quo_in _ _ b2.1]
  rw [i64_in (be s 14 2 / 4096) (by omega), i64_in (be s 14 2 / 8192) (by omega), rem_in (be s 14 2 / 4096) _ (by omega)]
  refine O.sat_cond (fun h => O.sat_ok (by unfold ethP; rw [if_neg (by omega), if_neg (by omega), if_pos (by omega), if_neg (by omega), if_pos (by omega)])) fun h8 => ?_
  refine O.sat_cond (fun h => O.sat_ok (by unfold ethP; rw [if_neg (by omega), if_neg (by omega), if_pos (by omega), if_neg (by omega), if_pos (by omega)])) fun h9 => ?_
  refine O.sat_eq (rkind_S k _) ?_
  refine O.sat_condn (fun h => O.sat_ok (by unfold ethP; rw [if_neg (by omega), if_neg (by omega), if_pos (by omega), if_neg (by omega), if_pos (by exact .inr (.inr h))])) fun h10 => ?_
  refine O.sat_ok ?_
  unfold ethP
  rw [if_neg (by omega), if_neg (by omega), if_pos (by omega), if_neg (by omega), if_neg (by intro hh; rcases hh with h | h | h <;> first | omega | exact h h10)]
 ·refine O.sat_eq (rkind_S k _) ?_
  refine O.sat_condn (fun h => O.sat_ok (by unfold ethP; rw [if_neg (by omega), if_neg (by omega), if_neg (by omega), if_pos h])) fun h10 => ?_
  refine O.sat_ok ?_
  unfold ethP
  rw [if_neg (by omega), if_neg (by omega), if_neg (by omega), if_neg (by exact fun h => h h10)]
end Go.Proofs.YtkihcmcaignmkaaGreat
end
section
namespace Go.Proofs.YtkihcmcaignmkaaGreat
open Go.Aq Go.IntWalk
set_option linter.unusedVariables false
def bl (s : ByteArray) (e : Nat) : Nat → Int
 | 0 => 0
 | o + 1 => bl s e o * 256 + bt s ((e - 1 - o : Nat) : Int)
def revT (s : ByteArray) : ByteArray := ⟨s.data.toList.reverse.toArray⟩
theorem Turn_S (k : Nat) (s : ByteArray) (hs : s.size ≤ 1073741824) (hk : s.size + 1 ≤ k) : F_words_Turn.S k s = .ok (revT s) := by
 have lp : ∀ (m i j : Nat), i + m = s.size → m < j → ∀ L : List Int, L.length = s.size → L.drop (s.size - i) = ((s.data.toList.take i).reverse.map fun c => (c.toNat : Int)) →
   F_words_Turn.l0 k s j (i : Int) L = .ok (revT s) := by
  intro m
  induction m with
  | zero =>
   intro i j hi hj L hl hd
   obtain ⟨j, rfl⟩ : ∃ i, j = i + 1 := ⟨j - 1, by omega⟩
   show F_words_Turn.l0_b k s _ _ _ = _
   unfold F_words_Turn.l0_b
   rw [O.cond_neg (by omega)]
   congr 1
   rw [show s.size - i = 0 from by omega, List.drop_zero, List.take_of_length_le (by rw [← size_list]; omega)] at hd
   rw [hd]
   apply list_eq
   show (List.map _ (List.map _ _)) = _
   rw [List.map_map]
   show _ = s.data.toList.reverse
   conv => rhs; rw [← List.map_id s.data.toList.reverse]
   apply List.map_congr_left
   intro c _
   show UInt8.ofNat ((c.toNat : Int)).toNat = c
   simp
  | succ m ih =>
   intro i j hi hj L hl hd
   obtain ⟨j, rfl⟩ : ∃ i, j = i + 1 := ⟨j - 1, by omega⟩
   show F_words_Turn.l0_b k s _ _ _ = _
   unfold F_words_Turn.l0_b
   have e1 : IntKind.i64.wrap (IntKind.i64.wrap ((s.size : Int) - 1) - (i : Int)) = ((s.size - 1 - i : Nat) : Int) := by
    rw [i64_in ((s.size : Int) - 1) (by omega), i64_in _ (by omega)]; omega
   rw [O.cond_pos (by omega), O.chk_dec (by omega), e1, O.chk_dec (by omega), O.chk_dec (by omega), i64_in _ (by omega)]
   refine ih (i + 1) j (by omega) (by omega) _ (by simp [su, hl]) ?_
   have hi' : i < s.data.toList.length := by rw [← size_list]; omega
   unfold su
   rw [Int.toNat_natCast, show s.size - (i + 1) = s.size - 1 - i from by omega, List.drop_eq_getElem_cons (by simp [hl]; omega), List.getElem_set_self, List.drop_set_of_lt (by omega), show s.size - 1 - i + 1 = s.size - i from by omega, hd]
   rw [List.take_succ_eq_append_getElem hi', List.reverse_append, bt_at s i hi']
   rfl
 unfold F_words_Turn.S F_words_Turn.top
 rw [O.chk_dec (by omega), Int.toNat_natCast]
 exact lp s.size 0 k (by omega) (by omega) _ (by simp) (by rw [Nat.sub_zero, List.drop_of_length_le (by simp)]; rfl)
def wb (v : Int) : Nat → List Int
 | 0 => []
 | n + 1 => v / 256 ^ n % 256 :: wb v n
theorem wb_length (v : Int) : ∀ n, (wb v n).length = n
 | 0 => rfl
 | n + 1 => by simp [wb, wb_length v n]
theorem strOf_app (a b : List Int) : strOf (a ++ b) = strOf a ++ strOf b := by
 apply list_eq; rw [app_list]; simp [strOf]
def putT (v : Int) (n : Nat) : ByteArray := strOf (wb v n)
theorem putT_size (v : Int) (n : Nat) : (putT v n).size = n := by unfold putT; rw [size_strOf, wb_length]
theorem wmay_S (k : Nat) (v : Int) (n : Nat) (hv : 0 ≤ v ∧ v < 18446744073709551616) (hn : 1 ≤ n ∧ n ≤ 8) : F_words_may.S k v (n : Int) = .ok (decide (v < 256 ^ n)) := by
 unfold F_words_may.S
 rw [O.cond_pos (by omega), O.cond_pos (by omega)]
 by_cases h8 : n = 8
 ·subst h8
  rw [O.cond_pos (by omega), decide_eq_true (by rw [show (256 : Int) ^ 8 = 18446744073709551616 from rfl]; exact hv.2)]
 ·rw [O.cond_neg (by omega), i64_in _ (by omega), O.chk_dec (by omega)]
  congr 1
  apply decide_eq_decide.2
  have e : shR .u64 v (8 * (n : Int)) = v / 256 ^ n := by
   have h := shR_eq .u64 v (8 * n) (by rw [bits64]; omega)
   rw [show (256 : Int) = 2 ^ 8 from rfl, ← Int.pow_mul]
   rw [← h]; push_cast; rfl
  rw [e]
  have hp : (0 : Int) < 256 ^ n := Int.pow_pos (by decide)
  constructor
  ·intro h
   rcases Int.lt_or_le v (256 ^ n) with hl | hl
   ·exact hl
   ·have h1 : 1 ≤ v / 256 ^ n := by rw [Int.le_ediv_iff_mul_le hp]; omega
    omega
  ·intro h; exact Int.ediv_eq_zero_of_lt hv.1 h
theorem Put_S (k : Nat) (hk : 9 ≤ k) (v : Int) (n : Nat) (hv : 0 ≤ v ∧ v < 18446744073709551616) (hn : 1 ≤ n ∧ n ≤ 8) (big : Bool) :
  F_words_Put.S k v (n : Int) big = .ok (if v < 256 ^ n then (if big then putT v n else revT (putT v n), 0) else (⟨#[]⟩, 1)) := by
 have lp : ∀ (m i j : Nat), i + m = n → m < j → F_words_Put.l0 k v (n : Int) big j (i : Int) (List.replicate m 0 ++ wb v i) = .ok (if big then putT v n else revT (putT v n), 0) := by
  intro m
  induction m with
  | zero =>
   intro i j hi hj
   obtain ⟨j, rfl⟩ : ∃ i, j = i + 1 := ⟨j - 1, by omega⟩
   obtain rfl : i = n := by omega
   show F_words_Put.l0_b k v _ _ _ _ _ = _
   unfold F_words_Put.l0_b
   rw [O.cond_neg (by omega)]
   show O.cond (!big) (O.bind (F_words_Turn.S k (putT v i)) _) (.ok (putT v i, 0)) = _
   cases big
   ·show O.cond true _ _ = _
    rw [O.cond_true, Turn_S k _ (by rw [putT_size]; omega) (by rw [putT_size]; omega), O.bind_ok]; rfl
   ·show O.cond false _ _ = _
    rw [O.cond_false]; rfl
  | succ m ih =>
   intro i j hi hj
   obtain ⟨j, rfl⟩ : ∃ i, j = i + 1 := ⟨j - 1, by omega⟩
   show F_words_Put.l0_b k v _ _ _ _ _ = _
   unfold F_words_Put.l0_b
   have e1 : IntKind.i64.wrap (IntKind.i64.wrap ((n : Int) - 1) - (i : Int)) = (m : Int) := by
    rw [i64_in ((n : Int) - 1) (by omega), i64_in _ (by omega)]; omega
   have hl : (List.replicate (m + 1) (0 : Int) ++ wb v i).length = n := by simp [wb_length]; omega
   have e2 : IntKind.u8.wrap (shR .u64 v (IntKind.i64.wrap (8 * (i : Int)))) = v / 256 ^ i % 256 := by
    have h := shR_eq .u64 v (8 * i) (by rw [bits64]; omega)
    rw [i64_in _ (by omega), show (8 * (i : Int)) = ((8 * i : Nat) : Int) from by push_cast; rfl, h, Int.pow_mul, show (2 : Int) ^ 8 = 256 from rfl]
    simp [IntKind.wrap, IntKind.bits, IntKind.signed]
   rw [O.cond_pos (by omega), O.chk_dec (by rw [i64_in _ (by omega)]; omega), e1, O.chk_dec (by rw [hl]; omega), O.chk_dec (by rw [hl]; omega), e2, i64_in _ (by omega)]
   have e3 : su (List.replicate (m + 1) (0 : Int) ++ wb v i) (m : Int) (v / 256 ^ i % 256) = List.replicate m 0 ++ wb v (i + 1) := by
    unfold su
    rw [Int.toNat_natCast, List.replicate_succ', List.append_assoc, List.set_append_right _ _ (by simp)]
    simp [wb]
   rw [e3]
   exact ih (i + 1) j (by omega) (by omega)
 unfold F_words_Put.S F_words_Put.top
 rw [wmay_S k v n hv hn, O.bind_ok]
 by_cases h : v < 256 ^ n
 ·rw [decide_eq_true h, if_pos h]
  show O.cond false _ _ = _
  rw [O.cond_false, O.chk_dec (by omega), Int.toNat_natCast]
  have := lp n 0 k (by omega) (by omega)
  simpa [wb] using this
 ·rw [decide_eq_false h, if_neg h]
  show O.cond true _ _ = _
  rw [O.cond_true]
end Go.Proofs.YtkihcmcaignmkaaGreat
end
section
namespace Go.Proofs.YtkihcmcaignmkaaGreat
open Go.Aq Go.IntWalk
set_option linter.unusedVariables false
abbrev EthT := ByteArray × ByteArray × Int × Int × Int × ByteArray
def ethOk (f : EthT) : Prop := f.1.size = 6 ∧ f.2.1.size = 6 ∧ -1 ≤ f.2.2.1 ∧ f.2.2.1 ≤ 4094 ∧ 0 ≤ f.2.2.2.1 ∧ f.2.2.2.1 ≤ 7 ∧ (f.2.2.1 = -1 → f.2.2.2.1 = 0) ∧ mayP f.2.2.2.2.1
instance (f : EthT) : Decidable (ethOk f) := inferInstanceAs (Decidable (_ ∧ _))
def tagT (f : EthT) : ByteArray := putT 33024 2 ++ putT (f.2.2.2.1 * 8192 + f.2.2.1) 2
def ethHd (f : EthT) : ByteArray := if f.2.2.1 = -1 then f.1 ++ f.2.1 ++ putT f.2.2.2.2.1 2 else f.1 ++ f.2.1 ++ tagT f ++ putT f.2.2.2.2.1 2
def ethB (f : EthT) : ByteArray × Int := if ethOk f ∧ (ethHd f).size + f.2.2.2.2.2.size ≤ 1518 then (ethHd f ++ f.2.2.2.2.2, 0) else (⟨#[]⟩, 61)
theorem tagT_size (f : EthT) : (tagT f).size = 4 := by unfold tagT; rw [app_size, putT_size, putT_size]
theorem ethHd_size (f : EthT) (h : ethOk f) : (ethHd f).size = if f.2.2.1 = -1 then 14 else 18 := by
 obtain ⟨h1, h2, _⟩ := h
 unfold ethHd
 split
 ·rw [app_size, app_size, h1, h2, putT_size]
 ·rw [app_size, app_size, app_size, h1, h2, tagT_size, putT_size]
theorem two_S (k : Nat) (hk : 9 ≤ k) (v : Int) (hv : 0 ≤ v ∧ v ≤ 65535) : F_eth_two.S k v = .ok (putT v 2) := by
 unfold F_eth_two.S
 have := Put_S k hk v 2 (by omega) (by decide) true
 rw [if_pos (by rw [show (256 : Int) ^ 2 = 65536 from rfl]; omega)] at this
 rw [u64_in v (by omega)]
 show O.bind (F_words_Put.S k v ((2 : Nat) : Int) true) _ = _
 rw [this, O.bind_ok]; rfl
theorem tag_word (p v : Int) (hp : 0 ≤ p ∧ p ≤ 7) (hv : 0 ≤ v ∧ v ≤ 4094) : bOr .i64 (shL .i64 p 13) v = p * 8192 + v := by
 have s : shL .i64 p 13 = IntKind.i64.wrap (p * 2 ^ 13) := shL_eq .i64 p 13 (by decide)
 have j := bOr_join .i64 p v 13 hp.1 hv.1 (by rw [show (2 : Int) ^ 13 = 8192 from rfl]; omega) (by rw [show (2 : Int) ^ 13 = 8192 from rfl, show (2 : Int) ^ IntKind.i64.bits = 18446744073709551616 from rfl]; omega) (by decide)
 rw [show (2 : Int) ^ 13 = 8192 from rfl] at s j
 rw [s, i64_in (p * 8192) (by omega), j, i64_in _ (by omega)]
theorem ethBuild_S (k : Nat) (hk : 9 ≤ k) (f : EthT) : F_eth_Build.S k f = .ok (ethB f) := by
 apply O.sat_val
 unfold F_eth_Build.S F_eth_Build.top
 have bad : ¬ ethOk f → O.sat (.ok ((⟨#[]⟩ : ByteArray), (61 : Int))) fun r => r = ethB f := fun h => O.sat_ok (by unfold ethB; rw [if_neg (fun c => h c.1)])
 refine O.sat_cond (fun h => bad (fun c => by unfold ethOk at c; omega)) fun h1 => ?_
 refine O.sat_cond (fun h => bad (fun c => by unfold ethOk at c; omega)) fun h2 => ?_
 refine O.sat_cond (fun h => bad (fun c => by unfold ethOk at c; omega)) fun h3 => ?_
 refine O.sat_cond (fun h => bad (fun c => by unfold ethOk at c; omega)) fun h4 => ?_
 refine O.sat_cond (fun h => bad (fun c => by unfold ethOk at c; omega)) fun h5 => ?_
 refine O.sat_cond (fun h => bad (fun c => by unfold ethOk at c; omega)) fun h6 => ?_
 have tail : ethOk f → O.sat (F_eth_Build.j1 k f) fun r => r = ethB f := by
  intro ok
  have sz := ethHd_size f ok
  have my' := ok.2.2.2.2.2.2.2
  unfold mayP at my'
  have ee : ethB f = if (ethHd f).size + f.2.2.2.2.2.size ≤ 1518 then (ethHd f ++ f.2.2.2.2.2, 0) else (⟨#[]⟩, 61) := by
   unfold ethB
   by_cases c : (ethHd f).size + f.2.2.2.2.2.size ≤ 1518
   ·rw [if_pos c, if_pos ⟨ok, c⟩]
   ·rw [if_neg c, if_neg (fun d => c d.2)]
  unfold F_eth_Build.j1 F_eth_Build.j1_b
  refine O.sat_chk (by omega) ?_
  refine O.sat_cond (fun h7 => ?_) fun h7 => ?_
  ·have eh : ethHd f = f.1 ++ f.2.1 ++ tagT f ++ putT f.2.2.2.2.1 2 := by unfold ethHd; rw [if_neg h7]
   rw [if_neg h7] at sz
   refine O.sat_eq (two_S k hk 33024 (by decide)) ?_
   rw [tag_word _ _ (by omega) (by omega)]
   refine O.sat_eq (two_S k hk _ (by omega)) ?_
   refine O.sat_chk (by rw [putT_size, putT_size]; omega) ?_
   refine O.sat_chk (by rw [app_size, app_size, putT_size, putT_size]; omega) ?_
   refine O.sat_eq (two_S k hk _ (by omega)) ?_
   show O.sat (O.chk (decide ((((f.1 ++ f.2.1 ++ tagT f).size + (putT f.2.2.2.2.1 2).size : Nat) : Int) ≤ 9223372036854775807)) (O.cond (decide ((f.2.2.2.2.2.size : Int) > IntKind.i64.wrap (1518 - ((f.1 ++ f.2.1 ++ tagT f ++ putT f.2.2.2.2.1 2).size : Int)))) _ (O.chk (decide ((((f.1 ++ f.2.1 ++ tagT f ++ putT f.2.2.2.2.1 2).size + f.2.2.2.2.2.size : Nat) : Int) ≤ 9223372036854775807)) (.ok (f.1 ++ f.2.1 ++ tagT f ++ putT f.2.2.2.2.1 2 ++ f.2.2.2.2.2, 0))))) _
   rw [← eh, ee]
   refine O.sat_chk (by rw [← app_size, ← eh]; omega) ?_
   rw [i64_in (1518 - _) (by omega)]
   refine O.sat_cond (fun h => O.sat_ok (by rw [if_neg (by omega)])) fun h => O.sat_chk (by omega) (O.sat_ok (by rw [if_pos (by omega)]))
  ·have h7 := Decidable.not_not.1 h7
   have eh : ethHd f = f.1 ++ f.2.1 ++ putT f.2.2.2.2.1 2 := by unfold ethHd; rw [if_pos h7]
   rw [if_pos h7] at sz
   refine O.sat_eq (two_S k hk _ (by omega)) ?_
   rw [← eh, ee]
   refine O.sat_chk (by rw [← app_size, ← eh]; omega) ?_
   rw [i64_in (1518 - _) (by omega)]
   refine O.sat_cond (fun h => O.sat_ok (by rw [if_neg (by omega)])) fun h => O.sat_chk (by omega) (O.sat_ok (by rw [if_pos (by omega)]))
 refine O.sat_cond (fun h7 => ?_) fun h7 => ?_
 ·refine O.sat_cond (fun h => bad (fun c => by unfold ethOk at c; omega)) fun h8 => ?_
  refine O.sat_eq (may_S k _) ?_
  refine O.sat_condn (fun h => bad (fun c => by unfold ethOk at c; exact h c.2.2.2.2.2.2.2)) fun h9 => tail ?_
  exact ⟨by omega, by omega, by omega, by omega, by omega, by omega, by omega, h9⟩
 ·refine O.sat_eq (may_S k _) ?_
  refine O.sat_condn (fun h => bad (fun c => by unfold ethOk at c; exact h c.2.2.2.2.2.2.2)) fun h9 => tail ?_
  exact ⟨by omega, by omega, by omega, by omega, by omega, by omega, by omega, h9⟩
end Go.Proofs.YtkihcmcaignmkaaGreat
end
section
namespace Go.Proofs.YtkihcmcaignmkaaGreat
open Go.Aq Go.IntWalk
set_option linter.unusedVariables false
def tagP (s : ByteArray) (v : Int) : ByteArray × Int :=
 if (ethP s).2 ≠ 0 then (⟨#[]⟩, (ethP s).2) else ethB ((ethP s).1.1, (ethP s).1.2.1, v, if v = -1 then 0 else (ethP s).1.2.2.2.1, (ethP s).1.2.2.2.2.1, (ethP s).1.2.2.2.2.2)
theorem ethTag_S (k : Nat) (hk : 9 ≤ k) (s : ByteArray) (v : Int) : F_eth_Tag.S k s v = .ok (tagP s v) := by
 unfold F_eth_Tag.S tagP
 rw [ethParse_S k hk s, O.bind_ok, O.cond_dec, O.cond_dec]
 by_cases h : (ethP s).2 ≠ 0
 ·rw [if_pos h, if_pos h]
 ·rw [if_neg h, if_neg h]
  by_cases c : v = -1
  ·rw [if_pos c, if_pos c, ethBuild_S k hk, O.bind_ok]
  ·rw [if_neg c, if_neg c, ethBuild_S k hk, O.bind_ok]
end Go.Proofs.YtkihcmcaignmkaaGreat
end
section
namespace Go.Proofs.YtkihcmcaignmkaaGreat
open Go.Aq Go.IntWalk
set_option linter.unusedVariables false
def ownB (n : Int) : ByteArray := (⟨#[2, 0, 0, 0, 0]⟩ : ByteArray) ++ strOf [IntKind.u8.wrap n]
theorem own_list (n : Int) : (ownB n).data.toList = [2, 0, 0, 0, 0, UInt8.ofNat (IntKind.u8.wrap n).toNat] := by
 unfold ownB
 rw [ByteArray.data_append]
 simp [strOf]
theorem own_size (n : Int) : (ownB n).size = 6 := by
 show (ownB n).data.size = 6
 rw [← Array.length_toList, own_list]; rfl
theorem own_S (k : Nat) (n : Int) : F_aqueductlaw20_own.S k n = .ok (ownB n) := by
 unfold F_aqueductlaw20_own.S
 rw [O.chk_dec]
 ·rfl
 ·show ((5 + 1 : Nat) : Int) ≤ _
  decide
def kindB (m : ByteArray) : Int := if m.size ≠ 6 then 0 else if m = (⟨#[255, 255, 255, 255, 255, 255]⟩ : ByteArray) then 3 else if bAnd .u8 (bt m (0 : Int)) (1 : Int) = (1 : Int) then 2 else 1
theorem Kind_S (k : Nat) (m : ByteArray) : F_addr_Kind.S k m = .ok (kindB m) := by
 unfold F_addr_Kind.S kindB
 by_cases h : m.size = 6
 ·rw [O.cond_neg (by omega), if_neg (by omega), O.cond_dec]
  split
  ·rfl
  ·rw [O.chk_dec (by omega), O.cond_dec]
   split <;> rfl
 ·rw [O.cond_pos (by omega), if_pos h]
section
variable {K V : Type} [DecidableEq K]
theorem mhas_iff {es : List (K × V)} {k : K} : mhas es k = true ↔ k ∈ es.map (·.1) := by
 unfold mhas
 rw [List.any_eq_true, List.mem_map]
 constructor
 ·rintro ⟨e, he, h⟩; exact ⟨e, he, by simpa using h⟩
 ·rintro ⟨e, he, h⟩; exact ⟨e, he, by simpa using h⟩
theorem mhas_not {es : List (K × V)} {k : K} : mhas es k = false ↔ k ∉ es.map (·.1) := by
 rw [← mhas_iff, Bool.not_eq_true]
theorem mput_keys : ∀ {es : List (K × V)} {k : K} (v : V), mhas es k = true → (mput es k v).map (·.1) = es.map (·.1)
 | [], k, v, h => by simp [mhas] at h
 | e :: es, k, v, h => by
  unfold mput
  by_cases he : e.1 = k
  ·rw [if_pos he]; simp [he]
  ·rw [if_neg he, List.map_cons, mput_keys v]
   ·rfl
   ·simpa [mhas, he] using h
theorem mput_new : ∀ {es : List (K × V)} {k : K} (v : V), mhas es k = false → mput es k v = es ++ [(k, v)]
 | [], k, v, h => rfl
 | e :: es, k, v, h => by
  have he : ¬ e.1 = k := fun he => by simp [mhas, he] at h
  unfold mput
  rw [if_neg he, mput_new v (by simpa [mhas, he] using h)]
  rfl
theorem mput_len (es : List (K × V)) (k : K) (v : V) : (mput es k v).length = es.length + (if mhas es k = true then 0 else 1) := by
 cases h : mhas es k with
 | true =>
  have := congrArg List.length (mput_keys v h)
  simpa using this
 | false => rw [mput_new v h]; simp
theorem mput_mem : ∀ {es : List (K × V)} {k : K} {v : V} {e : K × V}, e ∈ mput es k v → e = (k, v) ∨ e ∈ es
 | [], k, v, e, h => by simp [mput] at h; exact .inl h
 | x :: es, k, v, e, h => by
  unfold mput at h
  split at h
  ·rcases List.mem_cons.1 h with h | h
   ·exact .inl h
   ·exact .inr (by simp [h])
  ·rcases List.mem_cons.1 h with h | h
   ·exact .inr (by simp [h])
   ·rcases mput_mem h with h | h
    ·exact .inl h
    ·exact .inr (by simp [h])
theorem mput_nodup {es : List (K × V)} {k : K} (v : V) (h : (es.map (·.1)).Nodup) : ((mput es k v).map (·.1)).Nodup := by
 cases hk : mhas es k with
 | true => rw [mput_keys v hk]; exact h
 | false =>
  rw [mput_new v hk, List.map_append, List.nodup_append]
  refine ⟨h, by simp, fun a ha b hb => ?_⟩
  simp at hb
  subst hb
  intro e
  subst e
  exact mhas_not.1 hk ha
theorem mget_mem (d : V) : ∀ {es : List (K × V)} {k : K}, mhas es k = true → (k, mget d es k) ∈ es
 | [], k, h => by simp [mhas] at h
 | e :: es, k, h => by
  unfold mget
  by_cases h' : e.1 = k
  ·rw [List.find?_cons_of_pos (by simpa using h')]
   simp [← h']
  ·rw [List.find?_cons_of_neg (by simpa using h')]
   exact List.mem_cons_of_mem _ (mget_mem d (by simpa [mhas, h'] using h))
end
abbrev GT := Int × Int × List (KT × VT)
def vals (g : GT) : List VT := g.2.2.map (·.2)
def okLearn (v : Int) (m : ByteArray) (p : Int) : Bool := decide (0 ≤ v ∧ v ≤ 4094 ∧ kindB m = 1 ∧ 0 ≤ p ∧ p < 16)
def learnG (v : Int) (m : ByteArray) (p : Int) (g : GT) : Bool × GT :=
 if okLearn v m p = true then (if mhas g.2.2 (v, m) = false ∧ g.1 ≤ (g.2.2.length : Int) then (false, g) else (true, g.1, g.2.1, mput g.2.2 (v, m) (v, m, p, (0 : Int)))) else (false, g)
theorem Learn_S (k : Nat) (v : Int) (m : ByteArray) (p : Int) (g : GT) : F_fdb_Table_Learn.S k v m p g = .ok (learnG v m p g) := by
 unfold F_fdb_Table_Learn.S learnG okLearn
 rw [Kind_S, O.bind_ok]
 by_cases h1 : v < 0
 ·rw [O.cond_pos h1, if_neg (by simp; omega)]
 rw [O.cond_neg h1]
 by_cases h2 : v > 4094
 ·rw [O.cond_pos h2, if_neg (by simp; omega)]
 rw [O.cond_neg h2]
 by_cases h3 : kindB m ≠ 1
 ·rw [O.cond_pos h3, if_neg (by simp [h3])]
 rw [O.cond_neg h3]
 by_cases h4 : p < 0
 ·rw [O.cond_pos h4, if_neg (by simp; omega)]
 rw [O.cond_neg h4]
 by_cases h5 : p ≥ 16
 ·rw [O.cond_pos h5, if_neg (by simp; omega)]
 rw [O.cond_neg h5, if_pos (by simp; omega)]
 cases h6 : mhas g.2.2 (v, m) with
 | true => rw [Bool.not_true, O.cond_false, if_neg (by simp)]
 | false =>
  rw [Bool.not_false, O.cond_true, O.cond_dec]
  by_cases h7 : g.1 ≤ (g.2.2.length : Int)
  ·rw [if_pos h7, if_pos ⟨rfl, h7⟩]
  ·rw [if_neg h7, if_neg (fun h => h7 h.2)]
structure Inv (g : GT) : Prop where
 nodup : (g.2.2.map (·.1)).Nodup
 key : ∀ e ∈ g.2.2, keyV e.2 = e.1
 len : (g.2.2.length : Int) ≤ g.1
 room : g.1 ≤ 1024
theorem Inv.keys {g : GT} (h : Inv g) : (vals g).map keyV = g.2.2.map (·.1) := by
 unfold vals
 rw [List.map_map]
 exact List.map_congr_left fun e he => h.key e he
theorem Inv.ok {g : GT} (h : Inv g) : rowsOk g.2.2 = true := by
 unfold rowsOk
 rw [Bool.and_eq_true, decide_eq_true_eq, decide_eq_true_eq]
 refine ⟨by have := h.len; have := h.room; omega, ?_⟩
 have := h.keys
 unfold vals at this
 rw [List.map_map] at this
 have e : (g.2.2.map fun e => keyV e.2) = g.2.2.map (·.1) := this
 rw [e]; exact h.nodup
theorem Rows_S (k : Nat) {g : GT} (h : Inv g) : F_fdb_Table_Rows.S k g = .ok (isort (vals g), g) := by
 unfold F_fdb_Table_Rows.S
 rw [h.ok, O.chk_true]
 rfl
theorem Inv.up {g : GT} (h : Inv g) : Up (isort (vals g)) := isort_up _ (by rw [h.keys]; exact h.nodup)
theorem rows_len (g : GT) : (isort (vals g)).length = g.2.2.length := by rw [(isort_perm _).length_eq]; simp [vals]
theorem inv_new (room ticks : Int) (h1 : 0 ≤ room) (h : room ≤ 1024) : Inv (room, ticks, []) := ⟨by simp, by simp, by simpa using h1, h⟩
theorem inv_learn {g : GT} (h : Inv g) (v : Int) (m : ByteArray) (p : Int) : Inv (learnG v m p g).2 := by
 unfold learnG
 split
 ·split
  ·exact h
  ·rename_i h1
   refine ⟨mput_nodup _ h.nodup, fun e he => ?_, ?_, h.room⟩
   ·rcases mput_mem he with rfl | he
    ·rfl
    ·exact h.key e he
   ·show ((mput g.2.2 (v, m) (v, m, p, (0 : Int))).length : Int) ≤ g.1
    rw [mput_len]
    have := h.len
    split
    ·omega
    ·rename_i hh
     rw [Bool.not_eq_true] at hh
     have : ¬ g.1 ≤ (g.2.2.length : Int) := fun h => h1 ⟨hh, h⟩
     omega
 ·exact h
def tickG (g : GT) : GT := (g.1, g.2.1, tickE g.2.1 g.2.2)
theorem Tick_S (k : Nat) (g : GT) : F_fdb_Table_Tick.S k g = .ok (IntKind.i64.wrap ((g.2.2.length : Int) - ((tickE g.2.1 g.2.2).length : Int)), tickG g) := rfl
theorem tickE_sub (t : Int) : ∀ es : List (KT × VT), ((tickE t es).map (·.1)).Sublist (es.map (·.1))
 | [] => List.Sublist.refl _
 | e :: es => by
  have ih := tickE_sub t es
  unfold tickE bumpE at ih ⊢
  rw [List.filterMap_cons]
  by_cases h : t ≤ (upV e.2).2.2.2
  ·rw [if_pos h]; exact ih.trans (List.sublist_cons_self _ _)
  ·rw [if_neg h]; simp only [List.map_cons]; exact ih.cons_cons _
theorem tickE_mem {t : Int} {es : List (KT × VT)} {e : KT × VT} (h : e ∈ tickE t es) : ∃ e' ∈ es, e.1 = e'.1 ∧ e.2 = upV e'.2 := by
 unfold tickE at h
 obtain ⟨e', he, h⟩ := List.mem_filterMap.1 h
 unfold bumpE at h
 split at h
 ·cases h
 ·cases h; exact ⟨e', he, rfl, rfl⟩
theorem tickE_len (t : Int) (es : List (KT × VT)) : (tickE t es).length ≤ es.length := by
 have := (tickE_sub t es).length_le
 simpa using this
theorem inv_tick {g : GT} (h : Inv g) : Inv (tickG g) := by
 refine ⟨(tickE_sub _ _).nodup h.nodup, fun e he => ?_, ?_, h.room⟩
 ·obtain ⟨e', he', h1, h2⟩ := tickE_mem he
  rw [h1, h2, ← h.key e' he']
  rfl
 ·show ((tickE g.2.1 g.2.2).length : Int) ≤ g.1
  have := tickE_len g.2.1 g.2.2; have := h.len; omega
theorem Tick_S' (k : Nat) {g : GT} (h : Inv g) : F_fdb_Table_Tick.S k g = .ok ((g.2.2.length : Int) - ((tickE g.2.1 g.2.2).length : Int), tickG g) := by
 rw [Tick_S, i64_in _ (by have := tickE_len g.2.1 g.2.2; have := h.len; have := h.room; omega)]
end Go.Proofs.YtkihcmcaignmkaaGreat
end
section
namespace Go.Proofs.YtkihcmcaignmkaaGreat
open Go.Aq Go.IntWalk
set_option linter.unusedVariables false
theorem gt_at {α : Type} (d : α) (xs : List α) (i : Nat) (h : i < xs.length) : gt d xs (i : Int) = xs[i] := by
 unfold gt
 rw [Int.toNat_natCast, List.getD_eq_getElem?_getD, List.getElem?_eq_getElem h]; rfl
theorem index_S (k : Nat) (xs : List Int) (n : Int) (hk : xs.length < k) (hl : xs.length ≤ 1000000) : ∃ r, F_slices_Index_int_int.S k xs n = .ok r ∧ (0 ≤ r ↔ n ∈ xs) := by
 unfold F_slices_Index_int_int.S F_slices_Index_int_int.top
 have lp : ∀ (m i j : Nat), i + m = xs.length → m < j → ∃ r, F_slices_Index_int_int.l0 k xs n j (i : Int) = .ok r ∧ (0 ≤ r ↔ n ∈ xs.drop i) := by
  intro m
  induction m with
  | zero =>
   intro i j hi hj
   obtain ⟨j, rfl⟩ : ∃ i, j = i + 1 := ⟨j - 1, by omega⟩
   show ∃ r, F_slices_Index_int_int.l0_b _ _ _ _ _ = _ ∧ _
   unfold F_slices_Index_int_int.l0_b
   rw [O.cond_neg (by omega)]
   refine ⟨-1, rfl, ?_⟩
   rw [List.drop_eq_nil_of_le (by omega)]
   simp
  | succ m ih =>
   intro i j hi hj
   obtain ⟨j, rfl⟩ : ∃ i, j = i + 1 := ⟨j - 1, by omega⟩
   show ∃ r, F_slices_Index_int_int.l0_b _ _ _ _ _ = _ ∧ _
   unfold F_slices_Index_int_int.l0_b
   have hd : xs.drop i = xs[i] :: xs.drop (i + 1) := (List.getElem_cons_drop (h := by omega)).symm
   rw [O.cond_pos (by omega), O.chk_dec (by omega), O.chk_dec (by omega), gt_at _ xs i (by omega), i64_in _ (by omega), hd]
   by_cases he : n = xs[i]
   ·rw [O.cond_pos he]
    exact ⟨(i : Int), rfl, iff_of_true (Int.natCast_nonneg _) (by first | exact List.mem_cons.2 (.inl he) | (rw [hd]; exact List.mem_cons.2 (.inl he)))⟩
   ·rw [O.cond_neg he]
    obtain ⟨r, h1, h2⟩ := ih (i + 1) j (by omega) (by omega)
    refine ⟨r, h1, ?_⟩
    rw [h2, List.mem_cons]
    exact ⟨.inr, fun h => h.resolve_left he⟩
 have := lp xs.length 0 k (by omega) hk
 simpa using this
theorem contains_S (k : Nat) (xs : List Int) (n : Int) (hk : xs.length < k) (hl : xs.length ≤ 1000000) : F_slices_Contains_int_int.S k xs n = .ok (decide (n ∈ xs)) := by
 obtain ⟨r, h1, h2⟩ := index_S k xs n hk hl
 unfold F_slices_Contains_int_int.S
 rw [h1, O.bind_ok]
 congr 1
 exact decide_eq_decide.2 h2
def hasB (m : Int × List Int) (v : Int) : Bool := decide (m.1 = v ∨ v ∈ m.2)
def leavesB (m : Int × List Int) (v : Int) (s : ByteArray) : ByteArray × Int := if m.1 = v then tagP s (-1) else tagP s v
theorem hsOf_is {k : Nat} {v : Int} {ps : List (Int × List Int)} (hk : ∀ m ∈ ps, m.2.length < k ∧ m.2.length ≤ 1000000) {p : Nat} (hp : p < ps.length) : hsOf k v ps p = hasB ps[p] v := by
 unfold hsOf hasB
 rw [List.getElem?_eq_getElem hp]
 have := hk ps[p] (List.getElem_mem hp)
 by_cases h : ps[p].1 = v
 ·simp [h]
 ·simp [h, contains_S k _ v this.1 this.2]
theorem allHas_is {k : Nat} {v : Int} {ps : List (Int × List Int)} (hk : ∀ m ∈ ps, m.2.length < k ∧ m.2.length ≤ 1000000) : AllHas k v ps := fun m hm _ => ⟨_, contains_S k m.2 v (hk m hm).1 (hk m hm).2⟩
theorem leaves_S (k : Nat) (hk : 9 ≤ k) (p : Nat) (v : Int) (s : ByteArray) (g0 : G0) (g1 : G1) (hp : p < g0.1.length) : F_bridge_Bridge_leaves.S k p v s g0 g1 = .ok (leavesB g0.1[p] v s) := by
 unfold F_bridge_Bridge_leaves.S leavesB
 rw [O.chk_dec (by omega), O.chk_dec (by omega), gt_at _ g0.1 p hp]
 by_cases h : g0.1[p].1 = v
 ·rw [O.cond_pos h, if_pos h, ethTag_S k hk, O.bind_ok]
 ·rw [O.cond_neg h, if_neg h, ethTag_S k hk, O.bind_ok]
end Go.Proofs.YtkihcmcaignmkaaGreat
end
section
namespace Go.Proofs.YtkihcmcaignmkaaGreat
open Go.Aq Go.IntWalk
set_option linter.unusedVariables false
def hasP (ps : List (Int × List Int)) (v : Int) (p : Nat) : Bool := match ps[p]? with
 | some m => hasB m v
 | none => false
theorem memb_filter (f : Nat → Bool) : ∀ n, memb f n = (List.range n).filter f
 | 0 => rfl
 | n + 1 => by
  rw [memb, memb_filter f n, List.range_succ, List.filter_append]
  by_cases h : f n = true
  ·simp [h]
  ·simp [h]
theorem memb_is {f g : Nat → Bool} {n : Nat} (h : ∀ p, p < n → f p = g p) : memb f n = (List.range n).filter g := by
 rw [memb_filter]
 exact List.filter_congr fun p hp => h p (List.mem_range.1 hp)
def mems (ps : List (Int × List Int)) (v : Int) : List Nat := (List.range ps.length).filter (hasP ps v)
def PortsOk (k : Nat) (ps : List (Int × List Int)) : Prop := ps.length ≤ 1000000 ∧ ∀ m ∈ ps, m.2.length < k ∧ m.2.length ≤ 1000000
theorem hsOf_hasP {k : Nat} {v : Int} {ps : List (Int × List Int)} (hk : PortsOk k ps) : ∀ p, p < ps.length → hsOf k v ps p = hasP ps v p := by
 intro p hp
 rw [hsOf_is hk.2 hp]
 unfold hasP
 rw [List.getElem?_eq_getElem hp]
theorem memb_mems {k : Nat} {v : Int} {ps : List (Int × List Int)} (hk : PortsOk k ps) : memb (hsOf k v ps) ps.length = mems ps v := memb_is (hsOf_hasP hk)
def fitsB (ps : List (Int × List Int)) (v : Int) (s : ByteArray) : Bool := (mems ps v).all fun p => decide ((leavesB (ps.getD p (0, [])) v s).2 = 0)
theorem mems_lt {ps : List (Int × List Int)} {v : Int} {p : Nat} (h : p ∈ mems ps v) : p < ps.length := by
 unfold mems at h
 exact List.mem_range.1 (List.mem_filter.1 h).1
theorem fits_S (k : Nat) (hk : 9 ≤ k) (v : Int) (s : ByteArray) (g0 : G0) (g1 : G1) (hp : PortsOk k g0.1) : F_bridge_Bridge_fits.S k v s g0 g1 = .ok (fitsB g0.1 v s) := by
 have hlv : ∀ p : Nat, p < g0.1.length → ∃ r, F_bridge_Bridge_leaves.S k p v s g0 g1 = .ok r := fun p h => ⟨_, leaves_S k hk p v s g0 g1 h⟩
 rw [F_bridge_Bridge_fits.S_ok ⟨by have := hp.1; omega, allHas_is hp.2, hlv⟩, memb_mems hp]
 unfold fitsB
 congr 1
 rw [Bool.eq_iff_iff, List.all_eq_true, List.all_eq_true]
 have e : ∀ p, p ∈ mems g0.1 v → lvOf k v s g0 g1 p = leavesB (g0.1.getD p (0, [])) v s := fun p h => by
  have hl := mems_lt h
  unfold lvOf
  rw [leaves_S k hk p v s g0 g1 hl, List.getD_eq_getElem?_getD, List.getElem?_eq_getElem hl]
  rfl
 exact ⟨fun h p hm => by rw [← e p hm]; exact h p hm, fun h p hm => by rw [e p hm]; exact h p hm⟩
def toB (ps : List (Int × List Int)) (es : EsT) (port v : Int) (dst : ByteArray) : List Int × Bool :=
 if mhas es (v, dst) = true ∧ kindB dst = 1 then
  if (mget seenD es (v, dst)).2.2.1 = port then ([], true) else (if hasP ps v (mget seenD es (v, dst)).2.2.1.toNat = true then [(mget seenD es (v, dst)).2.2.1] else [], false)
 else (((mems ps v).filter fun p : Nat => decide ((p : Int) ≠ port)).map fun p : Nat => (p : Int), false)
theorem to_S (k : Nat) (port v : Int) (dst : ByteArray) (g0 : G0) (g1 : G1) (hp : PortsOk k g0.1) (hat : mhas g1.2.2 (v, dst) = true → 0 ≤ (mget seenD g1.2.2 (v, dst)).2.2.1 ∧ (mget seenD g1.2.2 (v, dst)).2.2.1 < g0.1.length) :
  F_bridge_Bridge_to.S k port v dst g0 g1 = .ok ((toB g0.1 g1.2.2 port v dst).1, if (toB g0.1 g1.2.2 port v dst).2 = true then F_bridge_Bridge_to.bump g0 else g0, g1) := by
 rw [F_bridge_Bridge_to.S_is (Kind_S k dst)]
 unfold toB
 by_cases hc : mhas g1.2.2 (v, dst) = true ∧ kindB dst = 1
 ·rw [if_pos hc, if_pos hc]
  obtain ⟨h0, h1⟩ := hat hc.1
  generalize (mget seenD g1.2.2 (v, dst)).2.2.1 = a at h0 h1 ⊢
  by_cases hpp : a = port
  ·rw [if_pos hpp]
   unfold F_bridge_Bridge_to.known
   rw [if_pos hpp]
   rfl
  ·rw [if_neg hpp]
   unfold F_bridge_Bridge_to.known
   have hl : a.toNat < g0.1.length := by omega
   have hh : F_bridge_Bridge_to.HasAt k v g0.1 a := ⟨a.toNat, g0.1[a.toNat], by omega, List.getElem?_eq_getElem hl, fun h => allHas_is hp.2 _ (List.getElem_mem hl) h⟩
   rw [if_neg hpp, if_pos hh, hsOf_hasP hp _ hl]
   rfl
 ·rw [if_neg hc, if_neg hc]
  unfold F_bridge_Bridge_to.flood F_bridge_Bridge_to.others
  rw [if_pos ⟨allHas_is hp.2, hp.1⟩, memb_mems hp]
  rfl
end Go.Proofs.YtkihcmcaignmkaaGreat
end
section
namespace Go.Proofs.YtkihcmcaignmkaaGreat
open Go.Aq Go.IntWalk
set_option linter.unusedVariables false
abbrev LaneT := List ByteArray × Int × Int
abbrev dL : LaneT := ([], 0, 0)
def sendL (ps : List (Int × List Int)) (v : Int) (s : ByteArray) : List Int → List Int → List LaneT → Int → Int → List Int × List LaneT × Int × Int
 | [], took, ls, q, f => (took, ls, q, f)
 | p :: r, took, ls, q, f => if ((gt dL ls p).1.length : Int) ≥ (gt dL ls p).2.1 then sendL ps v s r took (su ls p ((gt dL ls p).1, (gt dL ls p).2.1, IntKind.i64.wrap ((gt dL ls p).2.2 + 1))) q (IntKind.i64.wrap (f + 1))
  else sendL ps v s r (took ++ [p]) (su ls p ((gt dL ls p).1 ++ [(leavesB (ps.getD p.toNat (0, [])) v s).1], (gt dL ls p).2.1, (gt dL ls p).2.2)) (IntKind.i64.wrap (q + 1)) f
def LanesOk (n : Nat) (ls : List LaneT) : Prop := ls.length = n ∧ ∀ x ∈ ls, x.2.1 ≤ 1024 ∧ x.1.length ≤ 1024
theorem lanes_su {n : Nat} {ls : List LaneT} (h : LanesOk n ls) (i : Int) (x : LaneT) (hx : x.2.1 ≤ 1024 ∧ x.1.length ≤ 1024) : LanesOk n (su ls i x) := by
 refine ⟨by unfold su; rw [List.length_set]; exact h.1, fun y hy => ?_⟩
 unfold su at hy
 rcases List.mem_or_eq_of_mem_set hy with hy | hy
 ·exact h.2 y hy
 ·rw [hy]; exact hx
theorem lanes_gt {n : Nat} {ls : List LaneT} (h : LanesOk n ls) {p : Nat} (hp : p < n) : (gt dL ls (p : Int)).2.1 ≤ 1024 ∧ (gt dL ls (p : Int)).1.length ≤ 1024 := by
 rw [gt_at dL ls p (by rw [h.1]; exact hp)]
 exact h.2 _ (List.getElem_mem _)
theorem send_l1 (k : Nat) (hk : 9 ≤ k) (s : ByteArray) (v : Int) (g0 : G0) (g1 : G1) (all : List Int) (hall : ∀ p ∈ all, 0 ≤ p ∧ p < g0.1.length) (hal : all.length ≤ 1000000) :
  ∀ (m i j : Nat) (took : List Int) (ls : List LaneT) (q f : Int), i + m = all.length → m < j → LanesOk g0.1.length ls → took.length ≤ i →
   F_bridge_Bridge_In.l1 k s v (all, g0, g1) j (i : Int) took ls q f = .ok (((sendL g0.1 v s (all.drop i) took ls q f).1, 0), ((g0.1, (sendL g0.1 v s (all.drop i) took ls q f).2.1, (g0.2.2.1, g0.2.2.2.1, g0.2.2.2.2.1, g0.2.2.2.2.2.1, (sendL g0.1 v s (all.drop i) took ls q f).2.2.1, (sendL g0.1 v s (all.drop i) took ls q f).2.2.2)), g1)) := by
 intro m
 induction m with
 | zero =>
  intro i j took ls q f hi hj hL ht
  obtain ⟨j, rfl⟩ : ∃ i, j = i + 1 := ⟨j - 1, by omega⟩
  show F_bridge_Bridge_In.l1_b _ _ _ _ _ _ _ _ _ _ = _
  unfold F_bridge_Bridge_In.l1_b
  rw [O.cond_neg (by show ¬ (i : Int) < (all.length : Int); omega), List.drop_eq_nil_of_le (by omega)]
  rfl
 | succ m ih =>
  intro i j took ls q f hi hj hL ht
  obtain ⟨j, rfl⟩ : ∃ i, j = i + 1 := ⟨j - 1, by omega⟩
  show F_bridge_Bridge_In.l1_b _ _ _ _ _ _ _ _ _ _ = _
  unfold F_bridge_Bridge_In.l1_b
  have hil : i < all.length := by omega
  have hd : all.drop i = all[i] :: all.drop (i + 1) := (List.getElem_cons_drop (h := hil)).symm
  obtain ⟨h0, h1⟩ := hall all[i] (List.getElem_mem hil)
  obtain ⟨p, hp⟩ : ∃ p : Nat, all[i] = (p : Int) := ⟨all[i].toNat, by omega⟩
  have hpl : p < g0.1.length := by omega
  have hgi : gt (0 : Int) all (i : Int) = (p : Int) := by rw [gt_at _ all i hil, hp]
  have hlv := leaves_S k hk p v s (g0.1, ls, (g0.2.2.1, g0.2.2.2.1, g0.2.2.2.2.1, g0.2.2.2.2.2.1, q, f)) g1 hpl
  have hgd : g0.1.getD (p : Int).toNat (0, []) = g0.1[p] := by rw [Int.toNat_natCast, List.getD_eq_getElem?_getD, List.getElem?_eq_getElem hpl]; rfl
  have hx := lanes_gt hL hpl
  have hll := hL.1
  dsimp only
  rw [O.cond_pos (show (i : Int) < (all.length : Int) by omega), O.chk_dec (by omega), O.chk_dec (by omega), hgi, hlv, O.bind_ok, O.chk_dec (by omega), O.chk_dec (by omega), i64_in _ (by omega), hd, hp]
  by_cases hf : ((gt dL ls (p : Int)).1.length : Int) ≥ (gt dL ls (p : Int)).2.1
  ·rw [O.cond_pos hf, O.cond_true]
   have := ih (i + 1) j took (su ls (p : Int) ((gt dL ls (p : Int)).1, (gt dL ls (p : Int)).2.1, IntKind.i64.wrap ((gt dL ls (p : Int)).2.2 + 1))) q (IntKind.i64.wrap (f + 1)) (by omega) (by omega) (lanes_su hL _ _ hx) (by omega)
   rw [show sendL g0.1 v s ((p : Int) :: all.drop (i + 1)) took ls q f = sendL g0.1 v s (all.drop (i + 1)) took (su ls (p : Int) ((gt dL ls (p : Int)).1, (gt dL ls (p : Int)).2.1, IntKind.i64.wrap ((gt dL ls (p : Int)).2.2 + 1))) q (IntKind.i64.wrap (f + 1)) by rw [sendL, if_pos hf]]
   exact this
  ·rw [O.cond_neg hf, O.chk_dec (by show (gt dL ls (p : Int)).1.length + 1 ≤ 1073741824; omega), O.cond_false, O.chk_dec (by show took.length + 1 ≤ 1073741824; omega)]
   have := ih (i + 1) j (took ++ [(p : Int)]) (su ls (p : Int) ((gt dL ls (p : Int)).1 ++ [(leavesB g0.1[p] v s).1], (gt dL ls (p : Int)).2.1, (gt dL ls (p : Int)).2.2)) (IntKind.i64.wrap (q + 1)) f (by omega) (by omega) (lanes_su hL _ _ ⟨hx.1, by simp; omega⟩) (by simp; omega)
   rw [show sendL g0.1 v s ((p : Int) :: all.drop (i + 1)) took ls q f = sendL g0.1 v s (all.drop (i + 1)) (took ++ [(p : Int)]) (su ls (p : Int) ((gt dL ls (p : Int)).1 ++ [(leavesB g0.1[p] v s).1], (gt dL ls (p : Int)).2.1, (gt dL ls (p : Int)).2.2)) (IntKind.i64.wrap (q + 1)) f by rw [sendL, if_neg hf, hgd]]
   exact this
end Go.Proofs.YtkihcmcaignmkaaGreat
end
section
namespace Go.Proofs.YtkihcmcaignmkaaGreat
open Go.Aq Go.IntWalk
set_option linter.unusedVariables false
theorem has_S (k : Nat) (p : Nat) (v : Int) (g0 : G0) (g1 : G1) (hp : PortsOk k g0.1) (hl : p < g0.1.length) : F_bridge_Bridge_has.S k p v g0 g1 = .ok (hasP g0.1 v p, g0, g1) := by
 unfold F_bridge_Bridge_has.S hasP
 have hm := hp.2 _ (List.getElem_mem hl)
 rw [O.chk_dec (by omega), O.chk_dec (by omega), gt_at _ g0.1 p hl, List.getElem?_eq_getElem hl]
 by_cases h : g0.1[p].1 = v
 ·rw [O.cond_pos h]; simp [hasB, h]
 ·rw [O.cond_neg h, contains_S k _ v hm.1 hm.2, O.bind_ok]; simp [hasB, h]
def netB (ps : List (Int × List Int)) (port : Nat) (s : ByteArray) : Int := if (ethP s).1.2.2.1 = -1 then (ps.getD port (0, [])).1 else (ethP s).1.2.2.1
def cIn (g0 : G0) : G0 := (g0.1, g0.2.1, (IntKind.i64.wrap (g0.2.2.1 + 1), g0.2.2.2.1, g0.2.2.2.2.1, g0.2.2.2.2.2.1, g0.2.2.2.2.2.2.1, g0.2.2.2.2.2.2.2))
def cBad (g0 : G0) : G0 := (g0.1, g0.2.1, (IntKind.i64.wrap (g0.2.2.1 + 1), IntKind.i64.wrap (g0.2.2.2.1 + 1), g0.2.2.2.2.1, g0.2.2.2.2.2.1, g0.2.2.2.2.2.2.1, g0.2.2.2.2.2.2.2))
def cFor (g0 : G0) : G0 := (g0.1, g0.2.1, (IntKind.i64.wrap (g0.2.2.1 + 1), g0.2.2.2.1, IntKind.i64.wrap (g0.2.2.2.2.1 + 1), g0.2.2.2.2.2.1, g0.2.2.2.2.2.2.1, g0.2.2.2.2.2.2.2))
def goOn (g0 : G0) (g1 : G1) (l : List Int) (v : Int) (s : ByteArray) : (List Int × Int) × G0 × G1 :=
 (((sendL g0.1 v s l [] g0.2.1 g0.2.2.2.2.2.2.1 g0.2.2.2.2.2.2.2).1, 0), ((g0.1, (sendL g0.1 v s l [] g0.2.1 g0.2.2.2.2.2.2.1 g0.2.2.2.2.2.2.2).2.1, (g0.2.2.1, g0.2.2.2.1, g0.2.2.2.2.1, g0.2.2.2.2.2.1, (sendL g0.1 v s l [] g0.2.1 g0.2.2.2.2.2.2.1 g0.2.2.2.2.2.2.2).2.2.1, (sendL g0.1 v s l [] g0.2.1 g0.2.2.2.2.2.2.1 g0.2.2.2.2.2.2.2).2.2.2)), g1))
def inB (g0 : G0) (g1 : G1) (port : Nat) (s : ByteArray) : (List Int × Int) × G0 × G1 :=
 if (ethP s).2 ≠ 0 ∨ kindB (ethP s).1.2.1 ≠ 1 ∨ fitsB g0.1 (netB g0.1 port s) s = false then (([], 0), cBad g0, g1)
 else if hasP g0.1 (netB g0.1 port s) port = false then (([], 0), cFor g0, g1)
 else goOn (if (toB g0.1 (learnG (netB g0.1 port s) (ethP s).1.2.1 port g1).2.2.2 port (netB g0.1 port s) (ethP s).1.1).2 = true then F_bridge_Bridge_to.bump (cIn g0) else cIn g0) (learnG (netB g0.1 port s) (ethP s).1.2.1 port g1).2
  (toB g0.1 (learnG (netB g0.1 port s) (ethP s).1.2.1 port g1).2.2.2 port (netB g0.1 port s) (ethP s).1.1).1 (netB g0.1 port s) s
def TabOk (n : Nat) (g1 : G1) : Prop := ∀ e ∈ g1.2.2, 0 ≤ e.2.2.2.1 ∧ e.2.2.2.1 < (n : Int)
theorem toB_range {ps : List (Int × List Int)} {es : EsT} {port v : Int} {dst : ByteArray} (h : ∀ e ∈ es, 0 ≤ e.2.2.2.1 ∧ e.2.2.2.1 < (ps.length : Int)) : ∀ p ∈ (toB ps es port v dst).1, 0 ≤ p ∧ p < ps.length := by
 intro p hp
 unfold toB at hp
 split at hp
 ·rename_i hc
  have := h _ (mget_mem seenD hc.1)
  split at hp
  ·cases hp
  ·dsimp only at hp
   split at hp
   ·rw [List.mem_singleton.1 hp]; exact this
   ·cases hp
 ·obtain ⟨q, hq, rfl⟩ := List.mem_map.1 hp
  have := mems_lt (List.mem_filter.1 hq).1
  omega
theorem toB_len {ps : List (Int × List Int)} {es : EsT} {port v : Int} {dst : ByteArray} (h : ps.length ≤ 1000000) : (toB ps es port v dst).1.length ≤ 1000000 := by
 unfold toB
 split
 ·split
  ·exact Nat.zero_le _
  ·dsimp only; split <;> simp
 ·rw [List.length_map]
  refine Nat.le_trans (List.length_filter_le _ _) ?_
  unfold mems
  refine Nat.le_trans (List.length_filter_le _ _) ?_
  rw [List.length_range]; exact h
theorem In_S (k : Nat) (hk : 9 ≤ k) (port : Nat) (s : ByteArray) (g0 : G0) (g1 : G1) (hp : PortsOk k g0.1) (hkl : g0.1.length < k) (hL : LanesOk g0.1.length g0.2.1) (hl : port < g0.1.length) (hT : TabOk g0.1.length (learnG (netB g0.1 port s) (ethP s).1.2.1 port g1).2)
  (hlen : ∀ es : EsT, (toB g0.1 es port (netB g0.1 port s) (ethP s).1.1).1.length < k) : F_bridge_Bridge_In.S k port s g0 g1 = .ok (inB g0 g1 port s) := by
 unfold F_bridge_Bridge_In.S F_bridge_Bridge_In.top
 rw [O.cond_neg (by omega), O.cond_neg (by omega), ethParse_S k hk, O.bind_ok]
 have main : F_bridge_Bridge_In.j5 k port s g0 g1 (ethP s) (netB g0.1 port s) = .ok (inB g0 g1 port s) := by
  unfold F_bridge_Bridge_In.j5 F_bridge_Bridge_In.j5_b inB
  by_cases h1 : (ethP s).2 ≠ 0
  ·rw [O.cond_pos h1, if_pos (.inl h1)]; rfl
  rw [O.cond_neg h1, Kind_S, O.bind_ok]
  by_cases h2 : kindB (ethP s).1.2.1 ≠ 1
  ·rw [O.cond_pos h2, if_pos (.inr (.inl h2))]; rfl
  rw [O.cond_neg h2]
  have hf := fits_S k hk (netB g0.1 port s) s (cIn g0) g1 hp
  rw [show (g0.1, g0.2.1, (IntKind.i64.wrap (g0.2.2.1 + (1 : Int)), g0.2.2.2.1, g0.2.2.2.2.1, g0.2.2.2.2.2.1, g0.2.2.2.2.2.2.1, g0.2.2.2.2.2.2.2)) = cIn g0 from rfl, hf, O.bind_ok]
  have e1 : (cIn g0).1 = g0.1 := rfl
  rw [e1]
  by_cases h3 : fitsB g0.1 (netB g0.1 port s) s = false
  ·rw [h3, if_pos (.inr (.inr rfl))]
   simp only [Bool.not_false, O.cond_true]; rfl
  rw [if_neg (fun h => h.elim h1 fun h => h.elim h2 h3)]
  have h3' : fitsB g0.1 (netB g0.1 port s) s = true := by simpa using h3
  rw [h3']
  simp only [Bool.not_true, O.cond_false]
  rw [has_S k port _ (cIn g0) g1 hp hl, O.bind_ok, e1]
  by_cases h4 : hasP g0.1 (netB g0.1 port s) port = false
  ·rw [h4, if_pos rfl]
   simp only [Bool.not_false, O.cond_true]; rfl
  rw [if_neg h4]
  have h4' : hasP g0.1 (netB g0.1 port s) port = true := by simpa using h4
  rw [h4']
  simp only [Bool.not_true, O.cond_false]
  rw [Learn_S, O.bind_ok, to_S k port _ _ (cIn g0) _ hp (fun h => by
   have := hT _ (mget_mem seenD h)
   exact this), O.bind_ok, e1]
  have hr := toB_range (ps := g0.1) (port := port) (v := netB g0.1 port s) (dst := (ethP s).1.1) hT
  have hrl := toB_len (ps := g0.1) (es := (learnG (netB g0.1 port s) (ethP s).1.2.1 port g1).2.2.2) (port := port) (v := netB g0.1 port s) (dst := (ethP s).1.1) hp.1
  generalize hg : (if (toB g0.1 (learnG (netB g0.1 port s) (ethP s).1.2.1 port g1).2.2.2 port (netB g0.1 port s) (ethP s).1.1).2 = true then F_bridge_Bridge_to.bump (cIn g0) else cIn g0) = gx
  have x1 : gx.1 = g0.1 := by rw [← hg]; split <;> rfl
  have x2 : gx.2.1 = g0.2.1 := by rw [← hg]; split <;> rfl
  have := send_l1 k hk s (netB g0.1 port s) gx (learnG (netB g0.1 port s) (ethP s).1.2.1 port g1).2 _ (by rw [x1]; exact hr) hrl _ 0 k [] gx.2.1 gx.2.2.2.2.2.2.1 gx.2.2.2.2.2.2.2 (Nat.zero_add _) (hlen _) (by rw [x1, x2]; exact hL) (Nat.le_refl _)
  rw [List.drop_zero] at this
  exact this
 by_cases hv : (ethP s).1.2.2.1 = -1
 ·rw [O.cond_pos hv, O.chk_dec (by omega), O.chk_dec (by omega), gt_at _ g0.1 port hl]
  have : netB g0.1 port s = g0.1[port].1 := by unfold netB; rw [if_pos hv, List.getD_eq_getElem?_getD, List.getElem?_eq_getElem hl]; rfl
  rw [← this]
  exact main
 ·rw [O.cond_neg hv]
  have : netB g0.1 port s = (ethP s).1.2.2.1 := by unfold netB; rw [if_neg hv]
  rw [this] at main
  exact main
end Go.Proofs.YtkihcmcaignmkaaGreat
end
section
namespace Go.Proofs.YtkihcmcaignmkaaGreat
open Go.Aq Go.IntWalk
set_option linter.unusedVariables false
def mayL : Int → List Int → Bool
 | _, [] => true
 | last, x :: r => if x ≤ last ∨ x > 4094 then false else mayL x r
def mayB (m : Int × List Int) : Bool := mayL (-1) m.2 && decide (0 ≤ m.1 ∧ m.1 ≤ 4094)
theorem may20_S (k : Nat) (m : Int × List Int) (hk : m.2.length < k) (hl : m.2.length ≤ 1000000) : F_bridge_may.S k m = .ok (mayB m) := by
 unfold F_bridge_may.S F_bridge_may.top
 have lp : ∀ (n i j : Nat) (last : Int), i + n = m.2.length → n < j → F_bridge_may.l0 k m j last (i : Int) = .ok (mayL last (m.2.drop i) && decide (0 ≤ m.1 ∧ m.1 ≤ 4094)) := by
  intro n
  induction n with
  | zero =>
   intro i j last hi hj
   obtain ⟨j, rfl⟩ : ∃ i, j = i + 1 := ⟨j - 1, by omega⟩
   show F_bridge_may.l0_b _ _ _ _ _ = _
   unfold F_bridge_may.l0_b
   rw [O.cond_neg (by omega), List.drop_eq_nil_of_le (by omega)]
   by_cases h : m.1 ≥ 0
   ·rw [O.cond_pos h]
    have h : 0 ≤ m.1 := h
    simp [mayL, h]
   ·rw [O.cond_neg h]
    have h : ¬ 0 ≤ m.1 := h
    simp [mayL, h]
  | succ n ih =>
   intro i j last hi hj
   obtain ⟨j, rfl⟩ : ∃ i, j = i + 1 := ⟨j - 1, by omega⟩
   show F_bridge_may.l0_b _ _ _ _ _ = _
   unfold F_bridge_may.l0_b
   have hil : i < m.2.length := by omega
   have hd : m.2.drop i = m.2[i] :: m.2.drop (i + 1) := (List.getElem_cons_drop (h := hil)).symm
   rw [O.cond_pos (by omega), O.chk_dec (by omega), O.chk_dec (by omega), gt_at _ m.2 i hil, i64_in _ (by omega), hd]
   by_cases h1 : m.2[i] ≤ last
   ·rw [O.cond_pos h1, mayL, if_pos (.inl h1)]; rfl
   ·rw [O.cond_neg h1]
    by_cases h2 : m.2[i] > 4094
    ·rw [O.cond_pos h2, mayL, if_pos (.inr h2)]; rfl
    ·rw [O.cond_neg h2, mayL, if_neg (by omega)]
     exact ih (i + 1) j _ (by omega) (by omega)
 have := lp m.2.length 0 k (-1) (by omega) hk
 rw [List.drop_zero] at this
 exact this
theorem clone_S (k : Nat) (xs : List Int) (h : xs.length ≤ 1000000) : F_slices_Clone_int_int.S k xs = .ok xs := by
 unfold F_slices_Clone_int_int.S
 have hc : (0 : Nat) + xs.length ≤ 1073741824 := by omega
 by_cases h0 : (0 : Int) < (xs.length : Int)
 ·rw [O.cond_pos h0, O.cond_false, O.chk_dec hc, List.nil_append]
 ·have : xs = [] := List.length_eq_zero_iff.1 (by omega)
  subst this
  rw [O.cond_neg h0, O.cond_true, O.cond_false, O.chk_dec hc]
  exact O.twice_eq _
theorem texts_S (k : Nat) (n : Int) : F_lane_Texts.S k n = if 1 ≤ n ∧ n ≤ 1024 then .ok (.inr (0, [], n, 0)) else .ok (.inl 190) := by
 unfold F_lane_Texts.S F_lane_New_string.S
 by_cases h1 : n < 1
 ·rw [O.cond_pos h1, if_neg (by omega), O.sum_inl]
 ·rw [O.cond_neg h1]
  by_cases h2 : n > 1024
  ·rw [O.cond_pos h2, if_neg (by omega), O.sum_inl]
  ·rw [O.cond_neg h2, if_pos (by omega), O.sum_inr]
def newB (ps : List (Int × List Int)) (room ticks size : Int) : Int ⊕ (Int × G0 × G1) :=
 if ps.length < 1 ∨ 16 < ps.length ∨ ps.all mayB = false then .inl 200
 else if ¬ (1 ≤ room ∧ room ≤ 1024 ∧ 1 ≤ ticks ∧ ticks ≤ 65535) then .inl 180
 else if ¬ (1 ≤ size ∧ size ≤ 1024) then .inl 190
 else .inr (0, (ps, List.replicate ps.length ([], size, 0), (0, 0, 0, 0, 0, 0)), room, ticks, [])
end Go.Proofs.YtkihcmcaignmkaaGreat
end
section
namespace Go.Proofs.YtkihcmcaignmkaaGreat
open Go.Aq Go.IntWalk
set_option linter.unusedVariables false
theorem New_ok (k : Nat) (a b : Int) (h : 1 ≤ a ∧ a ≤ 1024 ∧ 1 ≤ b ∧ b ≤ 65535) : F_fdb_New.S k a b = .ok (.inr ((0 : Int), a, b, [])) := by
 unfold F_fdb_New.S
 rw [O.cond_neg (by omega), O.cond_neg (by omega), O.cond_neg (by omega), O.cond_neg (by omega)]
theorem New_no (k : Nat) (a b : Int) (h : ¬ (1 ≤ a ∧ a ≤ 1024 ∧ 1 ≤ b ∧ b ≤ 65535)) : F_fdb_New.S k a b = .ok (.inl (180 : Int)) := by
 unfold F_fdb_New.S
 rw [O.cond_dec, O.cond_dec, O.cond_dec, O.cond_dec]
 split
 ·rfl
 split
 ·rfl
 split
 ·rfl
 split
 ·rfl
 exfalso; omega
abbrev OutT := Int ⊕ (Int × G0 × G1)
theorem new_l2 (k : Nat) (ps v16 : List (Int × List Int)) (size : Int) (r24 : Int × G1) (R : Int → List (Int × List Int) → O OutT) (hl : ps.length ≤ 16) (hs : 1 ≤ size ∧ size ≤ 1024) :
  ∀ (n i j : Nat) (ls : List LaneT), i + n = ps.length → n < j → ls.length ≤ i → F_bridge_New.l2 k ps size v16 r24 R j (i : Int) ls = .ok (.inr (0, (v16, ls ++ List.replicate n ([], size, 0), (0, 0, 0, 0, 0, 0)), r24.2)) := by
 intro n
 induction n with
 | zero =>
  intro i j ls hi hj hn
  obtain ⟨j, rfl⟩ : ∃ i, j = i + 1 := ⟨j - 1, by omega⟩
  show F_bridge_New.l2_b _ _ _ _ _ _ _ _ _ = _
  unfold F_bridge_New.l2_b
  rw [O.cond_neg (by omega)]
  simp
 | succ n ih =>
  intro i j ls hi hj hn
  obtain ⟨j, rfl⟩ : ∃ i, j = i + 1 := ⟨j - 1, by omega⟩
  show F_bridge_New.l2_b _ _ _ _ _ _ _ _ _ = _
  unfold F_bridge_New.l2_b
  rw [O.cond_pos (by omega), texts_S, if_pos hs, O.sum_inr, O.cond_neg (by simp), O.chk_dec (by omega), i64_in _ (by omega)]
  have := ih (i + 1) j (ls ++ [([], size, 0)]) (by omega) (by omega) (by simp; omega)
  rw [List.replicate_succ, show ls ++ ([], size, 0) :: List.replicate n ([], size, 0) = (ls ++ [([], size, 0)]) ++ List.replicate n ([], size, 0) by simp]
  exact this
theorem new_l2_no (k : Nat) (ps v16 : List (Int × List Int)) (size : Int) (r24 : Int × G1) (R : Int → List (Int × List Int) → O OutT) (hl : 1 ≤ ps.length) (hs : ¬ (1 ≤ size ∧ size ≤ 1024)) (hk : 0 < k) :
  F_bridge_New.l2 k ps size v16 r24 R k 0 [] = .ok (.inl 190) := by
 obtain ⟨j, rfl⟩ : ∃ i, k = i + 1 := ⟨k - 1, by omega⟩
 show F_bridge_New.l2_b _ _ _ _ _ _ _ _ _ = _
 unfold F_bridge_New.l2_b
 rw [O.cond_pos (by omega), texts_S, if_neg hs, O.sum_inl, O.cond_pos (by decide)]
theorem new_S (k : Nat) (ps : List (Int × List Int)) (room ticks size : Int) (hk : 17 < k) (hp : PortsOk k ps) : F_bridge_New.S k ps room ticks size = .ok (newB ps room ticks size) := by
 unfold F_bridge_New.S F_bridge_New.top newB
 by_cases h1 : ps.length < 1
 ·rw [O.cond_pos (by omega), if_pos (.inl h1)]
 rw [O.cond_neg (by omega)]
 by_cases h2 : 16 < ps.length
 ·rw [O.cond_pos (by omega), if_pos (.inr (.inl h2))]
 rw [O.cond_neg (by omega)]
 have lp : ∀ (n i j : Nat), i + n = ps.length → n < j → F_bridge_New.l0 k ps room ticks size j (i : Int) (ps.take i) = .ok (if (ps.drop i).all mayB = false then .inl 200 else if ¬ (1 ≤ room ∧ room ≤ 1024 ∧ 1 ≤ ticks ∧ ticks ≤ 65535) then .inl 180
   else if ¬ (1 ≤ size ∧ size ≤ 1024) then .inl 190 else .inr (0, (ps, List.replicate ps.length ([], size, 0), (0, 0, 0, 0, 0, 0)), room, ticks, [])) := by
  intro n
  induction n with
  | zero =>
   intro i j hi hj
   obtain ⟨j, rfl⟩ : ∃ i, j = i + 1 := ⟨j - 1, by omega⟩
   show F_bridge_New.l0_b _ _ _ _ _ _ _ _ _ _ = _
   unfold F_bridge_New.l0_b
   rw [O.cond_neg (by omega), List.drop_eq_nil_of_le (by omega), if_neg (by simp)]
   by_cases h3 : 1 ≤ room ∧ room ≤ 1024 ∧ 1 ≤ ticks ∧ ticks ≤ 65535
   ·rw [New_ok k _ _ h3, O.sum_inr, O.cond_neg (by simp), if_neg (by simpa using h3)]
    by_cases h4 : 1 ≤ size ∧ size ≤ 1024
    ·rw [if_neg (by simpa using h4)]
     have := new_l2 k ps (ps.take i) size (0, room, ticks, []) (F_bridge_New.l0 k ps room ticks size j) (by omega) h4 ps.length 0 k [] (by omega) (by omega) (Nat.le_refl _)
     rw [List.nil_append, List.take_of_length_le (by omega)] at this
     rw [List.take_of_length_le (by omega)]
     exact this
    ·rw [if_pos h4]
     exact new_l2_no k ps (ps.take i) size (0, room, ticks, []) (F_bridge_New.l0 k ps room ticks size j) (by omega) h4 (by omega)
   ·rw [New_no k _ _ h3, O.sum_inl, O.cond_pos (by decide), if_pos h3]
  | succ n ih =>
   intro i j hi hj
   obtain ⟨j, rfl⟩ : ∃ i, j = i + 1 := ⟨j - 1, by omega⟩
   show F_bridge_New.l0_b _ _ _ _ _ _ _ _ _ _ = _
   unfold F_bridge_New.l0_b
   have hil : i < ps.length := by omega
   have hd : ps.drop i = ps[i] :: ps.drop (i + 1) := (List.getElem_cons_drop (h := hil)).symm
   have hm := hp.2 _ (List.getElem_mem hil)
   rw [O.cond_pos (by omega), O.chk_dec (by omega), O.chk_dec (by omega), gt_at _ ps i hil, may20_S k _ hm.1 hm.2, O.bind_ok, hd, List.all_cons]
   cases hb : mayB ps[i] with
   | false => simp
   | true =>
    simp only [Bool.not_true, O.cond_false, Bool.true_and]
    rw [clone_S k _ hm.2, O.bind_ok, O.chk_dec (by rw [List.length_take]; omega), i64_in _ (by omega)]
    have := ih (i + 1) j (by omega) (by omega)
    rw [List.take_add_one, List.getElem?_eq_getElem hil] at this
    exact this
 have := lp ps.length 0 k (by omega) (by omega)
 rw [List.drop_zero, List.take_zero] at this
 refine this.trans ?_
 by_cases h5 : ps.all mayB = false
 ·rw [if_pos h5, if_pos (.inr (.inr h5))]
 ·rw [if_neg h5, if_neg (c := ps.length < 1 ∨ 16 < ps.length ∨ ps.all mayB = false) (fun h => h.elim h1 fun h => h.elim h2 h5)]
end Go.Proofs.YtkihcmcaignmkaaGreat
end
section
namespace Go.Proofs.YtkihcmcaignmkaaGreat
open Go.Aq Go.IntWalk
set_option linter.unusedVariables false
def outB (ls : List LaneT) (p : Int) : (ByteArray × Bool) × List LaneT :=
 match (gt dL ls p).1 with
 | [] => ((⟨#[]⟩, false), ls)
 | t :: r => ((t, true), su ls p (r, (gt dL ls p).2.1, (gt dL ls p).2.2))
theorem su_same {α : Type} (d : α) (ls : List α) (p : Nat) (h : p < ls.length) : su ls (p : Int) (gt d ls p) = ls := by
 rw [gt_at d ls p h]
 unfold su
 rw [Int.toNat_natCast, List.set_getElem_self]
theorem cloneT_S (k : Nat) (xs : List ByteArray) (h : xs.length ≤ 1000000) : F_slices_Clone_string_string.S k xs = .ok xs := by
 unfold F_slices_Clone_string_string.S
 have hc : (0 : Nat) + xs.length ≤ 1073741824 := by omega
 by_cases h0 : (0 : Int) < (xs.length : Int)
 ·rw [O.cond_pos h0, O.cond_false, O.chk_dec hc, List.nil_append]
 ·have : xs = [] := List.length_eq_zero_iff.1 (by omega)
  subst this
  rw [O.cond_neg h0, O.cond_true, O.cond_false, O.chk_dec hc]
  exact O.twice_eq _
theorem Out_S (k : Nat) (p : Nat) (g0 : G0) (g1 : G1) (hl : p < g0.1.length) (hL : LanesOk g0.1.length g0.2.1) : F_bridge_Bridge_Out.S k p g0 g1 = .ok ((outB g0.2.1 p).1, (g0.1, (outB g0.2.1 p).2, g0.2.2), g1) := by
 have hll := hL.1
 have hx := lanes_gt hL hl
 have hsu := su_same dL g0.2.1 p (by omega)
 unfold F_bridge_Bridge_Out.S outB
 rw [O.cond_neg (by omega), O.cond_neg (by omega), O.chk_dec (by omega), O.chk_dec (by omega)]
 generalize hg : gt dL g0.2.1 (p : Int) = x at hx hsu ⊢
 obtain ⟨l, room, lost⟩ := x
 cases l with
 | nil =>
  rw [O.cond_pos (by simp)]
  dsimp only
  rw [hsu]
 | cons t r =>
  have hn : ¬ (((t :: r).length : Int) = 0) := by simp; omega
  have hxl : r.length + 1 ≤ 1024 := by simpa using hx.2
  have hr : sub (t :: r) (sumI [(1 : Int)]) (((t :: r).length : Int) - 1) = r := by
   unfold sub sumI
   rw [show (1 : Int).toNat = 1 from rfl, show (((t :: r).length : Int) - 1).toNat = r.length by simp]
   simp
  have ht : gt ByteArray.empty (t :: r) (0 : Int) = t := rfl
  have c1 : (decide (0 ≤ (1 : Int) ∧ (1 : Int) ≤ ((t :: r).length : Int)) && decide (0 ≤ ((t :: r).length : Int) ∧ ((t :: r).length : Int) ≤ ((t :: r).length : Int))) = true := by simp; omega
  have c2 : (posI [(1 : Int)] && decide (0 ≤ ((t :: r).length : Int) - 1 ∧ sumI [(1 : Int)] + (((t :: r).length : Int) - 1) ≤ ((t :: r).length : Int))) = true := by simp [posI, sumI]; omega
  dsimp only
  rw [O.cond_neg hn, O.chk_dec (by simp), O.chk_dec (by simp), c1, O.chk_true, c2, O.chk_true, hr, ht]
  rw [cloneT_S k r (by omega), O.bind_ok]
end Go.Proofs.YtkihcmcaignmkaaGreat
end
section
namespace Go.Proofs.YtkihcmcaignmkaaGreat
open Go.Aq Go.IntWalk
set_option linter.unusedVariables false
abbrev bodyB : ByteArray := ⟨#[98, 111, 100, 121]⟩
def fromB (a b : Int) : ByteArray := (ownB b ++ ownB a) ++ (⟨#[8, 0, 98, 111, 100, 121]⟩ : ByteArray)
theorem from_S (k : Nat) (a b : Int) : F_aqueductlaw20_from.S k a b = .ok (fromB a b) := by
 unfold F_aqueductlaw20_from.S fromB
 have e : (⟨#[8, 0, 98, 111, 100, 121]⟩ : ByteArray).size = 6 := rfl
 simp only [own_S, O.bind_ok]
 rw [O.chk_dec (by rw [own_size, own_size]; decide), O.chk_dec (by rw [app_size, own_size, own_size, e]; decide)]
def frameOk (a b : Nat) : Bool :=
 decide (ethP (fromB a b) = ((ownB b, ownB a, -1, 0, 2048, bodyB), 0)) && decide (tagP (fromB a b) (-1) = (fromB a b, 0))
theorem frames : ((List.range 10).all fun a => (List.range 10).all fun b => frameOk a b) = true := by kernel_rfl
end Go.Proofs.YtkihcmcaignmkaaGreat
end
section
namespace Go.Proofs.YtkihcmcaignmkaaGreat
open Go.Aq Go.IntWalk
set_option linter.unusedVariables false
theorem In_out (k : Nat) (port : Int) (s : ByteArray) (g0 : G0) (g1 : G1) (h : port < 0 ∨ (g0.1.length : Int) ≤ port) : F_bridge_Bridge_In.S k port s g0 g1 = .ok (([], 1), g0, g1) := by
 unfold F_bridge_Bridge_In.S F_bridge_Bridge_In.top
 by_cases h1 : port < 0
 ·rw [O.cond_pos h1]
 ·rw [O.cond_neg h1, O.cond_pos (by omega)]
def stOk (n : Nat) (g0 : G0) (g1 : G1) : Bool :=
 decide (g0.1.length = n) && (g0.1.all fun m => decide (m.2.length ≤ 20)) && decide (g0.2.1.length = n) && (g0.2.1.all fun x => decide (x.2.1 ≤ 1024) && decide (x.1.length ≤ 1024)) && (g1.2.2.all fun e => decide (0 ≤ e.2.2.2.1) && decide (e.2.2.2.1 < (n : Int)))
structure StOk (n : Nat) (g0 : G0) (g1 : G1) : Prop where
 len : g0.1.length = n
 nets : ∀ m ∈ g0.1, m.2.length ≤ 20
 lanes : LanesOk n g0.2.1
 tab : TabOk n g1
theorem stOk_is {n : Nat} {g0 : G0} {g1 : G1} (h : stOk n g0 g1 = true) : StOk n g0 g1 := by
 unfold stOk at h
 simp only [Bool.and_eq_true, decide_eq_true_eq, List.all_eq_true] at h
 obtain ⟨⟨⟨⟨h1, h2⟩, h3⟩, h4⟩, h5⟩ := h
 exact ⟨h1, h2, ⟨h3, h4⟩, h5⟩
theorem StOk.ports {n k : Nat} {g0 : G0} {g1 : G1} (h : StOk n g0 g1) (hn : n ≤ 16) (hk : 32 ≤ k) : PortsOk k g0.1 :=
 ⟨by rw [h.len]; omega, fun m hm => by have := h.nets m hm; omega⟩
theorem mput_in {K V : Type} [DecidableEq K] : ∀ {es : List (K × V)} {k : K} {v : V} {e : K × V}, e ∈ mput es k v → e = (k, v) ∨ e ∈ es
 | [], k, v, e, h => .inl (by simpa [mput] using h)
 | a :: es, k, v, e, h => by
  unfold mput at h
  split at h
  ·rcases List.mem_cons.1 h with h | h
   ·exact .inl h
   ·exact .inr (List.mem_cons_of_mem _ h)
  ·rcases List.mem_cons.1 h with h | h
   ·exact .inr (h ▸ List.mem_cons_self)
   ·exact (mput_in h).imp id (List.mem_cons_of_mem _)
theorem tab_learn {n : Nat} {g1 : G1} (h : TabOk n g1) (v : Int) (m : ByteArray) (p : Nat) (hp : p < n) : TabOk n (learnG v m p g1).2 := by
 unfold learnG
 split
 ·split
  ·exact h
  ·intro e he
   rcases mput_in he with rfl | he
   ·exact ⟨Int.natCast_nonneg _, by show ((p : Nat) : Int) < (n : Int); omega⟩
   ·exact h e he
 ·exact h
theorem mems_len (ps : List (Int × List Int)) (v : Int) : (mems ps v).length ≤ ps.length := by
 unfold mems
 refine Nat.le_trans (List.length_filter_le _ _) ?_
 rw [List.length_range]; exact Nat.le_refl _
theorem toB_short (ps : List (Int × List Int)) (es : EsT) (port v : Int) (dst : ByteArray) : (toB ps es port v dst).1.length ≤ ps.length + 1 := by
 unfold toB
 split
 ·split
  ·exact Nat.zero_le _
  ·dsimp only; split <;> simp
 ·rw [List.length_map]
  exact Nat.le_trans (List.length_filter_le _ _) (Nat.le_trans (mems_len ps v) (Nat.le_succ _))
theorem In_ok (k : Nat) (hk : 32 ≤ k) {n : Nat} (hn : n ≤ 16) (port : Nat) (s : ByteArray) {g0 : G0} {g1 : G1} (h : StOk n g0 g1) (hl : port < n) : F_bridge_Bridge_In.S k port s g0 g1 = .ok (inB g0 g1 port s) := by
 have hlen := h.len
 refine In_S k (by omega) port s g0 g1 (h.ports hn hk) (by omega) (by rw [hlen]; exact h.lanes) (by omega) (by rw [hlen]; exact tab_learn h.tab _ _ _ hl) (fun es => ?_)
 have := toB_short g0.1 es port (netB g0.1 port s) (ethP s).1.1
 omega
end Go.Proofs.YtkihcmcaignmkaaGreat
end
section
namespace Go.Proofs.YtkihcmcaignmkaaGreat
open Go.Aq Go.IntWalk
set_option linter.unusedVariables false
theorem same_S (k : Nat) (a b : List Int) (hk : a.length < k) (ha : a.length ≤ 1000000) : F_aqueductref11_Same.S k a b = .ok (decide (a = b)) := by
 unfold F_aqueductref11_Same.S F_aqueductref11_Same.top
 by_cases hl : a.length = b.length
 ·rw [O.cond_neg (by omega)]
  have lp : ∀ (m i j : Nat), i + m = a.length → m < j → (∀ t, t < i → a[t]? = b[t]?) → F_aqueductref11_Same.l0 k a b j (i : Int) = .ok (decide (a = b)) := by
   intro m
   induction m with
   | zero =>
    intro i j hi hj hs
    obtain ⟨j, rfl⟩ : ∃ i, j = i + 1 := ⟨j - 1, by omega⟩
    show F_aqueductref11_Same.l0_b _ _ _ _ _ = _
    unfold F_aqueductref11_Same.l0_b
    rw [O.cond_neg (by omega)]
    have : a = b := by
     apply List.ext_getElem?
     intro t
     by_cases ht : t < i
     ·exact hs t ht
     ·rw [List.getElem?_eq_none (by omega), List.getElem?_eq_none (by omega)]
    rw [decide_eq_true this]
   | succ m ih =>
    intro i j hi hj hs
    obtain ⟨j, rfl⟩ : ∃ i, j = i + 1 := ⟨j - 1, by omega⟩
    show F_aqueductref11_Same.l0_b _ _ _ _ _ = _
    unfold F_aqueductref11_Same.l0_b
    rw [O.cond_pos (by omega), O.chk_dec (by omega), O.chk_dec (by omega), O.chk_dec (by omega), O.chk_dec (by omega), gt_at _ a i (by omega), gt_at _ b i (by omega), i64_in _ (by omega)]
    by_cases he : a[i] = b[i]
    ·rw [O.cond_neg (by simpa using he)]
     refine ih (i + 1) j (by omega) (by omega) fun t ht => ?_
     by_cases h' : t < i
     ·exact hs t h'
     ·obtain rfl : t = i := by omega
      rw [List.getElem?_eq_getElem (by omega), List.getElem?_eq_getElem (by omega), he]
    ·rw [O.cond_pos he, decide_eq_false]
     intro e
     subst e
     exact he rfl
  exact lp a.length 0 k (by omega) hk (fun t ht => by omega)
 ·rw [O.cond_pos (by omega), decide_eq_false]
  intro e
  rw [e] at hl
  exact hl rfl
def z0 : G0 × G1 := ((List.replicate 3 (0, []), List.replicate 3 ([], 2, 0), (0, 0, 0, 0, 0, 0)), (9, 9, []))
def z1 : G0 × G1 := (inB z0.1 z0.2 0 (fromB 1 2)).2
def z2 : G0 × G1 := (inB z1.1 z1.2 1 (fromB 2 1)).2
def z3 : G0 × G1 := (inB z2.1 z2.2 0 (fromB 3 1)).2
def z4 : G0 := (z3.1.1, (outB z3.1.2.1 2).2, z3.1.2.2)
theorem st0 : stOk 3 z0.1 z0.2 = true := by kernel_rfl
theorem st1 : stOk 3 z1.1 z1.2 = true := by kernel_rfl
theorem st2 : stOk 3 z2.1 z2.2 = true := by kernel_rfl
theorem st3 : stOk 3 z3.1 z3.2 = true := by kernel_rfl
theorem st4 : stOk 3 z4 z3.2 = true := by kernel_rfl
end Go.Proofs.YtkihcmcaignmkaaGreat
end
section
namespace Go.Proofs.YtkihcmcaignmkaaGreat
open Go.Aq Go.IntWalk
set_option linter.unusedVariables false
theorem fixed_S (k : Nat) (hk : 32 ≤ k) : F_aqueductlaw20_fixed.S k = .ok true := by
 have p3 : PortsOk k (List.replicate (3 : Int).toNat ((0 : Int), ([] : List Int))) := ⟨by decide, fun m hm => by rw [List.eq_of_mem_replicate hm]; exact ⟨by show 0 < k; omega, Nat.zero_le _⟩⟩
 have p0 : PortsOk k ([] : List (Int × List Int)) := ⟨Nat.zero_le _, fun m hm => by cases hm⟩
 have n1 : F_bridge_New.S k (List.replicate (3 : Int).toNat ((0 : Int), [])) (9 : Int) (9 : Int) (2 : Int) = .ok (.inr (0, z0)) := (new_S k _ _ _ _ (by omega) p3).trans (by kernel_rfl)
 have n2 : F_bridge_New.S k [] (9 : Int) (9 : Int) (2 : Int) = .ok (.inl 200) := (new_S k _ _ _ _ (by omega) p0).trans (by kernel_rfl)
 have n3 : F_bridge_New.S k (List.replicate (3 : Int).toNat ((0 : Int), [])) (0 : Int) (9 : Int) (2 : Int) = .ok (.inl 180) := (new_S k _ _ _ _ (by omega) p3).trans (by kernel_rfl)
 have n4 : F_bridge_New.S k (List.replicate (3 : Int).toNat ((0 : Int), [])) (9 : Int) (9 : Int) (0 : Int) = .ok (.inl 190) := (new_S k _ _ _ _ (by omega) p3).trans (by kernel_rfl)
 have i1 : F_bridge_Bridge_In.S k (0 : Int) (fromB 1 2) z0.1 z0.2 = .ok ((([1, 2] : List Int), 0), z1) := (In_ok k hk (by decide) 0 _ (stOk_is st0) (by decide)).trans (by kernel_rfl)
 have i2 : F_bridge_Bridge_In.S k (1 : Int) (fromB 2 1) z1.1 z1.2 = .ok ((([0] : List Int), 0), z2) := (In_ok k hk (by decide) 1 _ (stOk_is st1) (by decide)).trans (by kernel_rfl)
 have i3 : F_bridge_Bridge_In.S k (0 : Int) (fromB 3 1) z2.1 z2.2 = .ok ((([] : List Int), 0), z3) := (In_ok k hk (by decide) 0 _ (stOk_is st2) (by decide)).trans (by kernel_rfl)
 have i4 : F_bridge_Bridge_In.S k (3 : Int) (fromB 3 1) z3.1 z3.2 = .ok (([], 1), z3.1, z3.2) := In_out k 3 _ _ _ (.inr (by rw [(stOk_is st3).len]; decide))
 have o1 : F_bridge_Bridge_Out.S k (2 : Int) z3.1 z3.2 = .ok ((fromB 1 2, true), z4, z3.2) := (Out_S k 2 z3.1 z3.2 (by rw [(stOk_is st3).len]; decide) (by rw [(stOk_is st3).len]; exact (stOk_is st3).lanes)).trans (by kernel_rfl)
 have o2 : F_bridge_Bridge_Out.S k (2 : Int) z4 z3.2 = .ok ((⟨#[]⟩, false), z4, z3.2) := (Out_S k 2 z4 z3.2 (by rw [(stOk_is st4).len]; decide) (by rw [(stOk_is st4).len]; exact (stOk_is st4).lanes)).trans (by kernel_rfl)
 unfold F_aqueductlaw20_fixed.S
 rw [O.chk_dec (by decide), n1, O.sum_inr, n2, O.sum_inl, O.chk_dec (by decide), n3, O.sum_inl, O.chk_dec (by decide), n4, O.sum_inl]
 try rw [O.cond_false]
 rw [O.cond_neg (show ¬ (0 : Int) ≠ 0 by decide), from_S, O.bind_ok, i1, O.bind_ok, from_S, O.bind_ok, i2, O.bind_ok, from_S, O.bind_ok, i3, O.bind_ok, O.bind_ok, i4, O.bind_ok, o1, O.bind_ok, o2, O.bind_ok,
  O.cond_pos rfl, O.cond_pos rfl, O.cond_pos rfl, same_S k _ _ (by show 2 < k; omega) (by decide), O.bind_ok, decide_eq_true rfl, O.cond_true, O.cond_pos rfl, same_S k _ _ (by show 1 < k; omega) (by decide), O.bind_ok, decide_eq_true rfl, O.cond_true, O.cond_pos rfl, O.cond_pos rfl, O.cond_pos rfl, O.cond_pos rfl, O.bind_ok, O.cond_pos rfl, O.cond_true]
 have inv : Inv z3.2 := inv_learn (inv_learn (inv_learn (inv_new 9 9 (by decide) (by decide)) _ _ _) _ _ _) _ _ _
 have cc : (decide (z4.2.2.1 = 3) && (decide (z4.2.2.2.1 = 0) && (decide (z4.2.2.2.2.1 = 0) && (decide (z4.2.2.2.2.2.1 = 1) && (decide (z4.2.2.2.2.2.2.1 = 3) && (decide (z4.2.2.2.2.2.2.2 = 0) && true)))))) = true := by kernel_rfl
 have l1 : ¬ (1 : Int) ≥ (z4.1.length : Int) := by rw [(stOk_is st4).len]; decide
 have l2 : 0 ≤ (1 : Int) ∧ (1 : Int) < (z4.2.1.length : Int) := by rw [(stOk_is st4).lanes.1]; decide
 have l3 : ((gt dL z4.2.1 1).1.length : Int) = 1 := by kernel_rfl
 have l4 : (z3.2.2.2.length : Int) = 3 := by kernel_rfl
 dsimp only
 rw [O.cond_pos (show (([] : List Int).length : Int) = 0 from rfl), Bool.not_false, O.cond_true, cc, O.cond_true, O.cond_neg l1, O.chk_dec l2, O.chk_dec l2, O.cond_pos l3, Rows_S k inv, O.bind_ok]
 dsimp only
 rw [rows_len, l4]
 rfl
end Go.Proofs.YtkihcmcaignmkaaGreat
end
section
namespace Go.Proofs.YtkihcmcaignmkaaGreat
open Go.Aq Go.IntWalk
set_option linter.unusedVariables false
end Go.Proofs.YtkihcmcaignmkaaGreat
end
section
namespace Go.Proofs.YtkihcmcaignmkaaGreat
open Go.Aq Go.IntWalk
set_option linter.unusedVariables false
theorem nets_S (k : Nat) (l : List Int) (hk : l.length < k) (hl : l.length ≤ 1000000) : F_aqueductref16_Nets.S k l = .ok (mayL (-1) l) := by
 unfold F_aqueductref16_Nets.S F_aqueductref16_Nets.top
 have lp : ∀ (m i j : Nat) (last : Int), i + m = l.length → m < j → ((i = 0 ∧ last = -1) ∨ (0 < i ∧ gt 0 l ((i - 1 : Nat) : Int) = last ∧ 0 ≤ last)) → F_aqueductref16_Nets.l0 k l j (i : Int) = .ok (mayL last (l.drop i)) := by
  intro m
  induction m with
  | zero =>
   intro i j last hi hj hs
   obtain ⟨j, rfl⟩ : ∃ i, j = i + 1 := ⟨j - 1, by omega⟩
   show F_aqueductref16_Nets.l0_b _ _ _ _ = _
   unfold F_aqueductref16_Nets.l0_b
   rw [O.cond_neg (by omega), List.drop_eq_nil_of_le (by omega)]
   rfl
  | succ m ih =>
   intro i j last hi hj hs
   obtain ⟨j, rfl⟩ : ∃ i, j = i + 1 := ⟨j - 1, by omega⟩
   show F_aqueductref16_Nets.l0_b _ _ _ _ = _
   unfold F_aqueductref16_Nets.l0_b
   have hil : i < l.length := by omega
   have hd : l.drop i = l[i] :: l.drop (i + 1) := (List.getElem_cons_drop (h := hil)).symm
   have go := fun (h0 : 0 ≤ l[i]) => ih (i + 1) j l[i] (by omega) (by omega) (.inr ⟨by omega, by rw [show i + 1 - 1 = i from rfl]; exact gt_at 0 l i hil, h0⟩)
   rw [O.cond_pos (by omega), O.chk_dec (by omega), O.chk_dec (by omega), gt_at 0 l i hil, hd, mayL]
   by_cases h1 : l[i] < 0
   ·rw [O.cond_pos h1, if_pos (.inl (by omega))]
   rw [O.cond_neg h1, O.chk_dec (by omega), O.chk_dec (by omega)]
   by_cases h2 : l[i] > 4094
   ·rw [O.cond_pos h2, if_pos (.inr h2)]
   rw [O.cond_neg h2]
   by_cases h3 : 0 < i
   ·have hw : IntKind.i64.wrap ((i : Int) - 1) = ((i - 1 : Nat) : Int) := by rw [i64_in _ (by omega)]; omega
    obtain ⟨_, h4, h5⟩ : 0 < i ∧ gt 0 l ((i - 1 : Nat) : Int) = last ∧ 0 ≤ last := hs.resolve_left (fun h => by omega)
    rw [O.cond_pos (by omega), O.chk_dec (by omega), O.chk_dec (by omega), hw, O.chk_dec (by omega), O.chk_dec (by omega), h4]
    by_cases h6 : l[i] ≤ last
    ·rw [O.cond_pos h6, if_pos (.inl h6)]
    ·rw [O.cond_neg h6, if_neg (by omega), i64_in _ (by omega)]
     exact go (by omega)
   ·have : last = -1 := (hs.resolve_right (fun h => h3 h.1)).2
    rw [O.cond_neg (by omega), if_neg (by omega), i64_in _ (by omega)]
    exact go (by omega)
 have := lp l.length 0 k (-1) (by omega) hk (.inl ⟨rfl, rfl⟩)
 rw [List.drop_zero] at this
 exact this
def finR {γ : Type} (ps : List (Int × List Int)) (room ticks size : Int) (b : Bool) : Int ⊕ (Int × G0 × (Int × Int × List γ)) :=
 if b = false then .inl 200 else if ¬ (1 ≤ room ∧ room ≤ 1024 ∧ 1 ≤ ticks ∧ ticks ≤ 65535) then .inl 180
 else if ¬ (1 ≤ size ∧ size ≤ 1024) then .inl 190 else .inr (0, (ps, List.replicate ps.length ([], size, 0), (0, 0, 0, 0, 0, 0)), room, ticks, [])
theorem rfdb_S (k : Nat) (room ticks : Int) : F_aqueductref18_New.S k room ticks = .ok (if 1 ≤ room ∧ room ≤ 1024 ∧ 1 ≤ ticks ∧ ticks ≤ 65535 then .inr (0, room, ticks, []) else .inl 180) := by
 unfold F_aqueductref18_New.S
 by_cases h1 : room < 1
 ·rw [O.cond_pos h1, if_neg (by omega)]
 rw [O.cond_neg h1]
 by_cases h2 : room > 1024
 ·rw [O.cond_pos h2, if_neg (by omega)]
 rw [O.cond_neg h2]
 by_cases h3 : ticks < 1
 ·rw [O.cond_pos h3, if_neg (by omega)]
 rw [O.cond_neg h3]
 by_cases h4 : ticks > 65535
 ·rw [O.cond_pos h4, if_neg (by omega)]
 rw [O.cond_neg h4, if_pos (by omega)]
theorem rlane_S (k : Nat) (size : Int) : F_aqueductref19_New.S k size = .ok (if 1 ≤ size ∧ size ≤ 1024 then .inr (0, [], size, 0) else .inl 190) := by
 unfold F_aqueductref19_New.S
 by_cases h1 : size < 1
 ·rw [O.cond_pos h1, if_neg (by omega)]
 rw [O.cond_neg h1]
 by_cases h2 : size > 1024
 ·rw [O.cond_pos h2, if_neg (by omega)]
 rw [O.cond_neg h2, if_pos (by omega)]
theorem rnew_l3 (k : Nat) (ps : List (Int × List Int)) (size : Int) (r : Int × Int × Int × List (Int × ByteArray × Int × Int)) (R : Bool → Int → O (Int ⊕ (Int × G0 × (Int × Int × List (Int × ByteArray × Int × Int))))) (hl : ps.length ≤ 1000000) (hs : 1 ≤ size ∧ size ≤ 1024) :
  ∀ (m i j : Nat), i + m = ps.length → m < j → F_aqueductref20_New.l3 k ps size r R j (i : Int) (List.replicate i ([], size, 0)) = .ok (.inr (0, (ps, List.replicate ps.length ([], size, 0), (0, 0, 0, 0, 0, 0)), r.2)) := by
 intro m
 induction m with
 | zero =>
  intro i j hi hj
  obtain ⟨j, rfl⟩ : ∃ i, j = i + 1 := ⟨j - 1, by omega⟩
  obtain rfl : i = ps.length := by omega
  show F_aqueductref20_New.l3_b _ _ _ _ _ _ _ _ = _
  unfold F_aqueductref20_New.l3_b
  rw [O.cond_neg (by omega)]
 | succ m ih =>
  intro i j hi hj
  obtain ⟨j, rfl⟩ : ∃ i, j = i + 1 := ⟨j - 1, by omega⟩
  show F_aqueductref20_New.l3_b _ _ _ _ _ _ _ _ = _
  unfold F_aqueductref20_New.l3_b
  rw [O.cond_pos (by omega), rlane_S, if_pos hs, O.sum_inr, O.cond_neg (show ¬ (0 : Int) ≠ 0 by decide), O.chk_dec (by rw [List.length_replicate]; omega), i64_in _ (by omega)]
  have := ih (i + 1) j (by omega) (by omega)
  rw [List.replicate_succ'] at this
  exact this
theorem rnew_l3_no (k : Nat) (ps : List (Int × List Int)) (size : Int) (r : Int × Int × Int × List (Int × ByteArray × Int × Int)) (R : Bool → Int → O (Int ⊕ (Int × G0 × (Int × Int × List (Int × ByteArray × Int × Int))))) (hl : 1 ≤ ps.length) (hs : ¬ (1 ≤ size ∧ size ≤ 1024)) (hk : 0 < k) :
  F_aqueductref20_New.l3 k ps size r R k 0 [] = .ok (.inl 190) := by
 obtain ⟨j, rfl⟩ : ∃ i, k = i + 1 := ⟨k - 1, by omega⟩
 show F_aqueductref20_New.l3_b _ _ _ _ _ _ _ _ = _
 unfold F_aqueductref20_New.l3_b
 rw [O.cond_pos (by omega), rlane_S, if_neg hs, O.sum_inl, O.cond_pos (by decide)]
theorem rnew_S (k : Nat) (ps : List (Int × List Int)) (room ticks size : Int) (hk : ps.length < k) (hp : PortsOk k ps) : F_aqueductref20_New.S k ps room ticks size = .ok (finR ps room ticks size (decide (1 ≤ ps.length ∧ ps.length ≤ 16) && ps.all mayB)) := by
 have hpl := hp.1
 have lp : ∀ (m i j : Nat) (b : Bool), i + m = ps.length → m < j → (b = true → 1 ≤ ps.length) → F_aqueductref20_New.l1 k ps room ticks size j b (i : Int) = .ok (finR ps room ticks size (b && (ps.drop i).all mayB)) := by
  intro m
  induction m with
  | zero =>
   intro i j b hi hj hb
   obtain ⟨j, rfl⟩ : ∃ i, j = i + 1 := ⟨j - 1, by omega⟩
   show F_aqueductref20_New.l1_b _ _ _ _ _ _ _ _ _ _ = _
   unfold F_aqueductref20_New.l1_b finR
   rw [O.cond_neg (by omega), List.drop_eq_nil_of_le (by omega)]
   cases b with
   | false => rw [Bool.not_false, O.cond_true, if_pos (by simp)]
   | true =>
    rw [Bool.not_true, O.cond_false, if_neg (by simp), rfdb_S]
    by_cases h1 : 1 ≤ room ∧ room ≤ 1024 ∧ 1 ≤ ticks ∧ ticks ≤ 65535
    ·rw [if_pos h1, if_neg (by simpa using h1), O.sum_inr, O.cond_neg (show ¬ (0 : Int) ≠ 0 by decide)]
     by_cases h2 : 1 ≤ size ∧ size ≤ 1024
     ·rw [if_neg (by simpa using h2)]
      exact rnew_l3 k ps size _ _ hpl h2 ps.length 0 k (by omega) hk
     ·rw [if_pos h2]
      exact rnew_l3_no k ps size _ _ (hb rfl) h2 (by omega)
    ·rw [if_neg h1, if_pos h1, O.sum_inl, O.cond_pos (by decide)]
  | succ m ih =>
   intro i j b hi hj hb
   obtain ⟨j, rfl⟩ : ∃ i, j = i + 1 := ⟨j - 1, by omega⟩
   show F_aqueductref20_New.l1_b _ _ _ _ _ _ _ _ _ _ = _
   unfold F_aqueductref20_New.l1_b
   have hil : i < ps.length := by omega
   have hd : ps.drop i = ps[i] :: ps.drop (i + 1) := (List.getElem_cons_drop (h := hil)).symm
   have hm := hp.2 _ (List.getElem_mem hil)
   rw [O.cond_pos (by omega), i64_in _ (by omega), hd, List.all_cons]
   have go := fun c hc => ih (i + 1) j c (by omega) (by omega) hc
   cases b with
   | false =>
    rw [O.cond_false]
    exact go false (fun h => by cases h)
   | true =>
    have no : ∀ c, c = false → F_aqueductref20_New.l1 k ps room ticks size j false ((i : Int) + 1) = .ok (finR ps room ticks size (true && (c && (ps.drop (i + 1)).all mayB))) := fun c hc => by
     subst hc
     exact go false (fun h => by cases h)
    rw [O.cond_true, O.chk_dec (by omega), O.chk_dec (by omega), gt_at _ ps i hil]
    unfold mayB at no ⊢
    by_cases h1 : ps[i].1 ≥ 0
    ·rw [O.cond_pos h1, O.chk_dec (by omega), O.chk_dec (by omega)]
     by_cases h2 : ps[i].1 ≤ 4094
     ·rw [O.cond_pos h2, O.chk_dec (by omega), O.chk_dec (by omega), nets_S k _ hm.1 hm.2, O.bind_ok, decide_eq_true (show 0 ≤ ps[i].1 ∧ ps[i].1 ≤ 4094 from ⟨h1, h2⟩), Bool.and_true]
      exact go _ (fun _ => hb rfl)
     ·rw [O.cond_neg h2]
      exact no _ (by rw [decide_eq_false (fun h => h2 h.2), Bool.and_false])
    ·rw [O.cond_neg h1]
     exact no _ (by rw [decide_eq_false (fun h => h1 h.1), Bool.and_false])
 unfold F_aqueductref20_New.S F_aqueductref20_New.top
 have key : ∀ b : Bool, (b = true → 1 ≤ ps.length) → F_aqueductref20_New.j1 k ps room ticks size b = .ok (finR ps room ticks size (b && ps.all mayB)) := fun b hb => by
  have := lp ps.length 0 k b (by omega) hk hb
  rw [List.drop_zero] at this
  exact this
 by_cases h1 : 1 ≤ ps.length
 ·rw [O.cond_pos (by omega)]
  refine (key _ (fun _ => h1)).trans ?_
  congr 3
  by_cases h2 : ps.length ≤ 16
  ·rw [decide_eq_true (show ((ps.length : Int) ≤ 16) by omega), decide_eq_true (show 1 ≤ ps.length ∧ ps.length ≤ 16 from ⟨h1, h2⟩)]
  ·rw [decide_eq_false (show ¬ ((ps.length : Int) ≤ 16) by omega), decide_eq_false (show ¬ (1 ≤ ps.length ∧ ps.length ≤ 16) from fun h => h2 h.2)]
 ·rw [O.cond_neg (by omega)]
  refine (key false (fun h => by cases h)).trans ?_
  rw [decide_eq_false (show ¬ (1 ≤ ps.length ∧ ps.length ≤ 16) from fun h => h1 h.1)]
def trimB (ps : List (Int × List Int)) : List (Int × List Int) := (ps.take 17).map fun m => (m.1, m.2.take 20)
def okW (ps : List (Int × List Int)) (room ticks size : Int) : Prop := (1 ≤ ps.length ∧ ps.length ≤ 16 ∧ ps.all mayB = true) ∧ (1 ≤ room ∧ room ≤ 1024 ∧ 1 ≤ ticks ∧ ticks ≤ 65535) ∧ 1 ≤ size ∧ size ≤ 1024
def g0W (ps : List (Int × List Int)) (size : Int) : G0 := (ps, List.replicate ps.length ([], size, 0), (0, 0, 0, 0, 0, 0))
theorem newB_fin (ps : List (Int × List Int)) (room ticks size : Int) : newB ps room ticks size = finR ps room ticks size (decide (1 ≤ ps.length ∧ ps.length ≤ 16) && ps.all mayB) := by
 unfold newB finR
 by_cases h1 : ps.length < 1 ∨ 16 < ps.length ∨ ps.all mayB = false
 ·rw [if_pos h1, if_pos (c := (decide (1 ≤ ps.length ∧ ps.length ≤ 16) && ps.all mayB) = false) (by
   rcases h1 with h | h | h
   ·rw [decide_eq_false (by omega), Bool.false_and]
   ·rw [decide_eq_false (by omega), Bool.false_and]
   ·rw [h, Bool.and_false])]
 ·have h1' : 1 ≤ ps.length ∧ ps.length ≤ 16 := by
   constructor
   ·exact Nat.le_of_not_lt fun h => h1 (.inl h)
   ·exact Nat.le_of_not_lt fun h => h1 (.inr (.inl h))
  have h1a : ps.all mayB = true := by
   cases h : ps.all mayB with
   | true => rfl
   | false => exact absurd (.inr (.inr h)) h1
  rw [if_neg h1, if_neg (c := (decide (1 ≤ ps.length ∧ ps.length ≤ 16) && ps.all mayB) = false) (by rw [decide_eq_true h1', h1a]; simp)]
theorem both_new (k : Nat) (ps : List (Int × List Int)) (room ticks size : Int) (hk : 17 < k) (hkl : ps.length < k) (hp : PortsOk k ps) :
  (okW ps room ticks size ∧ F_bridge_New.S k ps room ticks size = .ok (.inr (0, g0W ps size, (room, ticks, []))) ∧ F_aqueductref20_New.S k ps room ticks size = .ok (.inr (0, g0W ps size, (room, ticks, [])))) ∨
  ∃ e : Int, F_bridge_New.S k ps room ticks size = .ok (.inl e) ∧ F_aqueductref20_New.S k ps room ticks size = .ok (.inl e) := by
 rw [new_S k ps room ticks size hk hp, rnew_S k ps room ticks size hkl hp, newB_fin]
 unfold finR
 split
 ·exact .inr ⟨200, rfl, rfl⟩
 ·rename_i h1
  split
  ·exact .inr ⟨180, rfl, rfl⟩
  ·rename_i h2
   split
   ·exact .inr ⟨190, rfl, rfl⟩
   ·rename_i h3
    rw [Bool.not_eq_false, Bool.and_eq_true, decide_eq_true_eq] at h1
    exact .inl ⟨⟨⟨h1.1.1, h1.1.2, h1.2⟩, Decidable.not_not.1 h2, Decidable.not_not.1 h3⟩, rfl, rfl⟩
theorem trim_ok {ps : List (Int × List Int)} {k : Nat} (hk : 32 ≤ k) : PortsOk k (trimB ps) := by
 refine ⟨?_, fun m hm => ?_⟩
 ·unfold trimB
  rw [List.length_map, List.length_take]; omega
 ·obtain ⟨x, _, rfl⟩ := List.mem_map.1 hm
  show (x.2.take 20).length < k ∧ (x.2.take 20).length ≤ 1000000
  rw [List.length_take]; omega
theorem laid_l0 (k : Nat) (hk : 32 ≤ k) (a : (List (Int × List Int)) × Int × Int × Int × (List (Int × Int × ByteArray))) (h1 : a.1.length ≤ 9223372036854775807) (h2 : ∀ m ∈ a.1, m.2.length ≤ 9223372036854775807) :
  ∀ (m i j : Nat), i + m = 17 → m < j → F_aqueductlaw20_laid.l0 k a j (i : Int) (trimB (a.1.take i)) = F_aqueductlaw20_laid.j2 k a (trimB a.1) := by
 intro m
 have ov : ∀ i, 17 ≤ i ∨ a.1.length ≤ i → trimB (a.1.take i) = trimB a.1 := fun i hi => by
  unfold trimB
  rw [List.take_take]
  rcases hi with hi | hi
  ·rw [Nat.min_eq_left hi]
  ·by_cases h : 17 ≤ i
   ·rw [Nat.min_eq_left h]
   ·rw [Nat.min_eq_right (by omega), List.take_of_length_le hi, List.take_of_length_le (by omega)]
 induction m with
 | zero =>
  intro i j hi hj
  obtain ⟨j, rfl⟩ : ∃ i, j = i + 1 := ⟨j - 1, by omega⟩
  show F_aqueductlaw20_laid.l0_b _ _ _ _ _ _ = _
  unfold F_aqueductlaw20_laid.l0_b
  rw [ov i (.inl (by omega)), O.cond_dec]
  split
  ·rw [O.cond_neg (show ¬ ((i : Int) < (17 : Int)) by omega)]
  ·rfl
 | succ m ih =>
  intro i j hi hj
  obtain ⟨j, rfl⟩ : ∃ i, j = i + 1 := ⟨j - 1, by omega⟩
  show F_aqueductlaw20_laid.l0_b _ _ _ _ _ _ = _
  unfold F_aqueductlaw20_laid.l0_b
  by_cases hil : i < a.1.length
  ·have hm := h2 _ (List.getElem_mem hil)
   have hs : sub a.1[i].2 (sumI []) (min (a.1[i].2.length : Int) (20 : Int)) = a.1[i].2.take 20 := by
    unfold sub sumI
    rw [show (0 : Int).toNat = 0 from rfl, List.drop_zero]
    by_cases h : a.1[i].2.length ≤ 20
    ·rw [Int.min_eq_left (by omega), Int.toNat_natCast, List.take_of_length_le (Nat.le_refl _), List.take_of_length_le h]
    ·rw [Int.min_eq_right (by omega)]; rfl
   have ht : trimB (a.1.take i) ++ [(a.1[i].1, a.1[i].2.take 20)] = trimB (a.1.take (i + 1)) := by
    unfold trimB
    rw [List.take_take, List.take_take, Nat.min_eq_right (by omega), Nat.min_eq_right (by omega), List.take_add_one (l := a.1) (i := i), List.getElem?_eq_getElem hil, List.map_append]
    rfl
   have hle : (trimB (a.1.take i)).length + 1 ≤ 1073741824 := by unfold trimB; rw [List.length_map, List.length_take]; omega
   rw [O.cond_pos (by omega), O.cond_pos (by omega), O.chk_dec (by omega), O.chk_dec (by omega), O.chk_dec (by omega), O.chk_dec (by omega), O.twice_eq, O.chk_dec (by omega), O.chk_dec (by omega), gt_at _ a.1 i hil]
   have c1 : (decide (0 ≤ (min (a.1[i].2.length : Int) (20 : Int)) ∧ (min (a.1[i].2.length : Int) (20 : Int)) ≤ (a.1[i].2.length : Int)) && decide (0 ≤ (a.1[i].2.length : Int) ∧ (a.1[i].2.length : Int) ≤ (a.1[i].2.length : Int))) = true := by
    rw [Bool.and_eq_true, decide_eq_true_eq, decide_eq_true_eq]; omega
   rw [c1, O.chk_true, O.chk_dec (by omega), O.chk_dec hle, hs, ht, i64_in _ (by omega)]
   exact ih (i + 1) j (by omega) (by omega)
  ·rw [O.cond_neg (by omega), ov i (.inr (by omega))]
theorem laid_S (k : Nat) (hk : 100 ≤ k) (a : (List (Int × List Int)) × Int × Int × Int × (List (Int × Int × ByteArray))) (h1 : a.1.length ≤ 9223372036854775807) (h2 : ∀ m ∈ a.1, m.2.length ≤ 9223372036854775807) :
  (okW (trimB a.1) a.2.1 a.2.2.1 a.2.2.2.1 ∧ F_aqueductlaw20_laid.S k a = .ok (.inr (.inr (.inr (true, g0W (trimB a.1) a.2.2.2.1, (a.2.1, a.2.2.1, []), g0W (trimB a.1) a.2.2.2.1, (a.2.1, a.2.2.1, [])))))) ∨
  F_aqueductlaw20_laid.S k a = .ok (.inl true) := by
 have hl : F_aqueductlaw20_laid.S k a = F_aqueductlaw20_laid.j2 k a (trimB a.1) := laid_l0 k (by omega) a h1 h2 17 0 k rfl (by omega)
 have hlen : (trimB a.1).length ≤ 17 := by unfold trimB; rw [List.length_map, List.length_take]; omega
 rw [hl]
 unfold F_aqueductlaw20_laid.j2 F_aqueductlaw20_laid.j2_b
 rcases both_new k (trimB a.1) a.2.1 a.2.2.1 a.2.2.2.1 (by omega) (by omega) (trim_ok (by omega)) with ⟨h, e1, e2⟩ | ⟨e, e1, e2⟩
 ·refine .inl ⟨h, ?_⟩
  rw [e1, O.sum_inr, e2, O.sum_inr, O.cond_pos rfl]
 ·refine .inr ?_
  rw [e1, O.sum_inl, e2, O.sum_inl, O.cond_pos rfl]
theorem g0W_ok {ps : List (Int × List Int)} {room ticks size : Int} (h : okW (trimB ps) room ticks size) : StOk (trimB ps).length (g0W (trimB ps) size) (room, ticks, []) :=
 ⟨rfl, fun m hm => by
  obtain ⟨x, _, rfl⟩ := List.mem_map.1 hm
  show (x.2.take 20).length ≤ 20
  rw [List.length_take]; omega, ⟨List.length_replicate, fun x hx => by
  rw [List.eq_of_mem_replicate hx]
  have := h.2.2
  exact ⟨this.2, Nat.zero_le _⟩⟩, fun e he => by cases he⟩
end Go.Proofs.YtkihcmcaignmkaaGreat
end
section
namespace Go.Proofs.YtkihcmcaignmkaaGreat
open Go.Aq Go.IntWalk
set_option linter.unusedVariables false
def tot : List LaneT → Nat
 | [] => 0
 | x :: r => x.1.length + tot r
structure InSays (n : Nat) (x : G0) (t : G1) (r : (List Int × Int) × G0 × G1) : Prop where
 err : r.1.2 = 0
 ok : StOk n r.2.1 r.2.2
 ports : r.2.1.1 = x.1
 len : r.1.1.length ≤ 17
 cIn : r.2.1.2.2.1 = x.2.2.1 + 1
 que : r.2.1.2.2.2.2.2.2.1 = x.2.2.2.2.2.2.1 + r.1.1.length
 wait : tot r.2.1.2.1 = tot x.2.1 + r.1.1.length
 none : ∃ a b c d : Int, 0 ≤ a ∧ 0 ≤ b ∧ 0 ≤ c ∧ a + b + c ≤ 1 ∧ 0 ≤ d ∧ d ≤ 17 ∧ r.2.1.2.2.2.1 = x.2.2.2.1 + a ∧ r.2.1.2.2.2.2.1 = x.2.2.2.2.1 + b ∧ r.2.1.2.2.2.2.2.1 = x.2.2.2.2.2.1 + c ∧ r.2.1.2.2.2.2.2.2.2 = x.2.2.2.2.2.2.2 + d ∧ (a + b + c = 1 → r.1.1.length = 0 ∧ d = 0)
theorem Out_out (k : Nat) (port : Int) (g0 : G0) (g1 : G1) (h : port < 0 ∨ (g0.1.length : Int) ≤ port) : F_bridge_Bridge_Out.S k port g0 g1 = .ok ((⟨#[]⟩, false), g0, g1) := by
 unfold F_bridge_Bridge_Out.S
 by_cases h1 : port < 0
 ·rw [O.cond_pos h1]
 ·rw [O.cond_neg h1, O.cond_pos (by omega)]
end Go.Proofs.YtkihcmcaignmkaaGreat
end
section
namespace Go.Proofs.YtkihcmcaignmkaaGreat
open Go.Aq Go.IntWalk
set_option linter.unusedVariables false
def allF (m : ByteArray) (i : Nat) : Bool := (List.range i).all fun t => decide (bt m (t : Int) = 255)
theorem allF_succ (m : ByteArray) (i : Nat) : allF m (i + 1) = (allF m i && decide (bt m (i : Int) = 255)) := by
 unfold allF
 rw [List.range_succ, List.all_append]; simp
theorem u8_low : ∀ n : Fin 256, decide (bAnd .u8 ((n.val : Nat) : Int) (1 : Int) = (1 : Int)) = decide (Int.tmod (IntKind.i64.wrap ((n.val : Nat) : Int)) (2 : Int) = (1 : Int)) := by decide +kernel
theorem six {m : ByteArray} (h : m.size = 6) : ∃ a b c d e f, m.data.toList = [a, b, c, d, e, f] := by
 have hl : m.data.toList.length = 6 := by rw [Array.length_toList]; exact h
 revert hl
 generalize m.data.toList = l
 intro hl
 match l, hl with
 | [a, b, c, d, e, f], _ => exact ⟨a, b, c, d, e, f, rfl⟩
theorem all_six {m : ByteArray} (h : m.size = 6) : allF m 6 = decide (m = (⟨#[255, 255, 255, 255, 255, 255]⟩ : ByteArray)) := by
  obtain ⟨a, b, c, d, e, f, hl⟩ := six h
  have hb : ∀ x : UInt8, ((x.toNat : Nat) : Int) = 255 ↔ x = 255 := by
    intro x
    constructor
    · intro h; exact UInt8.toNat_inj.1 (by have : x.toNat = 255 := by omega
                                           rw [this]; rfl)
    · rintro rfl; rfl
  rw [Bool.eq_iff_iff, decide_eq_true_eq]
  have h0 : ∀ t : Nat, t < 6 → bt m (t : Int) = ((([a, b, c, d, e, f] : List UInt8).getD t 0).toNat : Int) := by
    intro t _
    unfold bt
    rw [hl, Int.toNat_natCast]
  constructor
  · intro hh
    refine ba_ext ?_
    rw [hl]
    unfold allF at hh
    rw [List.all_eq_true] at hh
    have g : ∀ t, t < 6 → ([a, b, c, d, e, f] : List UInt8).getD t 0 = 255 := fun t ht => (hb _).1 (by
      have := hh t (by simpa using ht)
      rw [decide_eq_true_eq, h0 t ht] at this
      exact this)
    have g0 := g 0 (by omega); have g1 := g 1 (by omega); have g2 := g 2 (by omega); have g3 := g 3 (by omega); have g4 := g 4 (by omega); have g5 := g 5 (by omega)
    simp at g0 g1 g2 g3 g4 g5
    rw [g0, g1, g2, g3, g4, g5]
  · intro hm
    have e : ([a, b, c, d, e, f] : List UInt8) = [255, 255, 255, 255, 255, 255] := by rw [← hl, hm]
    unfold allF
    rw [List.all_eq_true]
    intro t ht
    have ht : t < 6 := by simpa using ht
    rw [decide_eq_true_eq, h0 t ht, e]
    have : t = 0 ∨ t = 1 ∨ t = 2 ∨ t = 3 ∨ t = 4 ∨ t = 5 := by omega
    rcases this with rfl | rfl | rfl | rfl | rfl | rfl <;> rfl
theorem rKind_S (k : Nat) (hk : 8 ≤ k) (m : ByteArray) : F_aqueductref05_Kind.S k m = .ok (kindB m) := by
 unfold F_aqueductref05_Kind.S F_aqueductref05_Kind.top
 by_cases h : m.size = 6
 ·rw [O.cond_neg (by omega)]
  have lp : ∀ (n i j : Nat), i + n = 6 → n < j → F_aqueductref05_Kind.l0 k m j (allF m i) (i : Int) = .ok (kindB m) := by
   intro n
   induction n with
   | zero =>
    intro i j hi hj
    obtain ⟨j, rfl⟩ : ∃ i, j = i + 1 := ⟨j - 1, by omega⟩
    obtain rfl : i = 6 := by omega
    show F_aqueductref05_Kind.l0_b _ _ _ _ _ = _
    unfold F_aqueductref05_Kind.l0_b kindB
    rw [O.cond_neg (by omega), if_neg (by omega), all_six h, O.cond_dec]
    split
    ·rfl
    ·have hb : ∃ n : Fin 256, bt m (0 : Int) = ((n.val : Nat) : Int) := ⟨⟨(m.data.toList.getD 0 0).toNat, UInt8.toNat_lt _⟩, rfl⟩
     obtain ⟨n, hn⟩ := hb
     have hc := u8_low n
     rw [O.chk_dec (by omega), hn, ← hc, O.cond_dec]
     split <;> rfl
   | succ n ih =>
    intro i j hi hj
    obtain ⟨j, rfl⟩ : ∃ i, j = i + 1 := ⟨j - 1, by omega⟩
    show F_aqueductref05_Kind.l0_b _ _ _ _ _ = _
    unfold F_aqueductref05_Kind.l0_b
    have nx := ih (i + 1) j (by omega) (by omega)
    rw [allF_succ] at nx
    rw [O.cond_pos (by omega), i64_in _ (by omega)]
    cases ha : allF m i with
    | true =>
     rw [ha, Bool.true_and] at nx
     rw [O.cond_true, O.chk_dec (by omega)]
     exact nx
    | false =>
     rw [ha, Bool.false_and] at nx
     rw [O.cond_false]
     exact nx
  exact lp 6 0 k (by omega) (by omega)
 ·rw [O.cond_pos (by omega)]
  unfold kindB
  rw [if_pos h]
end Go.Proofs.YtkihcmcaignmkaaGreat
end
section
namespace Go.Proofs.YtkihcmcaignmkaaGreat
open Go.Aq Go.IntWalk
set_option linter.unusedVariables false
theorem rPut_S (k : Nat) (hk : 9 ≤ k) (v : Int) (n : Nat) (hv : 0 ≤ v ∧ v < 18446744073709551616) (hn : 1 ≤ n ∧ n ≤ 8) :
  F_aqueductref01_Put.S k v (n : Int) true = .ok (if v < 256 ^ n then (putT v n, 0) else (⟨#[]⟩, 1)) := by
 have lp : ∀ (m i j : Nat), i + m = n → m < j → ∀ t : ByteArray, t.size = i → F_aqueductref01_Put.l0 k (n : Int) true j (v / 256 ^ i) t (putT v i) (i : Int) = .ok (if v < 256 ^ n then (putT v n, 0) else (⟨#[]⟩, 1)) := by
  intro m
  induction m with
  | zero =>
   intro i j hi hj t ht
   obtain ⟨j, rfl⟩ : ∃ i, j = i + 1 := ⟨j - 1, by omega⟩
   obtain rfl : i = n := by omega
   show F_aqueductref01_Put.l0_b k _ _ _ _ _ _ _ = _
   unfold F_aqueductref01_Put.l0_b
   have hp : (0 : Int) < 256 ^ i := Int.pow_pos (by decide)
   rw [O.cond_neg (by omega)]
   by_cases h : v < 256 ^ i
   ·rw [if_pos h, Int.ediv_eq_zero_of_lt hv.1 h, O.cond_neg (by omega), O.cond_true]
   ·have h1 : 1 ≤ v / 256 ^ i := by rw [Int.le_ediv_iff_mul_le hp]; omega
    rw [if_neg h, O.cond_pos (by omega)]
  | succ m ih =>
   intro i j hi hj t ht
   obtain ⟨j, rfl⟩ : ∃ i, j = i + 1 := ⟨j - 1, by omega⟩
   show F_aqueductref01_Put.l0_b k _ _ _ _ _ _ _ = _
   unfold F_aqueductref01_Put.l0_b
   have h0 : 0 ≤ v / 256 ^ i := Int.ediv_nonneg hv.1 (Int.pow_nonneg (by decide))
   have h1 : v / 256 ^ i ≤ v := Int.ediv_le_self _ hv.1
   have e : IntKind.u8.wrap (Int.tmod (v / 256 ^ i) 256) = v / 256 ^ i % 256 := by
    rw [rem_in _ _ h0, u8_in _ (by omega)]
   have e2 : IntKind.u64.wrap (Int.tdiv (v / 256 ^ i) 256) = v / 256 ^ (i + 1) := by
    rw [quo_in _ _ h0, u64_in _ (by omega), Int.pow_succ, Int.ediv_ediv_of_nonneg (Int.pow_nonneg (by decide))]
   have e3 : strOf [v / 256 ^ i % 256] ++ putT v i = putT v (i + 1) := by
    unfold putT; rw [← strOf_app]; rfl
   have hs1 : (strOf [v / 256 ^ i % 256]).size = 1 := by rw [size_strOf]; rfl
   rw [O.cond_pos (by omega), e, e2, e3, O.chk_dec (by rw [hs1]; omega), O.chk_dec (by rw [hs1, putT_size]; omega), i64_in _ (by omega)]
   exact ih (i + 1) j (by omega) (by omega) _ (by rw [app_size, hs1]; omega)
 unfold F_aqueductref01_Put.S F_aqueductref01_Put.top
 rw [O.cond_neg (by omega), O.cond_neg (by omega)]
 have h := lp n 0 k (by omega) (by omega) (⟨#[]⟩) rfl
 simpa [putT, wb, strOf] using h
end Go.Proofs.YtkihcmcaignmkaaGreat
end
section
namespace Go.Proofs.YtkihcmcaignmkaaGreat
open Go.Aq Go.IntWalk
set_option linter.unusedVariables false
theorem rtwo_S (k : Nat) (hk : 9 ≤ k) (v : Int) (hv : 0 ≤ v ∧ v ≤ 65535) : F_aqueductref06_two.S k v = .ok (putT v 2) := by
 unfold F_aqueductref06_two.S
 have := rPut_S k hk v 2 (by omega) (by decide)
 rw [if_pos (by rw [show (256 : Int) ^ 2 = 65536 from rfl]; omega)] at this
 rw [u64_in v (by omega)]
 show O.bind (F_aqueductref01_Put.S k v ((2 : Nat) : Int) true) _ = _
 rw [this, O.bind_ok]
theorem rBuild_S (k : Nat) (hk : 9 ≤ k) (f : EthT) : F_aqueductref06_Build.S k f = .ok (ethB f) := by
 apply O.sat_val
 unfold F_aqueductref06_Build.S
 have bad : ¬ ethOk f → O.sat (.ok ((⟨#[]⟩ : ByteArray), (61 : Int))) fun r => r = ethB f := fun h => O.sat_ok (by unfold ethB; rw [if_neg (fun c => h c.1)])
 refine O.sat_cond (fun h => bad (fun c => by unfold ethOk at c; omega)) fun h1 => ?_
 refine O.sat_cond (fun h => bad (fun c => by unfold ethOk at c; omega)) fun h2 => ?_
 refine O.sat_cond (fun h => bad (fun c => by unfold ethOk at c; omega)) fun h3 => ?_
 refine O.sat_cond (fun h => bad (fun c => by unfold ethOk at c; omega)) fun h4 => ?_
 refine O.sat_cond (fun h => bad (fun c => by unfold ethOk at c; omega)) fun h5 => ?_
 refine O.sat_cond (fun h => bad (fun c => by unfold ethOk at c; omega)) fun h6 => ?_
 refine O.sat_eq (rkind_S k _) ?_
 refine O.sat_condn (fun h => bad (fun c => by unfold ethOk at c; exact h c.2.2.2.2.2.2.2)) fun h9 => ?_
 have key : (f.2.2.1 = -1 → f.2.2.2.1 = 0) → ethOk f ∧ ethB f = if (ethHd f).size + f.2.2.2.2.2.size ≤ 1518 then (ethHd f ++ f.2.2.2.2.2, 0) else (⟨#[]⟩, 61) := fun h => by
  have ok : ethOk f := ⟨by omega, by omega, by omega, by omega, by omega, by omega, h, h9⟩
  refine ⟨ok, ?_⟩
  unfold ethB
  by_cases c : (ethHd f).size + f.2.2.2.2.2.size ≤ 1518
  ·rw [if_pos c, if_pos ⟨ok, c⟩]
  ·rw [if_neg c, if_neg (fun d => c d.2)]
 have my' := h9
 unfold mayP at my'
 refine O.sat_chk (by omega) ?_
 refine O.sat_cond (fun h7 => ?_) fun h7 => ?_
 ·have h7' : ¬ f.2.2.1 = -1 := by omega
  obtain ⟨ok, ee⟩ := key (fun h => absurd h h7')
  have sz := ethHd_size f ok
  have eh : ethHd f = f.1 ++ f.2.1 ++ tagT f ++ putT f.2.2.2.2.1 2 := by unfold ethHd; rw [if_neg h7']
  rw [if_neg h7'] at sz
  refine O.sat_eq (rtwo_S k hk 33024 (by decide)) ?_
  have w : IntKind.i64.wrap (IntKind.i64.wrap ((8192 : Int) * f.2.2.2.1) + f.2.2.1) = f.2.2.2.1 * 8192 + f.2.2.1 := by rw [i64_in (8192 * _) (by omega), i64_in _ (by omega)]; omega
  rw [w]
  refine O.sat_eq (rtwo_S k hk _ (by omega)) ?_
  refine O.sat_chk (by rw [putT_size, putT_size]; omega) ?_
  refine O.sat_chk (by rw [app_size, app_size, putT_size, putT_size]; omega) ?_
  refine O.sat_eq (rtwo_S k hk _ (by omega)) ?_
  show O.sat (O.chk (decide ((((f.1 ++ f.2.1 ++ tagT f).size + (putT f.2.2.2.2.1 2).size : Nat) : Int) ≤ 9223372036854775807)) (O.cond (decide ((f.2.2.2.2.2.size : Int) > IntKind.i64.wrap (1518 - ((f.1 ++ f.2.1 ++ tagT f ++ putT f.2.2.2.2.1 2).size : Int)))) _ (O.chk (decide ((((f.1 ++ f.2.1 ++ tagT f ++ putT f.2.2.2.2.1 2).size + f.2.2.2.2.2.size : Nat) : Int) ≤ 9223372036854775807)) (.ok (f.1 ++ f.2.1 ++ tagT f ++ putT f.2.2.2.2.1 2 ++ f.2.2.2.2.2, 0))))) _
  rw [← eh, ee]
  refine O.sat_chk (by rw [← app_size, ← eh]; omega) ?_
  rw [i64_in (1518 - _) (by omega)]
  refine O.sat_cond (fun h => O.sat_ok (by rw [if_neg (by omega)])) fun h => O.sat_chk (by omega) (O.sat_ok (by rw [if_pos (by omega)]))
 ·have h7' : f.2.2.1 = -1 := by omega
  refine O.sat_cond (fun h => bad (fun c => by unfold ethOk at c; omega)) fun h8 => ?_
  obtain ⟨ok, ee⟩ := key (fun _ => by omega)
  have sz := ethHd_size f ok
  have eh : ethHd f = f.1 ++ f.2.1 ++ putT f.2.2.2.2.1 2 := by unfold ethHd; rw [if_pos h7']
  rw [if_pos h7'] at sz
  refine O.sat_eq (rtwo_S k hk _ (by omega)) ?_
  rw [← eh, ee]
  refine O.sat_chk (by rw [← app_size, ← eh]; omega) ?_
  rw [i64_in (1518 - _) (by omega)]
  refine O.sat_cond (fun h => O.sat_ok (by rw [if_neg (by omega)])) fun h => O.sat_chk (by omega) (O.sat_ok (by rw [if_pos (by omega)]))
theorem rTag_S (k : Nat) (hk : 9 ≤ k) (s : ByteArray) (v : Int) : F_aqueductref06_Tag.S k s v = .ok (tagP s v) := by
 unfold F_aqueductref06_Tag.S tagP
 rw [rethParse_S k s, O.bind_ok, O.cond_dec, O.cond_dec]
 by_cases h : (ethP s).2 ≠ 0
 ·rw [if_pos h, if_pos h]
 ·rw [if_neg h, if_neg h]
  by_cases c : v = -1
  ·rw [if_pos c, if_pos c, rBuild_S k hk, O.bind_ok]
  ·rw [if_neg c, if_neg c, rBuild_S k hk, O.bind_ok]
theorem rLeaves_S (k : Nat) (hk : 9 ≤ k) (m : Int × List Int) (v : Int) (s : ByteArray) : F_aqueductref20_Leaves.S k m v s = .ok (leavesB m v s) := by
 unfold F_aqueductref20_Leaves.S leavesB
 by_cases h : m.1 = v
 ·rw [O.cond_pos h, if_pos h, rTag_S k hk, O.bind_ok]
 ·rw [O.cond_neg h, if_neg h, rTag_S k hk, O.bind_ok]
theorem rIn_S (k : Nat) (xs : List Int) (n : Int) (hk : xs.length < k) (hl : xs.length ≤ 1000000) : F_aqueductref16_Net.S k xs n = .ok (decide (n ∈ xs)) := by
 unfold F_aqueductref16_Net.S F_aqueductref16_Net.top
 have lp : ∀ (m i j : Nat), i + m = xs.length → m < j → F_aqueductref16_Net.l0 k xs n j (i : Int) = .ok (decide (n ∈ xs.drop i)) := by
  intro m
  induction m with
  | zero =>
   intro i j hi hj
   obtain ⟨j, rfl⟩ : ∃ i, j = i + 1 := ⟨j - 1, by omega⟩
   show F_aqueductref16_Net.l0_b _ _ _ _ _ = _
   unfold F_aqueductref16_Net.l0_b
   rw [O.cond_neg (by omega), List.drop_eq_nil_of_le (by omega)]
   rfl
  | succ m ih =>
   intro i j hi hj
   obtain ⟨j, rfl⟩ : ∃ i, j = i + 1 := ⟨j - 1, by omega⟩
   show F_aqueductref16_Net.l0_b _ _ _ _ _ = _
   unfold F_aqueductref16_Net.l0_b
   have hd : xs.drop i = xs[i] :: xs.drop (i + 1) := (List.getElem_cons_drop (h := by omega)).symm
   rw [O.cond_pos (by omega), O.chk_dec (by omega), O.chk_dec (by omega), gt_at _ xs i (by omega), i64_in _ (by omega), hd]
   by_cases he : xs[i] = n
   ·rw [O.cond_pos he, decide_eq_true (List.mem_cons.2 (.inl he.symm))]
   ·rw [O.cond_neg he]
    refine (ih (i + 1) j (by omega) (by omega)).trans ?_
    congr 1
    exact decide_eq_decide.2 ⟨fun h => List.mem_cons_of_mem _ h, fun h => (List.mem_cons.1 h).resolve_left (fun e => he e.symm)⟩
 have := lp xs.length 0 k (by omega) hk
 rw [List.drop_zero] at this
 exact this
theorem rHas_S (k : Nat) (m : Int × List Int) (v : Int) (hk : m.2.length < k) (hl : m.2.length ≤ 1000000) : F_aqueductref20_Has.S k m v = .ok (hasB m v) := by
 unfold F_aqueductref20_Has.S hasB
 by_cases h : m.1 = v
 ·rw [O.cond_pos h]; simp [h]
 ·rw [O.cond_neg h, rIn_S k _ v hk hl, O.bind_ok]; simp [h]
theorem ethP_vlan (s : ByteArray) : -1 ≤ (ethP s).1.2.2.1 := by
 unfold ethP
 repeat' split
 all_goals first | (show (-1 : Int) ≤ 0; decide) | (show (-1 : Int) ≤ -1; decide) | (dsimp only; omega)
def badB (ps : List (Int × List Int)) (v : Int) (s : ByteArray) : Bool := ps.any fun m => hasB m v && decide ((leavesB m v s).2 ≠ 0)
theorem fits_bad (ps : List (Int × List Int)) (v : Int) (s : ByteArray) : fitsB ps v s = !badB ps v s := by
 unfold fitsB badB
 rw [Bool.eq_iff_iff, List.all_eq_true, Bool.not_eq_true', ← Bool.not_eq_true, List.any_eq_true]
 constructor
 ·rintro h ⟨m, hm, hb⟩
  obtain ⟨i, hi, rfl⟩ := List.getElem_of_mem hm
  rw [Bool.and_eq_true, decide_eq_true_eq] at hb
  have := h i (by
   unfold mems
   refine List.mem_filter.2 ⟨List.mem_range.2 hi, ?_⟩
   unfold hasP
   rw [List.getElem?_eq_getElem hi]; exact hb.1)
  rw [decide_eq_true_eq, List.getD_eq_getElem?_getD, List.getElem?_eq_getElem hi] at this
  exact hb.2 this
 ·intro h p hp
  have hl := mems_lt hp
  unfold mems at hp
  have hh := (List.mem_filter.1 hp).2
  unfold hasP at hh
  rw [List.getElem?_eq_getElem hl] at hh
  rw [decide_eq_true_eq, List.getD_eq_getElem?_getD, List.getElem?_eq_getElem hl]
  exact Decidable.by_contra fun hc => h ⟨ps[p], List.getElem_mem hl, by rw [Bool.and_eq_true, decide_eq_true_eq]; exact ⟨hh, hc⟩⟩
theorem rNet_S (k : Nat) (hk : 32 ≤ k) (ps : List (Int × List Int)) (port : Nat) (s : ByteArray) (hp : PortsOk k ps) (hkl : ps.length < k) (hl : port < ps.length) :
  F_aqueductref20_Net.S k ps port s = .ok ((ethP s).1, netB ps port s, decide ((ethP s).2 ≠ 0 ∨ kindB (ethP s).1.2.1 ≠ 1) || !fitsB ps (netB ps port s) s) := by
 have lp : ∀ (v : Int) (m i j : Nat) (b : Bool), i + m = ps.length → m < j → F_aqueductref20_Net.l2 k ps s (ethP s) v j b (i : Int) = .ok ((ethP s).1, v, b || badB (ps.drop i) v s) := by
  intro v m
  induction m with
  | zero =>
   intro i j b hi hj
   obtain ⟨j, rfl⟩ : ∃ i, j = i + 1 := ⟨j - 1, by omega⟩
   show F_aqueductref20_Net.l2_b _ _ _ _ _ _ _ _ = _
   unfold F_aqueductref20_Net.l2_b
   rw [O.cond_neg (by omega), List.drop_eq_nil_of_le (by omega)]
   show _ = O.ok (_, v, b || false)
   rw [Bool.or_false]
  | succ m ih =>
   intro i j b hi hj
   obtain ⟨j, rfl⟩ : ∃ i, j = i + 1 := ⟨j - 1, by omega⟩
   show F_aqueductref20_Net.l2_b _ _ _ _ _ _ _ _ = _
   unfold F_aqueductref20_Net.l2_b
   have hil : i < ps.length := by omega
   have hd : ps.drop i = ps[i] :: ps.drop (i + 1) := (List.getElem_cons_drop (h := hil)).symm
   have hm := hp.2 _ (List.getElem_mem hil)
   have hpl := hp.1
   rw [O.cond_pos (by omega)]
   cases b with
   | true => rw [Bool.not_true, O.cond_false, Bool.true_or]
   | false =>
    have nx := fun c => ih (i + 1) j c (by omega) (by omega)
    have e : badB (ps.drop i) v s = (hasB ps[i] v && decide ((leavesB ps[i] v s).2 ≠ 0) || badB (ps.drop (i + 1)) v s) := by
     rw [hd]; unfold badB; rw [List.any_cons]
    rw [Bool.not_false, O.cond_true, O.chk_dec (by omega), O.chk_dec (by omega), gt_at _ ps i hil, rLeaves_S k (by omega), O.bind_ok, O.chk_dec (by omega), O.chk_dec (by omega), rHas_S k _ v hm.1 hm.2, O.bind_ok, i64_in _ (by omega), Bool.false_or, e]
    cases hasB ps[i] v with
    | true => rw [O.cond_true, Bool.true_and]; exact nx _
    | false => rw [O.cond_false, Bool.false_and]; exact nx _
 have main : ∀ v : Int, F_aqueductref20_Net.j3 k ps s (ethP s) v = .ok ((ethP s).1, v, decide ((ethP s).2 ≠ 0 ∨ kindB (ethP s).1.2.1 ≠ 1) || !fitsB ps v s) := by
  intro v
  have go : ∀ b : Bool, F_aqueductref20_Net.j4 k ps s (ethP s) v b = .ok ((ethP s).1, v, b || !fitsB ps v s) := fun b => by
   have := lp v ps.length 0 k b (by omega) hkl
   rw [List.drop_zero] at this
   rw [fits_bad, Bool.not_not]
   exact this
  unfold F_aqueductref20_Net.j3 F_aqueductref20_Net.j3_b
  by_cases h1 : (ethP s).2 ≠ 0
  ·rw [O.cond_pos h1, decide_eq_true (.inl h1)]
   exact go true
  ·rw [O.cond_neg h1, rKind_S k (by omega), O.bind_ok]
   refine (go _).trans ?_
   congr 4
   exact decide_eq_decide.2 ⟨.inr, fun h => h.resolve_left h1⟩
 unfold F_aqueductref20_Net.S F_aqueductref20_Net.top
 have hv := ethP_vlan s
 rw [rethParse_S k s, O.bind_ok]
 by_cases h : (ethP s).1.2.2.1 < 0
 ·have e : netB ps port s = ps[port].1 := by
   unfold netB
   rw [if_pos (by omega), List.getD_eq_getElem?_getD, List.getElem?_eq_getElem hl]; rfl
  rw [O.cond_pos h, O.chk_dec (by omega), O.chk_dec (by omega), gt_at _ ps port hl, e]
  exact main _
 ·have e : netB ps port s = (ethP s).1.2.2.1 := by unfold netB; rw [if_neg (by omega)]
  rw [O.cond_neg h, e]
  exact main _
end Go.Proofs.YtkihcmcaignmkaaGreat
end
section
namespace Go.Proofs.YtkihcmcaignmkaaGreat
open Go.Aq Go.IntWalk
set_option linter.unusedVariables false
def g1 : GT := (1, 2, [(((0 : Int), ownB 1), (0 : Int), ownB 1, (3 : Int), (0 : Int))])
end Go.Proofs.YtkihcmcaignmkaaGreat
end
section
namespace Go.Proofs.YtkihcmcaignmkaaGreat
open Go.Aq Go.IntWalk
set_option linter.unusedVariables false
end Go.Proofs.YtkihcmcaignmkaaGreat
end
section
namespace Go.Proofs.YtkihcmcaignmkaaGreat
open Go.Aq Go.IntWalk
set_option linter.unusedVariables false
end Go.Proofs.YtkihcmcaignmkaaGreat
end
section
namespace Go.Proofs.YtkihcmcaignmkaaGreat
open Go.Aq Go.IntWalk
set_option linter.unusedVariables false
abbrev HT := Int × Int × List VT
theorem at_S (k : Nat) (v : Int) (m : ByteArray) (g : HT) (hk : g.2.2.length < k) (hl : g.2.2.length ≤ 1000000) :
  ∃ r : Int, F_aqueductref18_Table_at.S k v m g = .ok (r, g) ∧ ((r = -1 ∧ (v, m) ∉ g.2.2.map keyV) ∨ ∃ i : Nat, r = (i : Int) ∧ ∃ h : i < g.2.2.length, keyV (g.2.2[i]) = (v, m)) := by
 unfold F_aqueductref18_Table_at.S F_aqueductref18_Table_at.top
 have lp : ∀ (n i j : Nat), i + n = g.2.2.length → n < j → (∀ t (h : t < g.2.2.length), t < i → keyV (g.2.2[t]) ≠ (v, m)) → ∃ r : Int, F_aqueductref18_Table_at.l0 k v m g j (i : Int) = .ok (r, g) ∧ ((r = -1 ∧ (v, m) ∉ g.2.2.map keyV) ∨ ∃ i : Nat, r = (i : Int) ∧ ∃ h : i < g.2.2.length, keyV (g.2.2[i]) = (v, m)) := by
  intro n
  induction n with
  | zero =>
   intro i j hi hj hno
   obtain ⟨j, rfl⟩ : ∃ i, j = i + 1 := ⟨j - 1, by omega⟩
   refine ⟨-1, ?_, .inl ⟨rfl, fun hm => ?_⟩⟩
   ·show F_aqueductref18_Table_at.l0_b _ _ _ _ _ _ = _
    unfold F_aqueductref18_Table_at.l0_b
    rw [O.cond_neg (by omega)]
   ·obtain ⟨x, hx, he⟩ := List.mem_map.1 hm
    obtain ⟨t, ht, rfl⟩ := List.getElem_of_mem hx
    exact hno t ht (by omega) he
  | succ n ih =>
   intro i j hi hj hno
   obtain ⟨j, rfl⟩ : ∃ i, j = i + 1 := ⟨j - 1, by omega⟩
   have hlt : i < g.2.2.length := by omega
   have nx : keyV (g.2.2[i]) ≠ (v, m) → _ := fun hne => ih (i + 1) j (by omega) (by omega) (fun t h ht => by
    by_cases h' : t < i
    ·exact hno t h h'
    ·obtain rfl : t = i := by omega
     exact hne)
   have un : F_aqueductref18_Table_at.l0 k v m g (j + 1) (i : Int) = O.cond (decide ((g.2.2[i]).1 = v)) (O.cond (decide ((g.2.2[i]).2.1 = m)) (.ok ((i : Int), g)) (F_aqueductref18_Table_at.l0 k v m g j ((i + 1 : Nat) : Int))) (F_aqueductref18_Table_at.l0 k v m g j ((i + 1 : Nat) : Int)) := by
    show F_aqueductref18_Table_at.l0_b _ _ _ _ _ _ = _
    unfold F_aqueductref18_Table_at.l0_b
    rw [O.cond_pos (by omega), O.chk_dec (by omega), O.chk_dec (by omega), O.chk_dec (by omega), O.chk_dec (by omega), gt_at _ g.2.2 i hlt, i64_in _ (by omega)]
    rfl
   rw [un]
   by_cases h1 : (g.2.2[i]).1 = v
   ·rw [O.cond_pos h1]
    by_cases h2 : (g.2.2[i]).2.1 = m
    ·rw [O.cond_pos h2]
     exact ⟨(i : Int), rfl, .inr ⟨i, rfl, hlt, Prod.ext h1 h2⟩⟩
    ·rw [O.cond_neg h2]
     exact nx fun h => h2 (congrArg Prod.snd h)
   ·rw [O.cond_neg h1]
    exact nx fun h => h1 (congrArg Prod.fst h)
 exact lp g.2.2.length 0 k (by omega) (by omega) (fun t _ ht => by omega)
def rput (x : VT) : Bool → List VT → List VT
 | put, [] => if put = true then [] else [x]
 | put, y :: r => if keyV y = keyV x then rput x put r else if put = false ∧ ltV x y = true then x :: y :: rput x true r else y :: rput x put r
def notK (x y : VT) : Bool := !decide (keyV y = keyV x)
theorem rput_true (x : VT) : ∀ l, rput x true l = l.filter (notK x)
 | [] => rfl
 | y :: r => by
  unfold rput
  by_cases h : keyV y = keyV x
  ·rw [if_pos h, rput_true x r]; simp [h, notK]
  ·rw [if_neg h, if_neg (by simp), rput_true x r]; simp [h, notK]
theorem rput_false (x : VT) : ∀ l, rput x false l = ins x (l.filter (notK x))
 | [] => rfl
 | y :: r => by
  unfold rput
  by_cases h : keyV y = keyV x
  ·rw [if_pos h, rput_false x r]; simp [h, notK]
  ·have hf : (y :: r).filter (notK x) = y :: r.filter (notK x) := by simp [h, notK]
   rw [if_neg h, hf]
   unfold ins
   by_cases hl : ltV x y = true
   ·rw [if_pos ⟨rfl, hl⟩, if_pos hl, rput_true]
   ·rw [if_neg (fun h => hl h.2), if_neg hl, rput_false x r]
theorem rput_up (x : VT) {l : List VT} (h : Up l) : Up (rput x false l) := by
 rw [rput_false]
 refine ins_up x _ (List.Pairwise.filter _ h) fun y hy e => ?_
 have := (List.mem_filter.1 hy).2
 simp [notK, e] at this
theorem rput_perm (x : VT) (l : List VT) : (rput x false l).Perm (x :: l.filter (notK x)) := by
 rw [rput_false]; exact ins_perm _ _
theorem sLt_flip (a b : ByteArray) : (!(sLt a b || decide (a = b))) = sLt b a := by
 cases h : sLt b a with
 | true =>
  rw [sLt_asymm h]
  have : a ≠ b := fun e => by rw [e, sLt_irrefl] at h; cases h
  simp [this]
 | false =>
  cases h' : sLt a b with
  | true => rfl
  | false => simp [sLt_total h' h]
theorem ltV_code (v : Int) (m : ByteArray) (p a : Int) (y : VT) {α : Type} (A B : O α) : O.cond (decide (y.1 > v)) A (O.cond (decide (y.1 = v)) (O.cond (!(sLt y.2.1 m || decide (y.2.1 = m))) A B) B) = O.cond (ltV (v, m, p, a) y) A B := by
 unfold ltV
 rw [sLt_flip]
 by_cases h1 : y.1 > v
 ·rw [O.cond_pos h1, decide_eq_true (show v < y.1 from h1), Bool.true_or, O.cond_true]
 ·rw [O.cond_neg h1, decide_eq_false (show ¬ v < y.1 from h1), Bool.false_or]
  by_cases h2 : y.1 = v
  ·rw [O.cond_pos h2, decide_eq_true (show v = y.1 from h2.symm), Bool.true_and]
  ·rw [O.cond_neg h2, decide_eq_false (show ¬ v = y.1 from fun h => h2 h.symm), Bool.false_and, O.cond_false]
theorem put_S (k : Nat) (v : Int) (m : ByteArray) (p : Int) (l : List VT) (room ticks : Int) (hk : l.length < k) (hl : l.length ≤ 1000000) :
  F_aqueductref18_Table_Learn.l1 k v m p l room ticks k false (0 : Int) [] = .ok (true, room, ticks, rput (v, m, p, (0 : Int)) false l) := by
 have lp : ∀ (n i j : Nat) (put : Bool) (acc : List VT), i + n = l.length → n < j → acc.length ≤ 2 * i → F_aqueductref18_Table_Learn.l1 k v m p l room ticks j put (i : Int) acc = .ok (true, room, ticks, acc ++ rput (v, m, p, (0 : Int)) put (l.drop i)) := by
  intro n
  induction n with
  | zero =>
   intro i j put acc hi hj ha
   obtain ⟨j, rfl⟩ : ∃ i, j = i + 1 := ⟨j - 1, by omega⟩
   show F_aqueductref18_Table_Learn.l1_b _ _ _ _ _ _ _ _ _ _ _ = _
   unfold F_aqueductref18_Table_Learn.l1_b
   rw [O.cond_neg (by omega), List.drop_eq_nil_of_le (by omega)]
   cases put with
   | true => rw [Bool.not_true, O.cond_false]; simp [rput]
   | false => rw [Bool.not_false, O.cond_true, O.chk_dec (by simp; omega)]; simp [rput]
  | succ n ih =>
   intro i j put acc hi hj ha
   obtain ⟨j, rfl⟩ : ∃ i, j = i + 1 := ⟨j - 1, by omega⟩
   have hlt : i < l.length := by omega
   have e2 : IntKind.i64.wrap ((i : Int) + 1) = ((i + 1 : Nat) : Int) := by rw [i64_in _ (by omega)]; omega
   show F_aqueductref18_Table_Learn.l1_b _ _ _ _ _ _ _ _ _ _ _ = _
   unfold F_aqueductref18_Table_Learn.l1_b
   rw [O.cond_pos (by omega), O.chk_dec (by omega), O.chk_dec (by omega), gt_at _ l i hlt, e2, List.drop_eq_getElem_cons hlt]
   generalize l[i] = y
   have c1 : List.length acc + List.length [y] ≤ 1073741824 := by simp; omega
   have c2 : List.length acc + List.length [((v, m, p, (0 : Int)) : VT)] ≤ 1073741824 := by simp; omega
   have c3 : List.length (acc ++ [((v, m, p, (0 : Int)) : VT)]) + List.length [y] ≤ 1073741824 := by simp; omega
   rw [O.chk_dec c1, O.chk_dec c2, O.chk_dec c3]
   simp only [ltV_code v m p 0 y]
   by_cases hkey : keyV y = (v, m)
   ·have h1 : y.1 = v := congrArg Prod.fst hkey
    have h2 : y.2.1 = m := congrArg Prod.snd hkey
    rw [O.cond_pos h1, O.cond_pos h2, ih (i + 1) j put acc (by omega) (by omega) (by omega)]
    conv => rhs; unfold rput
    rw [if_pos (show keyV y = keyV ((v, m, p, (0 : Int)) : VT) from hkey)]
   ·have rest : O.cond (!put) (O.cond (ltV (v, m, p, 0) y) (F_aqueductref18_Table_Learn.l1 k v m p l room ticks j true ((i + 1 : Nat) : Int) (acc ++ [(v, m, p, (0 : Int))] ++ [y])) (F_aqueductref18_Table_Learn.l1 k v m p l room ticks j put ((i + 1 : Nat) : Int) (acc ++ [y]))) (F_aqueductref18_Table_Learn.l1 k v m p l room ticks j put ((i + 1 : Nat) : Int) (acc ++ [y])) = .ok (true, room, ticks, acc ++ rput (v, m, p, (0 : Int)) put (y :: l.drop (i + 1))) := by
     conv => rhs; unfold rput
     rw [if_neg (show ¬ keyV y = keyV ((v, m, p, (0 : Int)) : VT) from hkey)]
     cases put with
     | true =>
      rw [Bool.not_true, O.cond_false, ih (i + 1) j true _ (by omega) (by omega) (by simp; omega), if_neg (by simp)]
      simp
     | false =>
      rw [Bool.not_false, O.cond_true]
      cases hlv : ltV (v, m, p, 0) y with
      | true =>
       rw [O.cond_true, if_pos ⟨rfl, rfl⟩]
       rw [ih (i + 1) j true _ (by omega) (by omega) (by simp; omega)]
       simp
      | false =>
       rw [O.cond_false, ih (i + 1) j false _ (by omega) (by omega) (by simp; omega), if_neg (by simp)]
       simp
    by_cases h1 : y.1 = v
    ·have h2 : ¬ y.2.1 = m := fun h2 => hkey (Prod.ext h1 h2)
     rw [O.cond_pos h1, O.cond_neg h2]
     exact rest
    ·rw [O.cond_neg h1]
     exact rest
 have := lp l.length 0 k false [] (by omega) hk (by simp)
 simpa using this
def hasK (k : KT) (l : List VT) : Bool := l.any fun x => decide (keyV x = k)
theorem hasK_iff {k : KT} {l : List VT} : hasK k l = true ↔ k ∈ l.map keyV := by
 unfold hasK
 rw [List.any_eq_true, List.mem_map]
 constructor
 ·rintro ⟨e, he, h⟩; exact ⟨e, he, by simpa using h⟩
 ·rintro ⟨e, he, h⟩; exact ⟨e, he, by simpa using h⟩
theorem hasK_not {k : KT} {l : List VT} : hasK k l = false ↔ k ∉ l.map keyV := by rw [← hasK_iff, Bool.not_eq_true]
def learnH (v : Int) (m : ByteArray) (p : Int) (g : HT) : Bool × HT :=
 if okLearn v m p = true then (if hasK (v, m) g.2.2 = false ∧ g.1 ≤ (g.2.2.length : Int) then (false, g) else (true, g.1, g.2.1, rput (v, m, p, (0 : Int)) false g.2.2)) else (false, g)
theorem rLearn_S (k : Nat) (v : Int) (m : ByteArray) (p : Int) (g : HT) (hk : g.2.2.length + 8 < k) (hl : g.2.2.length ≤ 1000000) : F_aqueductref18_Table_Learn.S k v m p g = .ok (learnH v m p g) := by
 unfold F_aqueductref18_Table_Learn.S F_aqueductref18_Table_Learn.top learnH okLearn
 rw [rKind_S k (by omega), O.bind_ok]
 by_cases h1 : v < 0
 ·rw [O.cond_pos h1, if_neg (by simp; omega)]
 rw [O.cond_neg h1]
 by_cases h2 : v > 4094
 ·rw [O.cond_pos h2, if_neg (by simp; omega)]
 rw [O.cond_neg h2]
 by_cases h3 : kindB m ≠ 1
 ·rw [O.cond_pos h3, if_neg (by simp [h3])]
 rw [O.cond_neg h3]
 by_cases h4 : p < 0
 ·rw [O.cond_pos h4, if_neg (by simp; omega)]
 rw [O.cond_neg h4]
 by_cases h5 : p > 15
 ·rw [O.cond_pos h5, if_neg (by simp; omega)]
 rw [O.cond_neg h5, if_pos (by simp; omega)]
 have hp := put_S k v m p g.2.2 g.1 g.2.1 (by omega) hl
 obtain ⟨r, hr, hc⟩ := at_S k v m g (by omega) hl
 rw [hr, O.bind_ok]
 rcases hc with ⟨rfl, hc⟩ | ⟨i, rfl, hi, hc⟩
 ·rw [O.cond_pos (by omega), O.twice_eq]
  by_cases h7 : g.1 ≤ (g.2.2.length : Int)
  ·rw [O.cond_pos h7, if_pos ⟨hasK_not.2 hc, h7⟩]
  ·rw [O.cond_neg h7, if_neg (fun h => h7 h.2)]
   exact hp
 ·rw [O.cond_neg (by omega), O.twice_eq, if_neg]
  ·exact hp
  ·intro h
   exact hasK_not.1 h.1 (List.mem_map.2 ⟨g.2.2[i], List.getElem_mem hi, hc⟩)
def bumpV (t : Int) (x : VT) : Option VT := if t ≤ (upV x).2.2.2 then none else some (upV x)
theorem rTick_S (k : Nat) (g : HT) (hk : g.2.2.length < k) (hl : g.2.2.length ≤ 1000000) :
  F_aqueductref18_Table_Tick.S k g = .ok (IntKind.i64.wrap ((g.2.2.length : Int) - ((g.2.2.filterMap (bumpV g.2.1)).length : Int)), g.1, g.2.1, g.2.2.filterMap (bumpV g.2.1)) := by
 unfold F_aqueductref18_Table_Tick.S F_aqueductref18_Table_Tick.top
 have lp : ∀ (n i j : Nat) (acc : List VT), i + n = g.2.2.length → n < j → acc.length ≤ i → F_aqueductref18_Table_Tick.l0 k g j (i : Int) acc = .ok (IntKind.i64.wrap ((g.2.2.length : Int) - ((acc ++ (g.2.2.drop i).filterMap (bumpV g.2.1)).length : Int)), g.1, g.2.1, acc ++ (g.2.2.drop i).filterMap (bumpV g.2.1)) := by
  intro n
  induction n with
  | zero =>
   intro i j acc hi hj ha
   obtain ⟨j, rfl⟩ : ∃ i, j = i + 1 := ⟨j - 1, by omega⟩
   show F_aqueductref18_Table_Tick.l0_b _ _ _ _ _ = _
   unfold F_aqueductref18_Table_Tick.l0_b
   rw [O.cond_neg (by omega), List.drop_eq_nil_of_le (by omega)]
   simp
  | succ n ih =>
   intro i j acc hi hj ha
   obtain ⟨j, rfl⟩ : ∃ i, j = i + 1 := ⟨j - 1, by omega⟩
   have hlt : i < g.2.2.length := by omega
   have e2 : IntKind.i64.wrap ((i : Int) + 1) = ((i + 1 : Nat) : Int) := by rw [i64_in _ (by omega)]; omega
   show F_aqueductref18_Table_Tick.l0_b _ _ _ _ _ = _
   unfold F_aqueductref18_Table_Tick.l0_b
   rw [O.cond_pos (by omega), O.chk_dec (by omega), O.chk_dec (by omega), gt_at _ g.2.2 i hlt, e2, List.drop_eq_getElem_cons hlt, List.filterMap_cons]
   generalize g.2.2[i] = y
   by_cases hb : g.2.1 ≤ (upV y).2.2.2
   ·have e : bumpV g.2.1 y = none := if_pos hb
    rw [O.cond_neg (by show ¬ (upV y).2.2.2 < g.2.1; omega), ih (i + 1) j acc (by omega) (by omega) (by omega), e]
   ·have e : bumpV g.2.1 y = some (upV y) := if_neg hb
    rw [O.cond_pos (by show (upV y).2.2.2 < g.2.1; omega), O.chk_dec (by simp; omega), ih (i + 1) j _ (by omega) (by omega) (by simp; omega), e]
    simp [upV]
 have := lp g.2.2.length 0 k [] (by omega) hk (by simp)
 simpa using this
end Go.Proofs.YtkihcmcaignmkaaGreat
end
section
namespace Go.Proofs.YtkihcmcaignmkaaGreat
open Go.Aq Go.IntWalk
set_option linter.unusedVariables false
theorem nodup_key {K V : Type} : ∀ {es : List (K × V)} {a b : K × V}, (es.map (·.1)).Nodup → a ∈ es → b ∈ es → a.1 = b.1 → a = b
 | [], a, b, _, ha, _, _ => by cases ha
 | e :: es, a, b, hn, ha, hb, h => by
  rw [List.map_cons, List.nodup_cons] at hn
  rcases List.mem_cons.1 ha with ha1 | ha1
  ·rcases List.mem_cons.1 hb with hb1 | hb1
   ·rw [ha1, hb1]
   ·exact absurd (List.mem_map.2 ⟨b, hb1, by rw [← h, ha1]⟩) hn.1
  ·rcases List.mem_cons.1 hb with hb1 | hb1
   ·exact absurd (List.mem_map.2 ⟨a, ha1, by rw [h, hb1]⟩) hn.1
   ·exact nodup_key hn.2 ha1 hb1 h
structure Both (g : GT) (h : HT) : Prop where
 inv : Inv g
 up : Up h.2.2
 perm : h.2.2.Perm (vals g)
 room : g.1 = h.1
 ticks : g.2.1 = h.2.1
 small : g.1 ≤ 1024
theorem Both.rows {g : GT} {h : HT} (b : Both g h) : isort (vals g) = h.2.2 := isort_is b.perm b.up
theorem Both.len {g : GT} {h : HT} (b : Both g h) : h.2.2.length = g.2.2.length := by rw [b.perm.length_eq]; simp [vals]
theorem Both.keys {g : GT} {h : HT} (b : Both g h) (k : KT) : k ∈ h.2.2.map keyV ↔ mhas g.2.2 k = true := by
 rw [mhas_iff, ← b.inv.keys]
 exact (b.perm.map keyV).mem_iff
theorem vals_put : ∀ (es : List (KT × VT)) (x : VT), (es.map (·.1)).Nodup → (∀ e ∈ es, keyV e.2 = e.1) → ((mput es (keyV x) x).map (·.2)).Perm (x :: (es.map (·.2)).filter (notK x))
 | [], x, _, _ => List.Perm.refl _
 | e :: es, x, hn, hk => by
  rw [List.map_cons, List.nodup_cons] at hn
  have he := hk e (by simp)
  unfold mput
  by_cases h : e.1 = keyV x
  ·rw [if_pos h, List.map_cons, List.map_cons, List.filter_cons_of_neg (by simp [notK, he, h])]
   have : (es.map (·.2)).filter (notK x) = es.map (·.2) := by
    rw [List.filter_eq_self]
    intro y hy
    obtain ⟨e', he', rfl⟩ := List.mem_map.1 hy
    have : keyV e'.2 ≠ keyV x := by
     rw [hk e' (by simp [he']), ← h]
     intro hh
     exact hn.1 (hh ▸ List.mem_map.2 ⟨e', he', rfl⟩)
    simp [notK, this]
   rw [this]
  ·rw [if_neg h, List.map_cons, List.map_cons, List.filter_cons_of_pos (by simp [notK, he, h])]
   exact ((vals_put es x hn.2 (fun e' he' => hk e' (by simp [he']))).cons e.2).trans (List.Perm.swap x e.2 _)
theorem Both.learn {g : GT} {h : HT} (b : Both g h) (v : Int) (m : ByteArray) (p : Int) : (learnG v m p g).1 = (learnH v m p h).1 ∧ Both (learnG v m p g).2 (learnH v m p h).2 := by
 have hi := inv_learn b.inv v m p
 have hkk := b.keys (v, m)
 have hl := b.len
 have hr := b.room
 unfold learnG learnH at *
 by_cases ho : okLearn v m p = true
 ·rw [if_pos ho] at hi ⊢
  rw [if_pos ho]
  by_cases hc : mhas g.2.2 (v, m) = false ∧ g.1 ≤ (g.2.2.length : Int)
  ·rw [if_pos hc, if_pos ⟨hasK_not.2 fun hm => by rw [hkk.1 hm] at hc; exact absurd hc.1 (by simp), by omega⟩]
   exact ⟨rfl, b⟩
  ·rw [if_neg hc] at hi ⊢
   rw [if_neg (fun hh => hc ⟨by
    cases hx : mhas g.2.2 (v, m) with
    | false => rfl
    | true => exact absurd (hkk.2 hx) (hasK_not.1 hh.1), by omega⟩)]
   refine ⟨rfl, hi, rput_up _ b.up, ?_, b.room, b.ticks, b.small⟩
   refine (rput_perm _ _).trans (((b.perm.filter _).cons _).trans ?_)
   exact (vals_put g.2.2 (v, m, p, (0 : Int)) b.inv.nodup b.inv.key).symm
 ·rw [if_neg ho, if_neg ho]
  exact ⟨rfl, b⟩
theorem vals_tick (t : Int) : ∀ es : List (KT × VT), (tickE t es).map (·.2) = (es.map (·.2)).filterMap (bumpV t)
 | [] => rfl
 | e :: es => by
  have ih := vals_tick t es
  unfold tickE bumpE at ih ⊢
  rw [List.map_cons, List.filterMap_cons, List.filterMap_cons]
  unfold bumpV at ih ⊢
  by_cases h : t ≤ (upV e.2).2.2.2
  ·rw [if_pos h, if_pos h]; exact ih
  ·rw [if_neg h, if_neg h]; simp only [List.map_cons]; rw [ih]
theorem Both.tick {g : GT} {h : HT} (b : Both g h) : Both (tickG g) (h.1, h.2.1, h.2.2.filterMap (bumpV h.2.1)) := by
 refine ⟨inv_tick b.inv, ?_, ?_, b.room, b.ticks, b.small⟩
 ·show Up (h.2.2.filterMap (bumpV h.2.1))
  unfold Up
  rw [List.pairwise_filterMap]
  refine List.Pairwise.imp ?_ b.up
  intro x y hxy x' hx y' hy
  unfold bumpV at hx hy
  split at hx
  ·cases hx
  ·split at hy
   ·cases hy
   ·cases hx; cases hy
    rw [ltV_key (x := upV x) (y := upV y) (x' := x) (y' := y) rfl rfl]; exact hxy
 ·show (h.2.2.filterMap (bumpV h.2.1)).Perm ((tickE g.2.1 g.2.2).map (·.2))
  rw [vals_tick, b.ticks]
  exact b.perm.filterMap _
end Go.Proofs.YtkihcmcaignmkaaGreat
end
section
namespace Go.Proofs.YtkihcmcaignmkaaGreat
open Go.Aq Go.IntWalk
set_option linter.unusedVariables false
def LanesR (n : Nat) (ls : List LaneT) : Prop := ls.length = n ∧ ∀ x ∈ ls, x.2.1 ≤ 1024 ∧ (x.1.length : Int) ≤ x.2.1
theorem LanesR.ok {n : Nat} {ls : List LaneT} (h : LanesR n ls) : LanesOk n ls := ⟨h.1, fun x hx => by have := h.2 x hx; omega⟩
theorem LanesR.su {n : Nat} {ls : List LaneT} (h : LanesR n ls) (i : Int) (x : LaneT) (hx : x.2.1 ≤ 1024 ∧ (x.1.length : Int) ≤ x.2.1) : LanesR n (su ls i x) := by
 refine ⟨by unfold Go.Aq.su; rw [List.length_set]; exact h.1, fun y hy => ?_⟩
 unfold Go.Aq.su at hy
 rcases List.mem_or_eq_of_mem_set hy with hy | hy
 ·exact h.2 y hy
 ·rw [hy]; exact hx
theorem LanesR.gt {n : Nat} {ls : List LaneT} (h : LanesR n ls) {p : Nat} (hp : p < n) : (Go.Aq.gt dL ls (p : Int)).2.1 ≤ 1024 ∧ ((Go.Aq.gt dL ls (p : Int)).1.length : Int) ≤ (Go.Aq.gt dL ls (p : Int)).2.1 := by
 rw [gt_at dL ls p (by rw [h.1]; exact hp)]
 exact h.2 _ (List.getElem_mem _)
theorem send_r (ps : List (Int × List Int)) (v : Int) (s : ByteArray) (n : Nat) : ∀ (l took : List Int) (ls : List LaneT) (q f : Int), (∀ p ∈ l, 0 ≤ p ∧ p < (n : Int)) → LanesR n ls → LanesR n (sendL ps v s l took ls q f).2.1
 | [], took, ls, q, f, _, hL => hL
 | p :: r, took, ls, q, f, hr, hL => by
  obtain ⟨p0, p1⟩ := hr p List.mem_cons_self
  obtain ⟨p, rfl⟩ : ∃ n : Nat, p = (n : Int) := ⟨p.toNat, by omega⟩
  have hg := hL.gt (show p < n by omega)
  rw [sendL]
  split
  ·exact send_r ps v s n r _ _ _ _ (fun x h => hr x (List.mem_cons_of_mem _ h)) (hL.su _ _ hg)
  ·exact send_r ps v s n r _ _ _ _ (fun x h => hr x (List.mem_cons_of_mem _ h)) (hL.su _ _ ⟨hg.1, by simp; omega⟩)
abbrev HR := Int × Int × List VT
theorem Both.get {t : GT} {u : HT} (b : Both t u) {k : KT} {i : Nat} (hi : i < u.2.2.length) (hk : keyV (u.2.2[i]) = k) : mhas t.2.2 k = true ∧ mget seenD t.2.2 k = u.2.2[i] := by
 have hm : u.2.2[i] ∈ vals t := (b.perm.mem_iff).1 (List.getElem_mem hi)
 unfold vals at hm
 obtain ⟨e, he, hv⟩ := List.mem_map.1 hm
 have hek := b.inv.key e he
 rw [hv, hk] at hek
 have hh : mhas t.2.2 k = true := mhas_iff.2 (List.mem_map.2 ⟨e, he, hek.symm⟩)
 have hg := mget_mem seenD hh
 have := nodup_key b.inv.nodup hg he (by rw [← hek])
 refine ⟨hh, ?_⟩
 rw [← hv, ← this]
theorem rto_S (k : Nat) (hk : 2000 ≤ k) (port : Nat) (v : Int) (dst : ByteArray) (x : G0) (t : GT) (u : HT) (b : Both t u) (hp : PortsOk k x.1) (hkl : x.1.length < k) (hT : TabOk x.1.length t) :
  F_aqueductref20_Bridge_to.S k port v dst x u = .ok (toB x.1 t.2.2 port v dst, x, u) := by
 have hlen : u.2.2.length ≤ 1024 := by have := b.len; have := b.inv.len; have := b.small; omega
 have hpl := hp.1
 have flood : ∀ (m i j : Nat), i + m = x.1.length → m < j → F_aqueductref20_Bridge_to.l1 k port v x u.2.2 u.1 u.2.1 j (i : Int) ((((List.range i).filter (hasP x.1 v)).filter fun p : Nat => decide ((p : Int) ≠ (port : Int))).map fun p : Nat => (p : Int)) = .ok ((((mems x.1 v).filter fun p : Nat => decide ((p : Int) ≠ (port : Int))).map fun p : Nat => (p : Int), false), x, u) := by
  intro m
  induction m with
  | zero =>
   intro i j hi hj
   obtain ⟨j, rfl⟩ : ∃ i, j = i + 1 := ⟨j - 1, by omega⟩
   show F_aqueductref20_Bridge_to.l1_b _ _ _ _ _ _ _ _ _ _ = _
   unfold F_aqueductref20_Bridge_to.l1_b mems
   obtain rfl : i = x.1.length := by omega
   rw [O.cond_neg (by omega)]
  | succ m ih =>
   intro i j hi hj
   obtain ⟨j, rfl⟩ : ∃ i, j = i + 1 := ⟨j - 1, by omega⟩
   show F_aqueductref20_Bridge_to.l1_b _ _ _ _ _ _ _ _ _ _ = _
   unfold F_aqueductref20_Bridge_to.l1_b
   have hil : i < x.1.length := by omega
   have hm := hp.2 _ (List.getElem_mem hil)
   have nx := ih (i + 1) j (by omega) (by omega)
   have hh : hasP x.1 v i = hasB x.1[i] v := by unfold hasP; rw [List.getElem?_eq_getElem hil]
   rw [List.range_succ, List.filter_append, List.filter_append, List.map_append] at nx
   rw [O.cond_pos (by omega), i64_in _ (by omega)]
   by_cases hne : (i : Int) ≠ (port : Int)
   ·rw [O.cond_pos hne, O.chk_dec (by omega), O.chk_dec (by omega), gt_at _ x.1 i hil, rHas_S k _ v hm.1 hm.2, O.bind_ok]
    cases hb : hasB x.1[i] v with
    | true =>
     have hle : ((((List.range i).filter (hasP x.1 v)).filter fun p : Nat => decide ((p : Int) ≠ (port : Int))).map fun p : Nat => (p : Int)).length ≤ i := by
      rw [List.length_map]
      refine Nat.le_trans (List.length_filter_le _ _) (Nat.le_trans (List.length_filter_le _ _) ?_)
      rw [List.length_range]; exact Nat.le_refl _
     rw [O.cond_true, O.chk_dec (by show _ + 1 ≤ _; omega)]
     rw [List.filter_cons_of_pos (by rw [hh, hb]), List.filter_nil, List.filter_cons_of_pos (by simpa using hne), List.filter_nil] at nx
     exact nx
    | false =>
     rw [O.cond_false]
     rw [List.filter_cons_of_neg (by rw [hh, hb]; decide), List.filter_nil, List.filter_nil, List.map_nil, List.append_nil] at nx
     exact nx
   ·rw [O.cond_neg hne]
    have e : ([i].filter (hasP x.1 v)).filter (fun p : Nat => decide ((p : Int) ≠ (port : Int))) = [] := by
     rw [List.filter_eq_nil_iff]
     intro a ha
     obtain ⟨ha, _⟩ := List.mem_filter.1 ha
     rw [List.mem_singleton.1 ha]
     simpa using hne
    rw [e, List.map_nil, List.append_nil] at nx
    exact nx
 have fl := flood x.1.length 0 k (by omega) hkl
 rw [List.range_zero] at fl
 obtain ⟨r, hr, hc⟩ := at_S k v dst u (by omega) (by omega)
 unfold F_aqueductref20_Bridge_to.S F_aqueductref20_Bridge_to.top
 rw [hr, O.bind_ok]
 unfold toB
 rcases hc with ⟨rfl, hn⟩ | ⟨i, rfl, hi, hkey⟩
 ·have hh : ¬ mhas t.2.2 (v, dst) = true := fun c => hn ((b.keys (v, dst)).2 c)
  rw [O.cond_pos (show (-1 : Int) < 0 by decide), if_neg (fun c => hh c.1)]
  show F_aqueductref20_Bridge_to.j2 k port v dst x 0 false u.2.2 u.1 u.2.1 = _
  unfold F_aqueductref20_Bridge_to.j2 F_aqueductref20_Bridge_to.j2_b
  rw [O.cond_false]
  exact fl
 ·obtain ⟨hh, hg⟩ := b.get hi hkey
  have hport := hT _ (mget_mem seenD hh)
  rw [hg] at hport ⊢
  dsimp only
  rw [O.cond_neg (show ¬ (i : Int) < 0 by omega), O.chk_dec (by omega), O.chk_dec (by omega), gt_at _ u.2.2 i hi]
  show F_aqueductref20_Bridge_to.j2 k port v dst x u.2.2[i].2.2.1 true u.2.2 u.1 u.2.1 = _
  unfold F_aqueductref20_Bridge_to.j2 F_aqueductref20_Bridge_to.j2_b
  have hport : 0 ≤ u.2.2[i].2.2.1 ∧ u.2.2[i].2.2.1 < (x.1.length : Int) := hport
  generalize u.2.2[i].2.2.1 = at' at hport ⊢
  rw [O.cond_true, rKind_S k (by omega), O.bind_ok]
  by_cases hk1 : kindB dst = 1
  ·rw [O.cond_pos hk1, if_pos ⟨hh, hk1⟩]
   by_cases he : at' = (port : Int)
   ·rw [O.cond_neg (fun c => c he), if_pos he, decide_eq_true he]
   ·obtain ⟨q, rfl⟩ : ∃ q : Nat, at' = (q : Int) := ⟨at'.toNat, by omega⟩
    have hql : q < x.1.length := by omega
    have hm := hp.2 _ (List.getElem_mem hql)
    rw [O.cond_pos he, if_neg he, O.chk_dec (by omega), O.chk_dec (by omega), gt_at _ x.1 q hql, rHas_S k _ v hm.1 hm.2, O.bind_ok, decide_eq_false he]
    have hh2 : hasP x.1 v q = hasB x.1[q] v := by unfold hasP; rw [List.getElem?_eq_getElem hql]
    rw [Int.toNat_natCast, hh2]
    cases hasB x.1[q] v with
    | true => rw [O.cond_true, O.chk_dec (by show 0 + 1 ≤ 1073741824; decide), if_pos rfl]
    | false => rw [O.cond_false, if_neg (by decide)]
  ·rw [O.cond_neg hk1, if_neg (fun c => hk1 c.2)]
   exact fl
theorem rsend_l1 (k : Nat) (hk : 9 ≤ k) (s : ByteArray) (r2 : EthT × Int × Bool) (sm : Bool) (all : List Int) (x : G0) (u : HR) (v9 : Int) (hall : ∀ p ∈ all, 0 ≤ p ∧ p < (x.1.length : Int)) (hal : all.length ≤ 1000000) :
  ∀ (m i j : Nat) (took : List Int) (ls : List LaneT) (q f : Int), i + m = all.length → m < j → LanesR x.1.length ls → took.length ≤ i →
   F_aqueductref20_Bridge_In.l1 k s r2 ((all, sm), x, u) v9 j (i : Int) took ls q f = .ok (((sendL x.1 r2.2.1 s (all.drop i) took ls q f).1, 0), ((x.1, (sendL x.1 r2.2.1 s (all.drop i) took ls q f).2.1, (x.2.2.1, x.2.2.2.1, x.2.2.2.2.1, v9, (sendL x.1 r2.2.1 s (all.drop i) took ls q f).2.2.1, (sendL x.1 r2.2.1 s (all.drop i) took ls q f).2.2.2)), u)) := by
 intro m
 induction m with
 | zero =>
  intro i j took ls q f hi hj hL ht
  obtain ⟨j, rfl⟩ : ∃ i, j = i + 1 := ⟨j - 1, by omega⟩
  show F_aqueductref20_Bridge_In.l1_b _ _ _ _ _ _ _ _ _ _ _ = _
  unfold F_aqueductref20_Bridge_In.l1_b
  rw [O.cond_neg (by show ¬ (i : Int) < (all.length : Int); omega), List.drop_eq_nil_of_le (by omega)]
  rfl
 | succ m ih =>
  intro i j took ls q f hi hj hL ht
  obtain ⟨j, rfl⟩ : ∃ i, j = i + 1 := ⟨j - 1, by omega⟩
  show F_aqueductref20_Bridge_In.l1_b _ _ _ _ _ _ _ _ _ _ _ = _
  unfold F_aqueductref20_Bridge_In.l1_b
  have hil : i < all.length := by omega
  have hd : all.drop i = all[i] :: all.drop (i + 1) := (List.getElem_cons_drop (h := hil)).symm
  obtain ⟨h0, h1⟩ := hall all[i] (List.getElem_mem hil)
  obtain ⟨p, hp⟩ : ∃ p : Nat, all[i] = (p : Int) := ⟨all[i].toNat, by omega⟩
  have hpl : p < x.1.length := by omega
  have hgi : gt (0 : Int) all (i : Int) = (p : Int) := by rw [gt_at _ all i hil, hp]
  have hgd : x.1.getD (p : Int).toNat (0, []) = x.1[p] := by rw [Int.toNat_natCast, List.getD_eq_getElem?_getD, List.getElem?_eq_getElem hpl]; rfl
  have hx := hL.gt hpl
  have hll := hL.1
  dsimp only
  rw [O.cond_pos (show (i : Int) < (all.length : Int) by omega), O.chk_dec (by omega), O.chk_dec (by omega), hgi, O.chk_dec (by omega), O.chk_dec (by omega), gt_at _ x.1 p hpl, rLeaves_S k hk, O.bind_ok, O.chk_dec (by omega), O.chk_dec (by omega), O.chk_dec (by omega), O.chk_dec (by omega), i64_in _ (by omega), hd, hp]
  by_cases hf : ((gt dL ls (p : Int)).1.length : Int) = (gt dL ls (p : Int)).2.1
  ·rw [O.cond_pos hf, O.cond_false]
   have := ih (i + 1) j took (su ls (p : Int) ((gt dL ls (p : Int)).1, (gt dL ls (p : Int)).2.1, IntKind.i64.wrap ((gt dL ls (p : Int)).2.2 + 1))) q (IntKind.i64.wrap (f + 1)) (by omega) (by omega) (hL.su _ _ hx) (by omega)
   rw [show sendL x.1 r2.2.1 s ((p : Int) :: all.drop (i + 1)) took ls q f = sendL x.1 r2.2.1 s (all.drop (i + 1)) took (su ls (p : Int) ((gt dL ls (p : Int)).1, (gt dL ls (p : Int)).2.1, IntKind.i64.wrap ((gt dL ls (p : Int)).2.2 + 1))) q (IntKind.i64.wrap (f + 1)) by rw [sendL, if_pos (by omega)]]
   exact this
  ·rw [O.cond_neg hf, O.chk_dec (show (0 : Nat) + (gt dL ls (p : Int)).1.length ≤ 1073741824 by omega), List.nil_append, O.chk_dec (show (gt dL ls (p : Int)).1.length + ([(leavesB x.1[p] r2.2.1 s).1] : List ByteArray).length ≤ 1073741824 by rw [List.length_singleton]; omega), O.cond_true, O.chk_dec (by omega), O.chk_dec (by omega), O.chk_dec (show took.length + ([(p : Int)] : List Int).length ≤ 1073741824 by rw [List.length_singleton]; omega)]
   have := ih (i + 1) j (took ++ [(p : Int)]) (su ls (p : Int) ((gt dL ls (p : Int)).1 ++ [(leavesB x.1[p] r2.2.1 s).1], (gt dL ls (p : Int)).2.1, (gt dL ls (p : Int)).2.2)) (IntKind.i64.wrap (q + 1)) f (by omega) (by omega) (hL.su _ _ ⟨hx.1, by simp; omega⟩) (by simp; omega)
   rw [show sendL x.1 r2.2.1 s ((p : Int) :: all.drop (i + 1)) took ls q f = sendL x.1 r2.2.1 s (all.drop (i + 1)) (took ++ [(p : Int)]) (su ls (p : Int) ((gt dL ls (p : Int)).1 ++ [(leavesB x.1[p] r2.2.1 s).1], (gt dL ls (p : Int)).2.1, (gt dL ls (p : Int)).2.2)) (IntKind.i64.wrap (q + 1)) f by rw [sendL, if_neg (by omega), hgd]]
   exact this
theorem rBIn_S (k : Nat) (hk : 2000 ≤ k) {n : Nat} (hn : n ≤ 16) (port : Nat) (s : ByteArray) {x : G0} {t : GT} {u : HT} (h : StOk n x t) (hR : LanesR n x.2.1) (b : Both t u) (hl : port < n) :
  ∃ u' : HT, F_aqueductref20_Bridge_In.S k port s x u = .ok ((inB x t port s).1, (inB x t port s).2.1, u') ∧ Both (inB x t port s).2.2 u' ∧ LanesR n (inB x t port s).2.1.2.1 ∧ StOk n (inB x t port s).2.1 (inB x t port s).2.2 := by
 have hxl := h.len
 have hpk := h.ports hn (show 32 ≤ k by omega)
 have hlen : u.2.2.length ≤ 1024 := by have := b.len; have := b.inv.len; have := b.small; omega
 unfold F_aqueductref20_Bridge_In.S F_aqueductref20_Bridge_In.top
 rw [O.cond_neg (by omega), O.cond_neg (by omega), rNet_S k (by omega) x.1 port s hpk (by omega) (by omega), O.bind_ok]
 unfold inB
 by_cases hb : (ethP s).2 ≠ 0 ∨ kindB (ethP s).1.2.1 ≠ 1 ∨ fitsB x.1 (netB x.1 port s) s = false
 ·rw [if_pos hb]
  have e : (decide ((ethP s).2 ≠ 0 ∨ kindB (ethP s).1.2.1 ≠ 1) || !fitsB x.1 (netB x.1 port s) s) = true := by
   rcases hb with c | c | c
   ·rw [decide_eq_true (.inl c), Bool.true_or]
   ·rw [decide_eq_true (.inr c), Bool.true_or]
   ·rw [c]; simp
  refine ⟨u, ?_, b, hR, ⟨h.len, h.nets, h.lanes, h.tab⟩⟩
  dsimp only
  rw [e, O.cond_true]
  rfl
 ·have hb1 : ¬ ((ethP s).2 ≠ 0 ∨ kindB (ethP s).1.2.1 ≠ 1) := fun c => hb (c.elim .inl fun c => .inr (.inl c))
  have hb3 : fitsB x.1 (netB x.1 port s) s = true := by
   cases c : fitsB x.1 (netB x.1 port s) s with
   | true => rfl
   | false => exact absurd (.inr (.inr c)) hb
  have e : (decide ((ethP s).2 ≠ 0 ∨ kindB (ethP s).1.2.1 ≠ 1) || !fitsB x.1 (netB x.1 port s) s) = false := by rw [decide_eq_false hb1, hb3]; rfl
  have hpl : port < x.1.length := by omega
  have hm := hpk.2 _ (List.getElem_mem hpl)
  have hh2 : hasP x.1 (netB x.1 port s) port = hasB x.1[port] (netB x.1 port s) := by unfold hasP; rw [List.getElem?_eq_getElem hpl]
  rw [if_neg hb]
  dsimp only
  rw [e, O.cond_false, O.chk_dec (by omega), O.chk_dec (by omega), gt_at _ x.1 port hpl, rHas_S k _ _ hm.1 hm.2, O.bind_ok, hh2]
  cases hasB x.1[port] (netB x.1 port s) with
  | false =>
   rw [if_pos rfl, Bool.not_false, O.cond_true]
   exact ⟨u, rfl, b, hR, ⟨h.len, h.nets, h.lanes, h.tab⟩⟩
  | true =>
   rw [if_neg (by decide), Bool.not_true, O.cond_false, rLearn_S k _ _ _ _ (by omega) (by omega), O.bind_ok]
   obtain ⟨_, b2⟩ := b.learn (netB x.1 port s) (ethP s).1.2.1 (port : Int)
   have hT := tab_learn h.tab (netB x.1 port s) (ethP s).1.2.1 port hl
   generalize (learnG (netB x.1 port s) (ethP s).1.2.1 (port : Int) t).2 = t' at b2 hT ⊢
   generalize (learnH (netB x.1 port s) (ethP s).1.2.1 (port : Int) u).2 = u' at b2 ⊢
   have hto := rto_S k hk port (netB x.1 port s) (ethP s).1.1 (cIn x) t' u' b2 hpk (by show x.1.length < k; omega) (by show TabOk x.1.length t'; rw [hxl]; exact hT)
   rw [show (x.1, x.2.1, (IntKind.i64.wrap (x.2.2.1 + (1 : Int)), x.2.2.2.1, x.2.2.2.2.1, x.2.2.2.2.2.1, x.2.2.2.2.2.2.1, x.2.2.2.2.2.2.2)) = cIn x from rfl, hto, O.bind_ok]
   have e1 : (cIn x).1 = x.1 := rfl
   rw [e1]
   have hr := toB_range (ps := x.1) (port := port) (v := netB x.1 port s) (dst := (ethP s).1.1) (es := t'.2.2) (by rw [hxl]; exact hT)
   have hsh := toB_short x.1 t'.2.2 port (netB x.1 port s) (ethP s).1.1
   generalize toB x.1 t'.2.2 port (netB x.1 port s) (ethP s).1.1 = w at hr hsh ⊢
   obtain ⟨l, sm⟩ := w
   dsimp only at hr hsh ⊢
   have key : ∀ v9 : Int, F_aqueductref20_Bridge_In.j9 k s ((ethP s).1, netB x.1 port s, false) ((l, sm), cIn x, u') v9 = .ok (((sendL x.1 (netB x.1 port s) s l [] x.2.1 x.2.2.2.2.2.2.1 x.2.2.2.2.2.2.2).1, 0), ((x.1, (sendL x.1 (netB x.1 port s) s l [] x.2.1 x.2.2.2.2.2.2.1 x.2.2.2.2.2.2.2).2.1, ((cIn x).2.2.1, x.2.2.2.1, x.2.2.2.2.1, v9, (sendL x.1 (netB x.1 port s) s l [] x.2.1 x.2.2.2.2.2.2.1 x.2.2.2.2.2.2.2).2.2.1, (sendL x.1 (netB x.1 port s) s l [] x.2.1 x.2.2.2.2.2.2.1 x.2.2.2.2.2.2.2).2.2.2)), u')) := fun v9 => by
    have := rsend_l1 k (by omega) s ((ethP s).1, netB x.1 port s, false) sm l (cIn x) u' v9 hr (by omega) l.length 0 k [] x.2.1 x.2.2.2.2.2.2.1 x.2.2.2.2.2.2.2 (Nat.zero_add _) (by omega) (by show LanesR x.1.length x.2.1; rw [hxl]; exact hR) (Nat.le_refl _)
    rw [List.drop_zero] at this
    exact this
   have hs := send_r x.1 (netB x.1 port s) s n l [] x.2.1 x.2.2.2.2.2.2.1 x.2.2.2.2.2.2.2 (by rw [← hxl]; exact hr) hR
   cases sm with
   | true =>
    rw [O.cond_true]
    exact ⟨u', key _, b2, hs, ⟨h.len, h.nets, hs.ok, hT⟩⟩
   | false =>
    rw [O.cond_false]
    exact ⟨u', key _, b2, hs, ⟨h.len, h.nets, hs.ok, hT⟩⟩
theorem rIn_out (k : Nat) (port : Int) (s : ByteArray) (x : G0) (u : HR) (h : port < 0 ∨ (x.1.length : Int) ≤ port) : F_aqueductref20_Bridge_In.S k port s x u = .ok (([], 1), x, u) := by
 unfold F_aqueductref20_Bridge_In.S F_aqueductref20_Bridge_In.top
 by_cases h1 : port < 0
 ·rw [O.cond_pos h1]
 ·rw [O.cond_neg h1, O.cond_pos (by omega)]
theorem rOut_out (k : Nat) (port : Int) (x : G0) (u : HR) (h : port < 0 ∨ (x.1.length : Int) ≤ port) : F_aqueductref20_Bridge_Out.S k port x u = .ok ((⟨#[]⟩, false), x, u) := by
 unfold F_aqueductref20_Bridge_Out.S
 by_cases h1 : port < 0
 ·rw [O.cond_pos h1]
 ·rw [O.cond_neg h1, O.cond_pos (by omega)]
theorem rOut_S (k : Nat) {n : Nat} (p : Nat) (x : G0) (u : HR) (hx : x.1.length = n) (hl : p < n) (hL : LanesOk n x.2.1) : F_aqueductref20_Bridge_Out.S k p x u = .ok ((outB x.2.1 p).1, (x.1, (outB x.2.1 p).2, x.2.2), u) := by
 have hll := hL.1
 have hxg := lanes_gt hL hl
 have hsu := su_same dL x.2.1 p (by omega)
 unfold F_aqueductref20_Bridge_Out.S outB
 rw [O.cond_neg (by omega), O.cond_neg (by omega), O.chk_dec (by omega), O.chk_dec (by omega)]
 generalize hg : gt dL x.2.1 (p : Int) = y at hxg hsu ⊢
 obtain ⟨l, room, lost⟩ := y
 cases l with
 | nil =>
  rw [O.cond_pos (by simp)]
  dsimp only
  rw [hsu]
 | cons t r =>
  have hn : ¬ (((t :: r).length : Int) = 0) := by simp; omega
  have hxl : r.length + 1 ≤ 1024 := by simpa using hxg.2
  have hr : sub (t :: r) (sumI [(1 : Int)]) (((t :: r).length : Int) - 1) = r := by
   unfold sub sumI
   rw [show (1 : Int).toNat = 1 from rfl, show (((t :: r).length : Int) - 1).toNat = r.length by simp]
   simp
  have ht : gt ByteArray.empty (t :: r) (0 : Int) = t := rfl
  have c1 : (decide (0 ≤ (1 : Int) ∧ (1 : Int) ≤ ((t :: r).length : Int)) && decide (0 ≤ ((t :: r).length : Int) ∧ ((t :: r).length : Int) ≤ ((t :: r).length : Int))) = true := by simp; omega
  have c2 : (posI [(1 : Int)] && decide (0 ≤ ((t :: r).length : Int) - 1 ∧ sumI [(1 : Int)] + (((t :: r).length : Int) - 1) ≤ ((t :: r).length : Int))) = true := by simp [posI, sumI]; omega
  dsimp only
  rw [O.cond_neg hn, O.chk_dec (by simp), O.chk_dec (by simp), c1, O.chk_true, c2, O.chk_true, hr, ht, O.chk_dec (by omega), List.nil_append]
theorem out_r {n : Nat} {ls : List LaneT} (h : LanesR n ls) {p : Nat} (hp : p < n) : LanesR n (outB ls p).2 := by
 have hg := h.gt hp
 unfold outB
 split
 ·exact h
 ·rename_i t r e
  rw [e, List.length_cons] at hg
  exact h.su _ _ ⟨hg.1, by dsimp only; omega⟩
theorem same18_S (k : Nat) (l : List VT) (hk : l.length < k) (hl : l.length ≤ 1000000) : F_aqueductref18_Same.S k l l = .ok true := by
 unfold F_aqueductref18_Same.S F_aqueductref18_Same.top
 rw [O.cond_neg (fun c => c rfl)]
 have lp : ∀ (m i j : Nat), i + m = l.length → m < j → F_aqueductref18_Same.l0 k l l j (i : Int) = .ok true := by
  intro m
  induction m with
  | zero =>
   intro i j hi hj
   obtain ⟨j, rfl⟩ : ∃ i, j = i + 1 := ⟨j - 1, by omega⟩
   show F_aqueductref18_Same.l0_b _ _ _ _ _ = _
   unfold F_aqueductref18_Same.l0_b
   rw [O.cond_neg (by omega)]
  | succ m ih =>
   intro i j hi hj
   obtain ⟨j, rfl⟩ : ∃ i, j = i + 1 := ⟨j - 1, by omega⟩
   show F_aqueductref18_Same.l0_b _ _ _ _ _ = _
   unfold F_aqueductref18_Same.l0_b
   rw [O.cond_pos (by omega), O.chk_dec (by omega), O.chk_dec (by omega), O.chk_dec (by omega), O.chk_dec (by omega), i64_in _ (by omega)]
   simp only [decide_true, Bool.and_true, Bool.not_true, O.cond_false]
   exact ih (i + 1) j (by omega) (by omega)
 exact lp l.length 0 k (by omega) hk
theorem waits_S (k : Nat) (hk : 100 ≤ k) {n : Nat} (hn : n ≤ 16) (x : G0) (t : G1) (u : HR) (hx : x.1.length = n) (hL : x.2.1.length = n) : F_aqueductlaw20_waits.S k x t x u = .ok (true, x, t, x, u) := by
 have lp : ∀ (m i j : Nat), i + m = n + 1 → m < j → F_aqueductlaw20_waits.l0 k x t x u j (i : Int) x.2.1 x.2.1 = .ok (true, x, t, x, u) := by
  intro m
  induction m with
  | zero =>
   intro i j hi hj
   obtain ⟨j, rfl⟩ : ∃ i, j = i + 1 := ⟨j - 1, by omega⟩
   show F_aqueductlaw20_waits.l0_b _ _ _ _ _ _ _ _ _ = _
   unfold F_aqueductlaw20_waits.l0_b
   rw [O.cond_neg (by omega)]
  | succ m ih =>
   intro i j hi hj
   obtain ⟨j, rfl⟩ : ∃ i, j = i + 1 := ⟨j - 1, by omega⟩
   show F_aqueductlaw20_waits.l0_b _ _ _ _ _ _ _ _ _ = _
   unfold F_aqueductlaw20_waits.l0_b
   have nx := ih (i + 1) j (by omega) (by omega)
   rw [O.cond_pos (by omega), O.cond_pos (by omega), i64_in _ (by omega)]
   by_cases hi2 : i < n
   ·rw [O.cond_pos (by omega), O.chk_dec (by omega), O.chk_dec (by omega), O.cond_neg (by omega), O.cond_neg (by omega), O.chk_dec (by omega), O.chk_dec (by omega), O.cond_neg (fun c => c rfl), su_same dL x.2.1 i (by omega)]
    exact nx
   ·rw [O.cond_neg (by omega), O.cond_neg (by omega), O.cond_pos (by omega), O.cond_false]
    exact nx
 unfold F_aqueductlaw20_waits.S F_aqueductlaw20_waits.top
 obtain ⟨j, rfl⟩ : ∃ i, k = i + 1 := ⟨k - 1, by omega⟩
 show F_aqueductlaw20_waits.l0_b _ _ _ _ _ _ _ _ _ = _
 unfold F_aqueductlaw20_waits.l0_b
 rw [O.cond_pos (by omega), O.cond_neg (by decide), O.cond_pos (by decide), O.cond_false, i64_in _ (by decide)]
 exact lp (n + 1) 0 j (by omega) (by omega)
theorem bclone_S (k : Nat) (hk : 100 ≤ k) {n : Nat} (hn : n ≤ 16) (x : G0) (t : G1) (hL : LanesOk n x.2.1) : F_bridge_Bridge_Clone.S k x t = .ok (x, t, x, t) := by
 have hll := hL.1
 have lp : ∀ (m i j : Nat), i + m = n → m < j → F_bridge_Bridge_Clone.l0 k x t j (i : Int) x.2.1 (x.2.1.take i) = .ok (x, t, x, t) := by
  intro m
  induction m with
  | zero =>
   intro i j hi hj
   obtain ⟨j, rfl⟩ : ∃ i, j = i + 1 := ⟨j - 1, by omega⟩
   show F_bridge_Bridge_Clone.l0_b _ _ _ _ _ _ _ = _
   unfold F_bridge_Bridge_Clone.l0_b
   rw [O.cond_neg (by omega), List.take_of_length_le (by omega)]
  | succ m ih =>
   intro i j hi hj
   obtain ⟨j, rfl⟩ : ∃ i, j = i + 1 := ⟨j - 1, by omega⟩
   show F_bridge_Bridge_Clone.l0_b _ _ _ _ _ _ _ = _
   unfold F_bridge_Bridge_Clone.l0_b
   have hil : i < x.2.1.length := by omega
   have hx := lanes_gt hL (show i < n by omega)
   have nx := ih (i + 1) j (by omega) (by omega)
   rw [List.take_add_one (l := x.2.1) (i := i), List.getElem?_eq_getElem hil] at nx
   rw [O.cond_pos (by omega), O.chk_dec (by omega), O.chk_dec (by omega), cloneT_S k (gt dL x.2.1 (i : Int)).1 (by omega), O.bind_ok, O.chk_dec (by rw [List.length_take]; omega), su_same dL x.2.1 i hil, i64_in _ (by omega), gt_at dL x.2.1 i hil]
   exact nx
 unfold F_bridge_Bridge_Clone.S F_bridge_Bridge_Clone.top
 have := lp n 0 k (by omega) (by omega)
 rw [List.take_zero] at this
 exact this
end Go.Proofs.YtkihcmcaignmkaaGreat
end
section
namespace Go.Proofs.YtkihcmcaignmkaaGreat
open Go.Aq Go.IntWalk
set_option linter.unusedVariables false
abbrev WrT := (List (Int × List Int)) × Int × Int × Int × (List (Int × Int × ByteArray))
abbrev R3T := Int → Int → Int → Int → Int → Int → Int → Int → Int → Int → Int → Int → Int → List (Int × List Int) → Int → Int → List LaneT → List (Int × List Int) → Int → Int → List LaneT → EsT → List VT → O Bool
noncomputable abbrev on (R : R3T) (v : Int) (x : G0) (t : GT) (y : G0) (u : HT) : O Bool := R v x.2.2.1 x.2.2.2.1 x.2.2.2.2.1 x.2.2.2.2.2.1 x.2.2.2.2.2.2.1 x.2.2.2.2.2.2.2 y.2.2.1 y.2.2.2.1 y.2.2.2.2.1 y.2.2.2.2.2.1 y.2.2.2.2.2.2.1 y.2.2.2.2.2.2.2 x.1 t.1 t.2.1 x.2.1 y.1 u.1 u.2.1 y.2.1 t.2.2 u.2.2
noncomputable abbrev tailE (k : Nat) (R : R3T) (v : Int) (x : G0) (t : GT) (y : G0) (u : HT) : O Bool :=
  O.twice (
    O.cond (!(decide (x.2.2.1 = y.2.2.1) && (decide (x.2.2.2.1 = y.2.2.2.1) && (decide (x.2.2.2.2.1 = y.2.2.2.2.1) && (decide (x.2.2.2.2.2.1 = y.2.2.2.2.2.1) && (decide (x.2.2.2.2.2.2.1 = y.2.2.2.2.2.2.1) && (decide (x.2.2.2.2.2.2.2 = y.2.2.2.2.2.2.2) && true))))))) (
     O.same (.ok false) (O.twice (.ok false))) (
     O.same (
      O.bind (F_fdb_Table_Rows.S k t) fun r295 =>
      O.bind (F_aqueductref18_Same.S k r295.1 u.2.2) fun r296 =>
      O.cond (!r296) (.ok false) (
       O.bind (F_aqueductlaw20_waits.S k x r295.2 y u) fun r297 =>
       O.cond (!r297.1) (.ok false) (on R v r297.2.1 r297.2.2.1 r297.2.2.2.1 r297.2.2.2.2))) (
      O.twice (
       O.bind (F_fdb_Table_Rows.S k t) fun r298 =>
       O.bind (F_aqueductref18_Same.S k r298.1 u.2.2) fun r299 =>
       O.cond (!r299) (.ok false) (
        O.bind (F_aqueductlaw20_waits.S k x r298.2 y u) fun r300 =>
        O.cond (!r300.1) (.ok false) (on R v r300.2.1 r300.2.2.1 r300.2.2.2.1 r300.2.2.2.2))))))
theorem tail_ok (k : Nat) (hk : 2000 ≤ k) (R : R3T) (v : Int) {n : Nat} (hn : n ≤ 16) (x : G0) (t : GT) (u : HT) (hx : StOk n x t) (b : Both t u) (h : on R v x t x u = .ok true) : tailE k R v x t x u = .ok true := by
  have hlen : u.2.2.length ≤ 1024 := by have := b.len; have := b.inv.len; have := b.small; omega
  have A : (O.bind (F_fdb_Table_Rows.S k t) fun r295 =>
      O.bind (F_aqueductref18_Same.S k r295.1 u.2.2) fun r296 =>
      O.cond (!r296) (.ok false) (
       O.bind (F_aqueductlaw20_waits.S k x r295.2 x u) fun r297 =>
       O.cond (!r297.1) (.ok false) (on R v r297.2.1 r297.2.2.1 r297.2.2.2.1 r297.2.2.2.2))) = .ok true := by
    rw [Rows_S k b.inv, O.bind_ok, b.rows, same18_S k u.2.2 (by omega) (by omega), O.bind_ok, Bool.not_true, O.cond_false, waits_S k (by omega) hn x t u hx.len hx.lanes.1, O.bind_ok, Bool.not_true, O.cond_false]
    exact h
  show O.twice _ = _
  rw [O.twice_eq]
  simp only [decide_true, Bool.and_true, Bool.not_true, O.cond_false]
  rw [O.twice_eq, A]
  exact O.twice_eq _
theorem do_l4 (k : Nat) (hk : 2000 ≤ k) (a0 : WrT) (v : Int) (e e' : List Int × Int) (R : R3T) {n : Nat} (hn : n ≤ 16) (x : G0) (t : GT) (u : HT) (hx : StOk n x t) (b : Both t u) (h : on R (IntKind.i64.wrap (v + 1)) x t x u = .ok true) :
  ∀ (m i j : Nat) (l : List Int), i + m = l.length → m < j → l.length ≤ 1000 → F_aqueductlaw20_BridgeDoes.l4 k a0 v (e, x, t) (e', x, u) R j (i : Int) l = .ok true := by
 intro m
 induction m with
 | zero =>
  intro i j l hi hj hl
  obtain ⟨j, rfl⟩ : ∃ i, j = i + 1 := ⟨j - 1, by omega⟩
  show F_aqueductlaw20_BridgeDoes.l4_b _ _ _ _ _ _ _ _ _ = _
  unfold F_aqueductlaw20_BridgeDoes.l4_b
  rw [O.cond_neg (by omega)]
  exact tail_ok k hk R _ hn x t u hx b h
 | succ m ih =>
  intro i j l hi hj hl
  obtain ⟨j, rfl⟩ : ∃ i, j = i + 1 := ⟨j - 1, by omega⟩
  show F_aqueductlaw20_BridgeDoes.l4_b _ _ _ _ _ _ _ _ _ = _
  unfold F_aqueductlaw20_BridgeDoes.l4_b
  rw [O.cond_pos (by omega), O.chk_dec (by omega), O.chk_dec (by omega), i64_in _ (by omega)]
  have hsl : (su l (i : Int) (-1 : Int)).length = l.length := by unfold su; rw [List.length_set]
  exact ih (i + 1) j _ (by rw [hsl]; omega) (by omega) (by rw [hsl]; exact hl)
theorem inB_short {n : Nat} {x : G0} {t : G1} (h : StOk n x t) (hn : n ≤ 16) (port : Nat) (s : ByteArray) : (inB x t port s).1.1.length ≤ 17 := by
 have sl : ∀ (ps : List (Int × List Int)) (v : Int) (l took : List Int) (ls : List LaneT) (q f : Int), (sendL ps v s l took ls q f).1.length ≤ took.length + l.length := by
  intro ps v l
  induction l with
  | nil => intro took ls q f; exact Nat.le_refl _
  | cons p r ih =>
   intro took ls q f
   rw [sendL]
   split
   ·have := ih took (su ls p ((gt dL ls p).1, (gt dL ls p).2.1, IntKind.i64.wrap ((gt dL ls p).2.2 + 1))) q (IntKind.i64.wrap (f + 1))
    rw [List.length_cons]; omega
   ·have := ih (took ++ [p]) (su ls p ((gt dL ls p).1 ++ [(leavesB (ps.getD p.toNat (0, [])) v s).1], (gt dL ls p).2.1, (gt dL ls p).2.2)) (IntKind.i64.wrap (q + 1)) f
    rw [List.length_append, List.length_singleton] at this
    rw [List.length_cons]
    omega
 unfold inB
 split
 ·exact Nat.zero_le _
 ·split
  ·exact Nat.zero_le _
  ·have hsh := toB_short x.1 (learnG (netB x.1 port s) (ethP s).1.2.1 port t).2.2.2 port (netB x.1 port s) (ethP s).1.1
   have hxl := h.len
   have := sl (if (toB x.1 (learnG (netB x.1 port s) (ethP s).1.2.1 port t).2.2.2 port (netB x.1 port s) (ethP s).1.1).2 = true then F_bridge_Bridge_to.bump (cIn x) else cIn x).1 (netB x.1 port s) (toB x.1 (learnG (netB x.1 port s) (ethP s).1.2.1 port t).2.2.2 port (netB x.1 port s) (ethP s).1.1).1 [] (if (toB x.1 (learnG (netB x.1 port s) (ethP s).1.2.1 port t).2.2.2 port (netB x.1 port s) (ethP s).1.1).2 = true then F_bridge_Bridge_to.bump (cIn x) else cIn x).2.1 (if (toB x.1 (learnG (netB x.1 port s) (ethP s).1.2.1 port t).2.2.2 port (netB x.1 port s) (ethP s).1.1).2 = true then F_bridge_Bridge_to.bump (cIn x) else cIn x).2.2.2.2.2.2.1 (if (toB x.1 (learnG (netB x.1 port s) (ethP s).1.2.1 port t).2.2.2 port (netB x.1 port s) (ethP s).1.1).2 = true then F_bridge_Bridge_to.bump (cIn x) else cIn x).2.2.2.2.2.2.2
   rw [List.length_nil, Nat.zero_add] at this
   exact Nat.le_trans this (by omega)
theorem tab_tick' {n : Nat} {t : GT} (h : TabOk n t) : TabOk n (tickG t) := fun e he => by
 obtain ⟨e', he', _, h2⟩ := tickE_mem he
 have := h e' he'
 rw [h2]
 exact this
set_option maxHeartbeats 2000000 in
theorem do_l3 (k : Nat) (hk : 2000 ≤ k) (a0 : WrT) {n : Nat} (hn0 : 1 ≤ n) (hn : n ≤ 16) :
  ∀ (m i j : Nat) (x : G0) (t : GT) (u : HT), i + m = 60 → m < j → StOk n x t → LanesR n x.2.1 → Both t u → on (F_aqueductlaw20_BridgeDoes.l3 k a0 j) (i : Int) x t x u = .ok true := by
 intro m
 induction m with
 | zero =>
  intro i j x t u hi hj h1 h2 h3
  obtain ⟨j, rfl⟩ : ∃ i, j = i + 1 := ⟨j - 1, by omega⟩
  show F_aqueductlaw20_BridgeDoes.l3_b _ _ _ _ _ _ _ _ _ _ _ _ _ _ _ _ _ _ _ _ _ _ _ _ _ _ _ = _
  unfold F_aqueductlaw20_BridgeDoes.l3_b
  rw [O.cond_dec]
  split
  ·rw [O.cond_neg (show ¬ ((i : Int) < (60 : Int)) by omega), fixed_S k (by omega), O.bind_ok]
  ·rw [fixed_S k (by omega), O.bind_ok]
 | succ m ih =>
  intro i j x t u hi hj h1 h2 h3
  obtain ⟨j, rfl⟩ : ∃ i, j = i + 1 := ⟨j - 1, by omega⟩
  show F_aqueductlaw20_BridgeDoes.l3_b _ _ _ _ _ _ _ _ _ _ _ _ _ _ _ _ _ _ _ _ _ _ _ _ _ _ _ = _
  unfold F_aqueductlaw20_BridgeDoes.l3_b
  have hxl := h1.len
  have nx : ∀ (y : G0) (t' : GT) (u' : HT), StOk n y t' → LanesR n y.2.1 → Both t' u' → on (F_aqueductlaw20_BridgeDoes.l3 k a0 j) (IntKind.i64.wrap ((i : Int) + 1)) y t' y u' = .ok true := fun y t' u' a b c => by
   rw [i64_in _ (by omega)]
   exact ih (i + 1) j y t' u' (by omega) (by omega) a b c
  by_cases hil : i < a0.2.2.2.2.length
  ·rw [O.cond_pos (by omega), O.cond_pos (by omega), O.chk_dec (by omega), O.chk_dec (by omega)]
   generalize gt ((0 : Int), (0 : Int), ByteArray.empty) a0.2.2.2.2 (i : Int) = op
   rw [O.chk_dec (by omega)]
   generalize ByteArray.extract op.2.2 0 (min (op.2.2.size : Int) (1600 : Int)).toNat = s
   have stay := tail_ok k hk (F_aqueductlaw20_BridgeDoes.l3 k a0 j) _ hn x t u h1 h3 (nx x t u h1 h2 h3)
   by_cases c0 : op.1 = 0
   ·rw [O.cond_pos c0]
    by_cases hp : op.2.1 < 0 ∨ (n : Int) ≤ op.2.1
    ·have e1 := In_out k op.2.1 s x t (by rw [hxl]; exact hp)
     have e2 := rIn_out k op.2.1 s x u (by rw [hxl]; exact hp)
     refine (congrArg (fun m => O.bind m _) (show F_bridge_Bridge_In.S k op.2.1 s (x.1, x.2.1, (x.2.2.1, x.2.2.2.1, x.2.2.2.2.1, x.2.2.2.2.2.1, x.2.2.2.2.2.2.1, x.2.2.2.2.2.2.2)) (t.1, t.2.1, t.2.2) = _ from e1)).trans ?_
     rw [O.bind_ok]
     refine (congrArg (fun m => O.bind m _) (show F_aqueductref20_Bridge_In.S k op.2.1 s (x.1, x.2.1, (x.2.2.1, x.2.2.2.1, x.2.2.2.2.1, x.2.2.2.2.2.1, x.2.2.2.2.2.2.1, x.2.2.2.2.2.2.2)) (u.1, u.2.1, u.2.2) = _ from e2)).trans ?_
     rw [O.bind_ok]
     dsimp only
     rw [same_S k [] [] (by show 0 < k; omega) (Nat.zero_le _), O.bind_ok, decide_eq_true rfl, Bool.not_true, O.cond_false, O.cond_neg (fun c => c rfl)]
     exact do_l4 k hk a0 i ([], 1) ([], 1) _ hn x t u h1 h3 (nx x t u h1 h2 h3) 0 0 k [] rfl (by omega) (Nat.zero_le _)
    ·obtain ⟨p, hpp⟩ : ∃ p : Nat, op.2.1 = (p : Int) := ⟨op.2.1.toNat, by omega⟩
     have hpn : p < n := by omega
     have e1 := In_ok k (by omega) hn p s h1 hpn
     obtain ⟨u', e2, b', r', s'⟩ := rBIn_S k hk hn p s h1 h2 h3 hpn
     have hl := inB_short h1 hn p s
     rw [hpp]
     refine (congrArg (fun m => O.bind m _) (show F_bridge_Bridge_In.S k (p : Int) s (x.1, x.2.1, (x.2.2.1, x.2.2.2.1, x.2.2.2.2.1, x.2.2.2.2.2.1, x.2.2.2.2.2.2.1, x.2.2.2.2.2.2.2)) (t.1, t.2.1, t.2.2) = _ from e1)).trans ?_
     rw [O.bind_ok]
     refine (congrArg (fun m => O.bind m _) (show F_aqueductref20_Bridge_In.S k (p : Int) s (x.1, x.2.1, (x.2.2.1, x.2.2.2.1, x.2.2.2.2.1, x.2.2.2.2.2.1, x.2.2.2.2.2.2.1, x.2.2.2.2.2.2.2)) (u.1, u.2.1, u.2.2) = _ from e2)).trans ?_
     rw [O.bind_ok]
     generalize inB x t p s = r at b' r' s' hl ⊢
     obtain ⟨⟨l, e⟩, y, t'⟩ := r
     dsimp only at b' r' s' hl ⊢
     rw [same_S k l l (by omega) (by omega), O.bind_ok, decide_eq_true rfl, Bool.not_true, O.cond_false, O.cond_neg (fun c => c rfl)]
     exact do_l4 k hk a0 i (l, e) (l, e) _ hn y t' u' s' b' (nx y t' u' s' r' b') l.length 0 k l (by omega) (by omega) (by omega)
   rw [O.cond_neg c0]
   by_cases c1 : op.1 = 1
   ·rw [O.cond_pos c1]
    by_cases hp : op.2.1 < 0 ∨ (n : Int) ≤ op.2.1
    ·have e1 := Out_out k op.2.1 x t (by rw [hxl]; exact hp)
     have e2 := rOut_out k op.2.1 x u (by rw [hxl]; exact hp)
     refine (congrArg (fun m => O.bind m _) (show F_bridge_Bridge_Out.S k op.2.1 (x.1, x.2.1, (x.2.2.1, x.2.2.2.1, x.2.2.2.2.1, x.2.2.2.2.2.1, x.2.2.2.2.2.2.1, x.2.2.2.2.2.2.2)) (t.1, t.2.1, t.2.2) = _ from e1)).trans ?_
     rw [O.bind_ok]
     refine (congrArg (fun m => O.bind m _) (show F_aqueductref20_Bridge_Out.S k op.2.1 (x.1, x.2.1, (x.2.2.1, x.2.2.2.1, x.2.2.2.2.1, x.2.2.2.2.2.1, x.2.2.2.2.2.2.1, x.2.2.2.2.2.2.2)) (u.1, u.2.1, u.2.2) = _ from e2)).trans ?_
     rw [O.bind_ok]
     dsimp only
     rw [O.cond_neg (fun c => c rfl), O.cond_neg (fun c => c rfl)]
     exact stay
    ·obtain ⟨p, hpp⟩ : ∃ p : Nat, op.2.1 = (p : Int) := ⟨op.2.1.toNat, by omega⟩
     have hpn : p < n := by omega
     have e1 := Out_S k p x t (by omega) (by rw [hxl]; exact h1.lanes)
     have e2 := rOut_S k p x u hxl hpn h1.lanes
     have r' := out_r h2 hpn
     rw [hpp]
     refine (congrArg (fun m => O.bind m _) (show F_bridge_Bridge_Out.S k (p : Int) (x.1, x.2.1, (x.2.2.1, x.2.2.2.1, x.2.2.2.2.1, x.2.2.2.2.2.1, x.2.2.2.2.2.2.1, x.2.2.2.2.2.2.2)) (t.1, t.2.1, t.2.2) = _ from e1)).trans ?_
     rw [O.bind_ok]
     refine (congrArg (fun m => O.bind m _) (show F_aqueductref20_Bridge_Out.S k (p : Int) (x.1, x.2.1, (x.2.2.1, x.2.2.2.1, x.2.2.2.2.1, x.2.2.2.2.2.1, x.2.2.2.2.2.2.1, x.2.2.2.2.2.2.2)) (u.1, u.2.1, u.2.2) = _ from e2)).trans ?_
     rw [O.bind_ok]
     generalize outB x.2.1 (p : Int) = r at r' ⊢
     obtain ⟨o, ls⟩ := r
     dsimp only at r' ⊢
     rw [O.cond_neg (fun c => c rfl), O.cond_neg (fun c => c rfl)]
     have s' : StOk n (x.1, ls, x.2.2) t := ⟨h1.len, h1.nets, r'.ok, h1.tab⟩
     exact tail_ok k hk (F_aqueductlaw20_BridgeDoes.l3 k a0 j) _ hn (x.1, ls, x.2.2) t u s' h3 (nx (x.1, ls, x.2.2) t u s' r' h3)
   rw [O.cond_neg c1]
   by_cases c2 : op.1 = 2
   ·have hlen : u.2.2.length ≤ 1024 := by have := h3.len; have := h3.inv.len; have := h3.small; omega
    have e1 := Tick_S' k h3.inv
    have e2 := rTick_S k u (by omega) (by omega)
    have b' := h3.tick
    have hv : ((t.2.2.length : Int) - ((tickE t.2.1 t.2.2).length : Int)) = ((u.2.2.length : Int) - (((u.2.2.filterMap (bumpV u.2.1)).length : Nat) : Int)) := by
     have := b'.len
     have := h3.len
     have e : (u.2.2.filterMap (bumpV u.2.1)).length = (tickE t.2.1 t.2.2).length := b'.len
     omega
    rw [O.cond_pos c2, O.twice_eq]
    refine (congrArg (fun m => O.bind m _) (show F_fdb_Table_Tick.S k (t.1, t.2.1, t.2.2) = _ from e1)).trans ?_
    rw [O.bind_ok]
    refine (congrArg (fun m => O.bind m _) (show F_aqueductref18_Table_Tick.S k (u.1, u.2.1, u.2.2) = _ from e2)).trans ?_
    rw [O.bind_ok]
    dsimp only
    rw [i64_in ((u.2.2.length : Int) - (((u.2.2.filterMap (bumpV u.2.1)).length : Nat) : Int)) (by have := List.length_filterMap_le (bumpV u.2.1) u.2.2; omega), O.cond_neg (fun c => c hv)]
    have s' : StOk n x (tickG t) := ⟨h1.len, h1.nets, h1.lanes, tab_tick' h1.tab⟩
    exact tail_ok k hk (F_aqueductlaw20_BridgeDoes.l3 k a0 j) _ hn x (tickG t) (u.1, u.2.1, u.2.2.filterMap (bumpV u.2.1)) s' b' (nx x (tickG t) (u.1, u.2.1, u.2.2.filterMap (bumpV u.2.1)) s' h2 b')
   rw [O.cond_neg c2]
   by_cases c3 : op.1 = 3
   ·have e1 := bclone_S k (by omega) hn x t h1.lanes
    have e2 := In_ok k (by omega) hn 0 (fromB 9 8) h1 (by omega)
    obtain ⟨u', _, _, _, s'⟩ := rBIn_S k hk hn 0 (fromB 9 8) h1 h2 h3 (by omega)
    have e3 := Out_S k 0 (inB x t 0 (fromB 9 8)).2.1 (inB x t 0 (fromB 9 8)).2.2 (by rw [s'.len]; omega) (by rw [s'.len]; exact s'.lanes)
    rw [O.cond_pos c3]
    refine (congrArg (fun m => O.bind m _) (show F_bridge_Bridge_Clone.S k (x.1, x.2.1, (x.2.2.1, x.2.2.2.1, x.2.2.2.2.1, x.2.2.2.2.2.1, x.2.2.2.2.2.2.1, x.2.2.2.2.2.2.2)) (t.1, t.2.1, t.2.2) = _ from e1)).trans ?_
    rw [O.bind_ok, from_S, O.bind_ok]
    refine (congrArg (fun m => O.bind m _) (show F_bridge_Bridge_In.S k (0 : Int) (fromB 9 8) x t = _ from e2)).trans ?_
    rw [O.bind_ok]
    refine (congrArg (fun m => O.bind m _) (show F_bridge_Bridge_Out.S k (0 : Int) (inB x t 0 (fromB 9 8)).2.1 (inB x t 0 (fromB 9 8)).2.2 = _ from e3)).trans ?_
    rw [O.bind_ok, Tick_S, O.bind_ok]
    exact stay
   ·rw [O.cond_neg c3]
    exact stay
  ·rw [O.cond_neg (by omega), fixed_S k (by omega), O.bind_ok]
theorem Pure.BridgeDoes : ∀ (a0 : (List (Int × List Int)) × Int × Int × Int × (List (Int × Int × ByteArray))), okF (.cons (.tab false 58 (.cons (.leaf (.int .i64)) (.one (.row false 3 [.int .i64]) []))) (.cons (.leaf (.int .i64)) (.cons (.leaf (.int .i64)) (.cons (.leaf (.int .i64)) (.one (.row false 31 [.int .i64, .int .i64, .str]) []))))) a0 → ∃ k, F_aqueductlaw20_BridgeDoes.S k a0 = .ok true := by
 intro a0 ha
 refine ⟨3000, ?_⟩
 have hs : a0.1.length ≤ maxLen ∧ ∀ m ∈ a0.1, m.2.length ≤ maxLen := ⟨ha.1.1, fun m hm => (ha.1.2 m hm).2.1⟩
 have hm : maxLen = 9223372036854775807 := by decide
 have fin : O.bind (F_aqueductlaw20_fixed.S 3000) (fun r : Bool => .ok r) = .ok true := by rw [fixed_S 3000 (by decide), O.bind_ok]
 unfold F_aqueductlaw20_BridgeDoes.S F_aqueductlaw20_BridgeDoes.top
 rcases laid_S 3000 (by decide) a0 (by omega) (fun m hm => by have := hs.2 m hm; omega) with ⟨hw, e⟩ | e
 ·rw [e, O.sum_inr, O.sum_inr, O.sum_inr, Bool.not_true, O.cond_false]
  have g := g0W_ok hw
  have b : Both (a0.2.1, a0.2.2.1, []) (a0.2.1, a0.2.2.1, []) := ⟨inv_new _ _ (by have := hw.2.1; omega) hw.2.1.2.1, List.Pairwise.nil, List.Perm.nil, rfl, rfl, hw.2.1.2.1⟩
  exact do_l3 3000 (by decide) a0 hw.1.1 hw.1.2.1 60 0 3000 (g0W (trimB a0.1) a0.2.2.2.1) (a0.2.1, a0.2.2.1, []) (a0.2.1, a0.2.2.1, []) rfl (by decide) g ⟨List.length_replicate, fun x hx => by
   rw [List.eq_of_mem_replicate hx]
   have := hw.2.2
   exact ⟨this.2, by show ((0 : Nat) : Int) ≤ a0.2.2.2.1; omega⟩⟩ b
 ·rw [e, O.sum_inl, Bool.not_true, O.cond_false]
  show F_aqueductlaw20_BridgeDoes.l0_b _ _ _ = _
  exact fin
end Go.Proofs.YtkihcmcaignmkaaGreat
end
