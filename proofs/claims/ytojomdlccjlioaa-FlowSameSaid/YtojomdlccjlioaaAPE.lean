/- What eth.Parse, and the document's, come to. -/
import Derived.Test.YtojomdlccjlioaaAPW
namespace Go.Proofs.Ytojomdlccjlioaa
open Go.Aq Go.IntWalk
set_option linter.unusedVariables false
theorem Get_take (k : Nat) (hk : 9 ≤ k) (s : ByteArray) (hs : s.size ≤ 140737488351232) (i : Nat) (hi : i + 2 ≤ s.size) : F_words_Get.S k ((s.extract i s.size).extract 0 2) (0 : Int) (2 : Int) true = .ok (be s i 2, 0) := by
  have sz : ((s.extract i s.size).extract 0 2).size = 2 := by rw [ext_size, ext_size]; omega
  have h := Get_S k hk ((s.extract i s.size).extract 0 2) (by omega) 0 2 (by omega) (by omega)
  rw [if_pos (by omega), be_ext _ 0 2 0 2 (by omega), be_ext _ i s.size (0 + 0) 2 (by omega)] at h
  exact h
theorem ext_rsize (s : ByteArray) (i : Nat) : (s.extract i s.size).size = s.size - i := by rw [ext_size]; omega
theorem ext_rest' (s : ByteArray) (i j : Nat) : (s.extract i s.size).extract j (s.size - i) = s.extract (i + j) s.size := by
  rw [ext_ext]; congr 1; omega
theorem ext_part (s : ByteArray) (i n : Nat) (h : i + n ≤ s.size) : (s.extract i s.size).extract 0 n = s.extract i (i + n) := by
  rw [ext_ext]; congr 1; omega
theorem and4096 (v : Int) (h : 0 ≤ v ∧ v ≤ 65535) : bAnd .i64 (IntKind.i64.wrap v) 4096 = v / 4096 % 2 * 4096 := by
  rw [i64_in v (by omega)]; exact bAnd_bit v 12 h.1 (by omega) (by decide)
theorem and4095 (v : Int) (h : 0 ≤ v ∧ v ≤ 65535) : bAnd .i64 (IntKind.i64.wrap v) 4095 = v % 4096 := by
  rw [i64_in v (by omega)]; exact bAnd_low v 12 h.1 (by omega) (by decide)
theorem shr13 (v : Int) (h : 0 ≤ v ∧ v ≤ 65535) : shR .i64 (IntKind.i64.wrap v) 13 = v / 8192 := by
  rw [i64_in v (by omega)]; exact shR_eq .i64 v 13 (by decide)
/-- May a frame be of a type? -/
def mayP (n : Int) : Prop := 1536 ≤ n ∧ n ≤ 65535 ∧ n ≠ 33024
instance (n : Int) : Decidable (mayP n) := inferInstanceAs (Decidable (_ ∧ _ ∧ _))
theorem may_S (k : Nat) (n : Int) : F_eth_may.S k n = .ok (decide (mayP n)) := by
  unfold F_eth_may.S
  rw [O.cond_dec, O.cond_dec]
  split
  · split
    · congr 1; apply decide_eq_decide.2; unfold mayP; omega
    · exact congrArg O.ok (decide_eq_false (by unfold mayP; omega)).symm
  · exact congrArg O.ok (decide_eq_false (by unfold mayP; omega)).symm
theorem rkind_S (k : Nat) (n : Int) : F_aqueductref06_kind.S k n = .ok (decide (mayP n)) := by
  unfold F_aqueductref06_kind.S
  rw [O.cond_dec, O.cond_dec]
  split
  · split
    · congr 1; apply decide_eq_decide.2; unfold mayP; omega
    · exact congrArg O.ok (decide_eq_false (by unfold mayP; omega)).symm
  · exact congrArg O.ok (decide_eq_false (by unfold mayP; omega)).symm
/-- A frame, taken apart. -/
def ethP (s : ByteArray) : (ByteArray × ByteArray × Int × Int × Int × ByteArray) × Int :=
  if s.size > 1518 then ((ByteArray.empty, ByteArray.empty, 0, 0, 0, ByteArray.empty), 61)
  else if s.size < 14 then ((ByteArray.empty, ByteArray.empty, 0, 0, 0, ByteArray.empty), 60)
  else if be s 12 2 = 33024 then
    if s.size < 18 then ((ByteArray.empty, ByteArray.empty, 0, 0, 0, ByteArray.empty), 60)
    else if be s 14 2 / 4096 % 2 = 1 ∨ be s 14 2 % 4096 = 4095 ∨ ¬ mayP (be s 16 2) then ((ByteArray.empty, ByteArray.empty, 0, 0, 0, ByteArray.empty), 61)
    else ((s.extract 0 6, s.extract 6 12, be s 14 2 % 4096, be s 14 2 / 8192, be s 16 2, s.extract 18 s.size), 0)
  else if ¬ mayP (be s 12 2) then ((ByteArray.empty, ByteArray.empty, 0, 0, 0, ByteArray.empty), 61)
  else ((s.extract 0 6, s.extract 6 12, -1, 0, be s 12 2, s.extract 14 s.size), 0)
theorem ethParse_S (k : Nat) (hk : 9 ≤ k) (s : ByteArray) : F_eth_Parse.S k s = .ok (ethP s) := by
  apply O.sat_val
  unfold F_eth_Parse.S
  simp only [ext_rsize, ext_rest', Nat.reduceAdd, may_S]
  have b1 := be2_lo s 12
  have b2 := be2_lo s 14
  have b3 := be2_lo s 16
  refine O.sat_cond (fun h => O.sat_ok (by unfold ethP; rw [if_pos (by omega)])) fun h1 => ?_
  refine O.sat_cond (fun h => O.sat_ok (by unfold ethP; rw [if_neg (by omega), if_pos (by omega)])) fun h2 => ?_
  refine O.sat_chk (by omega) (O.sat_chk (by omega) ?_)
  refine O.sat_cond (fun h => O.sat_ok (by unfold ethP; rw [if_neg (by omega), if_pos (by omega)])) fun h3 => ?_
  refine O.sat_chk (by omega) (O.sat_chk (by omega) ?_)
  refine O.sat_cond (fun h => O.sat_ok (by unfold ethP; rw [if_neg (by omega), if_pos (by omega)])) fun h4 => ?_
  refine O.sat_chk (by omega) (O.sat_chk (by omega) ?_)
  refine O.sat_eq (Get_take k hk s (by omega) 12 (by omega)) ?_
  simp only [i64_in (be s 12 2) (by omega)]
  refine O.sat_cond (fun h5 => ?_) fun h5 => ?_
  · refine O.sat_cond (fun h => O.sat_ok (by unfold ethP; rw [if_neg (by omega), if_neg (by omega), if_pos (by omega), if_pos (by omega)])) fun h6 => ?_
    refine O.sat_chk (by omega) (O.sat_chk (by omega) ?_)
    refine O.sat_eq (Get_take k hk s (by omega) 14 (by omega)) ?_
    refine O.sat_cond (fun h => O.sat_ok (by unfold ethP; rw [if_neg (by omega), if_neg (by omega), if_pos (by omega), if_pos (by omega)])) fun h7 => ?_
    refine O.sat_chk (by omega) (O.sat_chk (by omega) ?_)
    refine O.sat_eq (Get_take k hk s (by omega) 16 (by omega)) ?_
    simp only [i64_in (be s 16 2) (by omega), and4096 _ b2, and4095 _ b2, shr13 _ b2]
    refine O.sat_cond (fun h => O.sat_ok (by unfold ethP; rw [if_neg (by omega), if_neg (by omega), if_pos (by omega), if_neg (by omega), if_pos (by omega)])) fun h8 => ?_
    refine O.sat_cond (fun h => O.sat_ok (by unfold ethP; rw [if_neg (by omega), if_neg (by omega), if_pos (by omega), if_neg (by omega), if_pos (by omega)])) fun h9 => ?_
    rw [O.bind_ok]
    refine O.sat_condn (fun h => O.sat_ok (by unfold ethP; rw [if_neg (by omega), if_neg (by omega), if_pos (by omega), if_neg (by omega), if_pos (by exact .inr (.inr h))])) fun h10 => ?_
    refine O.sat_ok ?_
    unfold ethP
    rw [if_neg (by omega), if_neg (by omega), if_pos (by omega), if_neg (by omega), if_neg (by intro hh; rcases hh with h | h | h <;> first | omega | exact h h10), ext_part s 6 6 (by omega)]
  · rw [O.cond_false, O.bind_ok]
    refine O.sat_condn (fun h => O.sat_ok (by unfold ethP; rw [if_neg (by omega), if_neg (by omega), if_neg (by omega), if_pos h])) fun h10 => ?_
    refine O.sat_ok ?_
    unfold ethP
    rw [if_neg (by omega), if_neg (by omega), if_neg (by omega), if_neg (by exact fun h => h h10), ext_part s 6 6 (by omega)]
theorem rnum6_S (k : Nat) (s : ByteArray) (hs : s.size ≤ 140737488351232) (i : Nat) (hi : i + 2 ≤ s.size) : F_aqueductref06_num.S k s (i : Int) = .ok (be s i 2) := by
  unfold F_aqueductref06_num.S
  have a1 := bt_lo s (i : Int); have a2 := bt_hi s (i : Int); have a3 := bt_lo s ((i + 1 : Nat) : Int); have a4 := bt_hi s ((i + 1 : Nat) : Int)
  have e : IntKind.i64.wrap ((i : Int) + 1) = ((i + 1 : Nat) : Int) := by rw [i64_in _ (by omega)]; push_cast; rfl
  rw [e, O.chk_dec (by omega), O.chk_dec (by omega), i64_in (bt s (i : Int)) (by omega), i64_in (bt s ((i + 1 : Nat) : Int)) (by omega), i64_in (256 * _) (by omega), i64_in _ (by omega), be2]
  congr 1; omega
theorem rethParse_S (k : Nat) (s : ByteArray) : F_aqueductref06_Parse.S k s = .ok (ethP s) := by
  apply O.sat_val
  unfold F_aqueductref06_Parse.S
  have b1 := be2_lo s 12
  have b2 := be2_lo s 14
  have b3 := be2_lo s 16
  refine O.sat_cond (fun h => O.sat_ok (by unfold ethP; rw [if_pos (by omega)])) fun h1 => ?_
  refine O.sat_cond (fun h => O.sat_ok (by unfold ethP; rw [if_neg (by omega), if_pos (by omega)])) fun h2 => ?_
  refine O.sat_chk (by omega) (O.sat_chk (by omega) (O.sat_chk (by omega) (O.sat_twice ?_)))
  refine O.sat_eq (rnum6_S k s (by omega) 12 (by omega)) ?_
  refine O.sat_cond (fun h5 => ?_) fun h5 => ?_
  · refine O.sat_cond (fun h => O.sat_ok (by unfold ethP; rw [if_neg (by omega), if_neg (by omega), if_pos (by omega), if_pos (by omega)])) fun h6 => ?_
    refine O.sat_eq (rnum6_S k s (by omega) 14 (by omega)) ?_
    refine O.sat_chk (by omega) (O.sat_chk (by omega) (O.sat_chk (by omega) ?_))
    refine O.sat_eq (rnum6_S k s (by omega) 16 (by omega)) ?_
    simp only [rem_in _ _ b2.1, quo_in _ _ b2.1]
    rw [i64_in (be s 14 2 / 4096) (by omega), i64_in (be s 14 2 / 8192) (by omega), rem_in (be s 14 2 / 4096) _ (by omega)]
    refine O.sat_cond (fun h => O.sat_ok (by unfold ethP; rw [if_neg (by omega), if_neg (by omega), if_pos (by omega), if_neg (by omega), if_pos (by omega)])) fun h8 => ?_
    refine O.sat_cond (fun h => O.sat_ok (by unfold ethP; rw [if_neg (by omega), if_neg (by omega), if_pos (by omega), if_neg (by omega), if_pos (by omega)])) fun h9 => ?_
    refine O.sat_eq (rkind_S k _) ?_
    refine O.sat_condn (fun h => O.sat_ok (by unfold ethP; rw [if_neg (by omega), if_neg (by omega), if_pos (by omega), if_neg (by omega), if_pos (by exact .inr (.inr h))])) fun h10 => ?_
    refine O.sat_ok ?_
    unfold ethP
    rw [if_neg (by omega), if_neg (by omega), if_pos (by omega), if_neg (by omega), if_neg (by intro hh; rcases hh with h | h | h <;> first | omega | exact h h10)]
  · refine O.sat_eq (rkind_S k _) ?_
    refine O.sat_condn (fun h => O.sat_ok (by unfold ethP; rw [if_neg (by omega), if_neg (by omega), if_neg (by omega), if_pos h])) fun h10 => ?_
    refine O.sat_ok ?_
    unfold ethP
    rw [if_neg (by omega), if_neg (by omega), if_neg (by omega), if_neg (by exact fun h => h h10)]
end Go.Proofs.Ytojomdlccjlioaa
