/- Layer 14: what laid, the checks, and what a script writes, come to. -/
import Derived.Test.YtjdhepioehfmhaaEPM
import Derived.Test.YtjdhepioehfmhaaEPUL
import Derived.Test.YtjdhepioehfmhaaV20
namespace Go.Proofs.Ytjdhepioehfmhaa
open Go.Aq Go.IntWalk
set_option linter.unusedVariables false
abbrev TL := Int × Int × Int × Int
abbrev TR := ByteArray × Int × List (Int × Int × Int × Bool)
abbrev TQ := (Int × Int × Int × Int) × (Int × Bool) × (Int × Bool) × (Int × Bool) × Int × Int × Bool
abbrev TOp := Int × Int × Int × Int × Int × Int × ByteArray × Int × Int × Int × Bool × Int × Bool
theorem O.cond_okok {α : Type} (c : Bool) (a b : α) : O.cond c (.ok a) (.ok b) = .ok (bif c then a else b) := by cases c <;> simp
def chkE (l : TL) (n : Int) : Int :=
  bif decide (l.2.1 < 1) then 140 else bif decide (l.2.1 > 32768) then 140 else bif decide (Int.tmod l.1 16 ≠ 0) then 140 else bif decide (Int.tmod l.2.2.1 4 ≠ 0) then 140 else bif decide (Int.tmod l.2.2.2 4 ≠ 0) then 140 else
  bif !(mayM l.1 (IntKind.i64.wrap (16 * l.2.1)) n) then 140 else bif !(mayM l.2.2.1 4 n) then 140 else bif !(mayM l.2.2.2 4 n) then 140 else 0
theorem Check_S (k : Nat) (l : TL) (g : TM) (h : g.1.length ≤ 1048576) : F_devq_Check.S k l g = .ok (chkE l g.1.length) := by
  unfold F_devq_Check.S
  simp only [May_S k _ _ g h, O.bind_ok, O.cond_okok]; rfl
theorem rMay_S (k : Nat) (a n : Int) (g : TR) (h : g.1.size ≤ 1048576) : F_aqueductref04_Memory_May.S k a n g = .ok (mayM a n g.1.size) := by
  unfold F_aqueductref04_Memory_May.S
  by_cases h1 : a ≥ 0
  · rw [O.cond_pos h1]
    by_cases h2 : n ≥ 0
    · rw [O.cond_pos h2]
      by_cases h3 : n ≤ (g.1.size : Int)
      · rw [O.cond_pos h3, i64_in _ (by omega)]
        congr 1; unfold mayM; apply decide_eq_decide.2; omega
      · rw [O.cond_neg h3, mayM_not.2 (by omega)]
    · rw [O.cond_neg h2, mayM_not.2 (by omega)]
  · rw [O.cond_neg h1, mayM_not.2 (by omega)]
theorem rCheck_S (k : Nat) (l : TL) (g : TR) (h : g.1.size ≤ 1048576) : F_aqueductref14_Check.S k l g = .ok (chkE l g.1.size) := by
  unfold F_aqueductref14_Check.S
  simp only [rMay_S k _ _ g h, O.bind_ok, O.cond_okok]; rfl
theorem or_bif (c : Bool) (x : Int) (h : x = 140 ∨ x = 0) : (bif c then 140 else x) = 140 ∨ (bif c then 140 else x) = 0 := by cases c; exact h; exact Or.inl rfl
theorem chkE_or (l : TL) (n : Int) : chkE l n = 140 ∨ chkE l n = 0 :=
  or_bif _ _ (or_bif _ _ (or_bif _ _ (or_bif _ _ (or_bif _ _ (or_bif _ _ (or_bif _ _ (or_bif _ _ (Or.inr rfl))))))))
structure OkL (l : TL) (n : Int) : Prop where
  lo : 1 ≤ l.2.1
  hi : l.2.1 ≤ 32768
  ring : 0 ≤ l.1 ∧ l.1 + 16 * l.2.1 ≤ n
  drv : 0 ≤ l.2.2.1 ∧ l.2.2.1 + 4 ≤ n
  dev : 0 ≤ l.2.2.2 ∧ l.2.2.2 + 4 ≤ n
theorem chkE_ok (l : TL) (n : Int) (h : chkE l n = 0) : OkL l n := by
  unfold chkE at h
  by_cases h1 : l.2.1 < 1
  · simp [h1] at h
  by_cases h2 : l.2.1 > 32768
  · simp [h2] at h
  rw [decide_eq_false h1, decide_eq_false h2, i64_in _ (by omega)] at h
  simp only [cond_false] at h
  generalize decide (Int.tmod l.1 16 ≠ 0) = c1 at h
  generalize decide (Int.tmod l.2.2.1 4 ≠ 0) = c2 at h
  generalize decide (Int.tmod l.2.2.2 4 ≠ 0) = c3 at h
  cases c1 <;> cases c2 <;> cases c3 <;> simp only [cond_true, cond_false] at h <;> try (exact absurd h (by decide))
  cases h4 : mayM l.1 (16 * l.2.1) n <;> rw [h4] at h <;> simp only [Bool.not_true, Bool.not_false, cond_true, cond_false] at h <;> try (exact absurd h (by decide))
  cases h5 : mayM l.2.2.1 4 n <;> rw [h5] at h <;> simp only [Bool.not_true, Bool.not_false, cond_true, cond_false] at h <;> try (exact absurd h (by decide))
  cases h6 : mayM l.2.2.2 4 n <;> rw [h6] at h <;> simp only [Bool.not_true, Bool.not_false, cond_true, cond_false] at h <;> try (exact absurd h (by decide))
  rw [mayM_iff] at h4 h5 h6
  exact ⟨by omega, by omega, by omega, by omega, by omega⟩
/-- Memory of so many noughts; a new queue. -/
def mem0 (n : Nat) : TM := (List.replicate n 0, 0, [])
def rmem0 (n : Nat) : TR := (strOf (List.replicate n 0), 0, [])
def q0 (l : TL) : TQ := (l, (0, true), (0, true), (0, true), 0, 0, false)
def many (b : Int) : Nat := (max 64 (min b 2048)).toNat
theorem many_le (b : Int) : 64 ≤ many b ∧ many b ≤ 2048 := by unfold many; omega
theorem New_S (k : Nat) (b : Int) : F_gmem_New.S k (max (64 : Int) (min b (2048 : Int))) = .ok (.inr (0, mem0 (many b))) := by
  unfold F_gmem_New.S
  rw [O.cond_neg (by omega), O.cond_neg (by omega), O.chk_dec (by omega)]; rfl
theorem rNew_S (k : Nat) (b : Int) : F_aqueductref04_New.S k (max (64 : Int) (min b (2048 : Int))) = .ok (.inr (0, rmem0 (many b))) := by
  unfold F_aqueductref04_New.S
  rw [O.cond_neg (by omega), O.cond_neg (by omega), O.chk_dec (by omega)]; rfl
theorem laid_S (k : Nat) (a : Int × TL × List TOp) : F_aqueductlaw14_laid.S k a =
    .ok (if chkE a.2.1 (many a.1) = 0 then .inr (.inr (.inr (.inr (true, mem0 (many a.1), q0 a.2.1, q0 a.2.1, rmem0 (many a.1))))) else .inr (.inl (true, mem0 (many a.1)))) := by
  have hn := many_le a.1
  have e1 : ((mem0 (many a.1)).1.length : Int) = many a.1 := by simp [mem0]
  have e2 : ((rmem0 (many a.1)).1.size : Int) = many a.1 := by simp [rmem0, size_strOf]
  have c1 : F_devq_Check.S k a.2.1 (mem0 (many a.1)) = .ok (chkE a.2.1 (many a.1)) := by rw [Check_S k _ _ (by omega), e1]
  have c2 : F_aqueductref14_Check.S k a.2.1 (rmem0 (many a.1)) = .ok (chkE a.2.1 (many a.1)) := by rw [rCheck_S k _ _ (by omega), e2]
  unfold F_aqueductlaw14_laid.S
  rw [New_S, O.sum_inr, rNew_S, O.sum_inr]
  simp only [c1, c2, O.bind_ok]
  rcases chkE_or a.2.1 (many a.1) with h | h <;> rw [h] <;> simp [q0]
/-- What a descriptor's bytes are. -/
def dscB (d : Int × Int × Int × Int) : ByteArray := ((putL d.1 8 ++ putL d.2.1 4) ++ putL d.2.2.1 2) ++ putL d.2.2.2 2
theorem dscB_size (d : Int × Int × Int × Int) : (dscB d).size = 16 := by unfold dscB; simp only [app_size, putL_size]
theorem rBuild_S (k : Nat) (hk : 9 ≤ k) (d : Int × Int × Int × Int) (h1 : 0 ≤ d.1 ∧ d.1 < 18446744073709551616) (h2 : 0 ≤ d.2.1 ∧ d.2.1 < 4294967296) :
    F_aqueductref12_Build.S k d = .ok (if 0 ≤ d.2.2.1 ∧ d.2.2.1 ≤ 65535 ∧ 0 ≤ d.2.2.2 ∧ d.2.2.2 ≤ 65535 then (dscB d, 0) else (⟨#[]⟩, 1)) := by
  unfold F_aqueductref12_Build.S
  by_cases a1 : d.2.2.1 < 0
  · rw [O.cond_pos a1, if_neg (by omega)]
  by_cases a2 : d.2.2.1 > 65535
  · rw [O.cond_neg a1, O.cond_pos a2, if_neg (by omega)]
  by_cases a3 : d.2.2.2 < 0
  · rw [O.cond_neg a1, O.cond_neg a2, O.cond_pos a3, if_neg (by omega)]
  by_cases a4 : d.2.2.2 > 65535
  · rw [O.cond_neg a1, O.cond_neg a2, O.cond_neg a3, O.cond_pos a4, if_neg (by omega)]
  rw [O.cond_neg a1, O.cond_neg a2, O.cond_neg a3, O.cond_neg a4, u64_in d.2.1 (by omega), u64_in d.2.2.1 (by omega), u64_in d.2.2.2 (by omega)]
  have p1 : F_aqueductref01_Put.S k d.1 (8 : Int) false = _ := rPutL_S k hk d.1 8 h1 (by omega)
  have p2 : F_aqueductref01_Put.S k d.2.1 (4 : Int) false = _ := rPutL_S k hk d.2.1 4 (by omega) (by omega)
  have p3 : F_aqueductref01_Put.S k d.2.2.1 (2 : Int) false = _ := rPutL_S k hk d.2.2.1 2 (by omega) (by omega)
  have p4 : F_aqueductref01_Put.S k d.2.2.2 (2 : Int) false = _ := rPutL_S k hk d.2.2.2 2 (by omega) (by omega)
  rw [if_pos (show d.1 < 256 ^ 8 by rw [show (256 : Int) ^ 8 = 18446744073709551616 from rfl]; omega)] at p1
  rw [if_pos (show d.2.1 < 256 ^ 4 by rw [show (256 : Int) ^ 4 = 4294967296 from rfl]; omega)] at p2
  rw [if_pos (show d.2.2.1 < 256 ^ 2 by rw [show (256 : Int) ^ 2 = 65536 from rfl]; omega)] at p3
  rw [if_pos (show d.2.2.2 < 256 ^ 2 by rw [show (256 : Int) ^ 2 = 65536 from rfl]; omega)] at p4
  rw [p1, O.bind_ok, p2, O.bind_ok, p3, O.bind_ok, p4, O.bind_ok, O.chk_dec (by simp only [putL_size]; omega), O.chk_dec (by simp only [app_size, putL_size]; omega), O.chk_dec (by simp only [app_size, putL_size]; omega), if_pos (by omega)]
  rfl
theorem Mark_sat (k : Nat) (a : Int) (b c : Bool) : O.sat (F_aqueductref12_Mark.S k a b c) fun _ => True := by
  unfold F_aqueductref12_Mark.S
  simp only [O.cond_okok]
  exact O.sat_ok trivial
end Go.Proofs.Ytjdhepioehfmhaa
