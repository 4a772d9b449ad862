/- Layer 15, plain: the document's New leaves the same bytes as the driver's. -/
import Derived.Test.YtpfddjdkafjjfaaGreatDP15b
namespace Go.Proofs.YtpfddjdkafjjfaaGreat
open Go.Aq Go.IntWalk
set_option linter.unusedVariables false
theorem rCheck_ok (k : Nat) (n : Int) (hn : 1 ≤ n ∧ n ≤ 8) (g : TR) (hl : g.1.size = 1024) : F_aqueductref14_Check.S k (layQ n) g = .ok 0 := by
  unfold F_aqueductref14_Check.S layQ
  dsimp only
  rw [O.cond_neg (by omega), O.cond_neg (by omega), O.cond_neg (by decide), O.cond_neg (by decide), O.cond_neg (by decide), rMay_S k _ _ g (by omega), O.bind_ok, hl, i64_in (16 * n) (by omega), mayM_iff.2 (by omega), Bool.not_true, O.cond_false, rMay_S k _ _ g (by omega), O.bind_ok, hl, mayM_iff.2 (by omega), Bool.not_true, O.cond_false, rMay_S k _ _ g (by omega), O.bind_ok, hl, mayM_iff.2 (by omega), Bool.not_true, O.cond_false]
theorem sz_put (b : List Int) (a : Int) (s : ByteArray) (h : 0 ≤ a ∧ a + s.size ≤ b.length) : (Go.Aq.strOf (putAt b a (bytesOf s))).size = b.length := by
  rw [size_strOf, putAt_len _ _ _ h.1 (by rw [bytesOf_len]; omega)]
theorem ext_le (s : ByteArray) (i j : Nat) : (ByteArray.extract s i j).size ≤ s.size := by rw [ext_size]; omega
def note1 (ag : Int) (lg : List (Int × Int × Int × Bool)) (a n : Int) : List (Int × Int × Int × Bool) := if n > 0 then ([] ++ lg) ++ [(ag, a, n, true)] else lg
theorem note1_len (ag : Int) (lg : List (Int × Int × Int × Bool)) (a n : Int) : (note1 ag lg a n).length ≤ lg.length + 1 := by
  unfold note1
  split <;> simp
theorem note_S' (k : Nat) (a n ag : Int) (B : ByteArray) (lg : List (Int × Int × Int × Bool)) (hh : lg.length ≤ 4000) : F_aqueductref04_Memory_note.S k a n true (B, ag, lg) = .ok (B, ag, note1 ag lg a n) := note_S k a n true (B, ag, lg) hh
theorem rNew15 (k : Nat) (n : Int) (hn : 1 ≤ n ∧ n ≤ 8) (g : TM) (h : okM g) (hl : g.1.length = 1024) (ag : Int) (lg : List (Int × Int × Int × Bool)) (hlog : lg.length ≤ 100) :
    ∃ R3 q, F_aqueductref15_New.S k (layQ n) (Go.Aq.strOf g.1, ag, lg) = .ok (.inr ((0 : Int), R3, q)) ∧ R3.1 = Go.Aq.strOf (zerQ g n).1 := by
  obtain ⟨b, ga, gl⟩ := g
  have hl : b.length = 1024 := hl
  have hs : (Go.Aq.strOf b).size = 1024 := by rw [size_strOf]; exact hl
  have z1 : (Go.Aq.strOf (List.replicate (16 * n).toNat (0 : Int))).size = (16 * n).toNat := by rw [size_strOf, List.length_replicate]
  have z2 : (Go.Aq.strOf (List.replicate (4 : Int).toNat (0 : Int))).size = 4 := by rw [size_strOf, List.length_replicate]; rfl
  have ez : (zerQ (b, ga, gl) n).1 = putAt (putAt (putAt b 0 (bytesOf (Go.Aq.strOf (List.replicate (16 * n).toNat (0 : Int))))) 512 (bytesOf (Go.Aq.strOf (List.replicate (4 : Int).toNat (0 : Int))))) 516 (bytesOf (Go.Aq.strOf (List.replicate (4 : Int).toNat (0 : Int)))) := by
    unfold zerQ wrM
    rw [rep_str, rep_str]
  rw [ez]
  clear ez
  unfold F_aqueductref15_New.S
  rw [rCheck_ok k n hn (Go.Aq.strOf b, ag, lg) hs, O.bind_ok, O.cond_neg (by simp)]
  unfold layQ
  dsimp only
  rw [i64_in (16 * n) (by omega)]
  generalize hZ : Go.Aq.strOf (List.replicate (16 * n).toNat (0 : Int)) = Z at *
  generalize hY : Go.Aq.strOf (List.replicate (4 : Int).toNat (0 : Int)) = Y at *
  have l1 : (putAt b 0 (bytesOf Z)).length = 1024 := by rw [putAt_len _ _ _ (by omega) (by rw [bytesOf_len]; omega)]; exact hl
  have l2 : (putAt (putAt b 0 (bytesOf Z)) 512 (bytesOf Y)).length = 1024 := by rw [putAt_len _ _ _ (by omega) (by rw [bytesOf_len]; omega)]; exact l1
  have s1 : (Go.Aq.strOf (putAt b 0 (bytesOf Z))).size = 1024 := by rw [size_strOf]; exact l1
  have s2 : (Go.Aq.strOf (putAt (putAt b 0 (bytesOf Z)) 512 (bytesOf Y))).size = 1024 := by rw [size_strOf]; exact l2
  have p1 := strOf_put b 0 Z (by omega)
  have p2 := strOf_put (putAt b 0 (bytesOf Z)) 512 Y (by omega)
  have p3 := strOf_put (putAt (putAt b 0 (bytesOf Z)) 512 (bytesOf Y)) 516 Y (by omega)
  have n1 := note1_len ag lg 0 (Z.size : Int)
  have n2 := note1_len ag (note1 ag lg 0 (Z.size : Int)) 512 (Y.size : Int)
  have x1 := ext_le (Go.Aq.strOf b) 0 (0 : Int).toNat
  have x2 := ext_le (Go.Aq.strOf b) ((0 : Int) + (Z.size : Int)).toNat (Go.Aq.strOf b).size
  rw [O.chk_dec (by omega), rMay_S k 0 _ _ (by show (Go.Aq.strOf b).size ≤ _; omega), O.bind_ok, mayM_iff.2 (by show 0 ≤ (0 : Int) ∧ 0 ≤ (Z.size : Int) ∧ (Z.size : Int) ≤ ((Go.Aq.strOf b).size : Int) ∧ (0 : Int) ≤ ((Go.Aq.strOf b).size : Int) - (Z.size : Int); omega), Bool.not_true, O.cond_false, note_S' k _ _ _ _ _ (by omega), O.bind_ok]
  dsimp only
  rw [i64_in ((0 : Int) + _) (by omega), O.chk_dec (by omega), O.chk_dec (by omega), O.chk_dec (by omega), O.chk_dec (by rw [app_size]; omega), O.chk_dec (by omega), p1]
  clear p1 x1 x2
  generalize putAt b 0 (bytesOf Z) = b1 at *
  have x1 := ext_le (Go.Aq.strOf b1) 0 (512 : Int).toNat
  have x2 := ext_le (Go.Aq.strOf b1) ((512 : Int) + (Y.size : Int)).toNat (Go.Aq.strOf b1).size
  rw [rMay_S k 512 _ _ (by show (Go.Aq.strOf b1).size ≤ _; omega), O.bind_ok, mayM_iff.2 (by show 0 ≤ (512 : Int) ∧ 0 ≤ (Y.size : Int) ∧ (Y.size : Int) ≤ ((Go.Aq.strOf b1).size : Int) ∧ (512 : Int) ≤ ((Go.Aq.strOf b1).size : Int) - (Y.size : Int); omega), Bool.not_true, O.cond_false, note_S' k _ _ _ _ _ (by omega), O.bind_ok]
  dsimp only
  rw [i64_in ((512 : Int) + _) (by omega), O.chk_dec (by omega), O.chk_dec (by omega), O.chk_dec (by omega), O.chk_dec (by rw [app_size]; omega), O.chk_dec (by omega), p2]
  clear p2 x1 x2
  generalize putAt b1 512 (bytesOf Y) = b2 at *
  have x1 := ext_le (Go.Aq.strOf b2) 0 (516 : Int).toNat
  have x2 := ext_le (Go.Aq.strOf b2) ((516 : Int) + (Y.size : Int)).toNat (Go.Aq.strOf b2).size
  rw [rMay_S k 516 _ _ (by show (Go.Aq.strOf b2).size ≤ _; omega), O.bind_ok, mayM_iff.2 (by show 0 ≤ (516 : Int) ∧ 0 ≤ (Y.size : Int) ∧ (Y.size : Int) ≤ ((Go.Aq.strOf b2).size : Int) ∧ (516 : Int) ≤ ((Go.Aq.strOf b2).size : Int) - (Y.size : Int); omega), Bool.not_true, O.cond_false, note_S' k _ _ _ _ _ (by omega), O.bind_ok]
  dsimp only
  rw [i64_in ((516 : Int) + _) (by omega), O.chk_dec (by omega), O.chk_dec (by omega), O.chk_dec (by omega), O.chk_dec (by rw [app_size]; omega), O.chk_dec (by omega), p3]
  exact ⟨_, _, rfl, rfl⟩
end Go.Proofs.YtpfddjdkafjjfaaGreat
