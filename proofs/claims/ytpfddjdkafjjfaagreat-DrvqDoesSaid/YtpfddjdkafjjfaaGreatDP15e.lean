/- Layer 15, plain: queues that lie anyhow: Check, New; what laid comes to. -/
import Derived.Test.YtpfddjdkafjjfaaGreatDP15d
import Derived.Test.YtpfddjdkafjjfaaGreatDP15f
namespace Go.Proofs.YtpfddjdkafjjfaaGreat
open Go.Aq Go.IntWalk
set_option linter.unusedVariables false
abbrev LAY := Int × Int × Int × Int
/-- What Check answers. -/
def chkL (L : LAY) (len : Int) : Int :=
  if L.2.1 < 1 then 140 else if L.2.1 > 32768 then 140 else if Int.tmod L.1 16 ≠ 0 then 140 else if Int.tmod L.2.2.1 4 ≠ 0 then 140 else if Int.tmod L.2.2.2 4 ≠ 0 then 140 else
  if mayM L.1 (16 * L.2.1) len = true then (if mayM L.2.2.1 4 len = true then (if mayM L.2.2.2 4 len = true then 0 else 140) else 140) else 140
theorem Check_g (k : Nat) (L : LAY) (g : TM) (h : g.1.length ≤ 1048576) : F_devq_Check.S k L g = .ok (chkL L g.1.length) := by
  unfold F_devq_Check.S chkL
  by_cases a1 : L.2.1 < 1
  · rw [O.cond_pos a1, if_pos a1]
  by_cases a2 : L.2.1 > 32768
  · rw [O.cond_neg a1, O.cond_pos a2, if_neg a1, if_pos a2]
  rw [O.cond_neg a1, O.cond_neg a2, if_neg a1, if_neg a2]
  by_cases a3 : Int.tmod L.1 16 ≠ 0
  · rw [O.cond_pos a3, if_pos a3]
  rw [O.cond_neg a3, if_neg a3]
  by_cases a4 : Int.tmod L.2.2.1 4 ≠ 0
  · rw [O.cond_pos a4, if_pos a4]
  rw [O.cond_neg a4, if_neg a4]
  by_cases a5 : Int.tmod L.2.2.2 4 ≠ 0
  · rw [O.cond_pos a5, if_pos a5]
  rw [O.cond_neg a5, if_neg a5, i64_in (16 * L.2.1) (by omega), May_S k _ _ g h, O.bind_ok]
  by_cases b1 : mayM L.1 (16 * L.2.1) g.1.length = true
  · rw [if_pos b1, b1, Bool.not_true, O.cond_false, May_S k _ _ g h, O.bind_ok]
    by_cases b2 : mayM L.2.2.1 4 g.1.length = true
    · rw [if_pos b2, b2, Bool.not_true, O.cond_false, May_S k _ _ g h, O.bind_ok]
      by_cases b3 : mayM L.2.2.2 4 g.1.length = true
      · rw [if_pos b3, b3, Bool.not_true, O.cond_false]
      · rw [if_neg b3, Bool.eq_false_iff.2 b3, Bool.not_false, O.cond_true]
    · rw [if_neg b2, Bool.eq_false_iff.2 b2, Bool.not_false, O.cond_true]
  · rw [if_neg b1, Bool.eq_false_iff.2 b1, Bool.not_false, O.cond_true]
theorem rCheck_g (k : Nat) (L : LAY) (g : TR) (h : g.1.size ≤ 1048576) : F_aqueductref14_Check.S k L g = .ok (chkL L g.1.size) := by
  unfold F_aqueductref14_Check.S chkL
  by_cases a1 : L.2.1 < 1
  · rw [O.cond_pos a1, if_pos a1]
  by_cases a2 : L.2.1 > 32768
  · rw [O.cond_neg a1, O.cond_pos a2, if_neg a1, if_pos a2]
  rw [O.cond_neg a1, O.cond_neg a2, if_neg a1, if_neg a2]
  by_cases a3 : Int.tmod L.1 16 ≠ 0
  · rw [O.cond_pos a3, if_pos a3]
  rw [O.cond_neg a3, if_neg a3]
  by_cases a4 : Int.tmod L.2.2.1 4 ≠ 0
  · rw [O.cond_pos a4, if_pos a4]
  rw [O.cond_neg a4, if_neg a4]
  by_cases a5 : Int.tmod L.2.2.2 4 ≠ 0
  · rw [O.cond_pos a5, if_pos a5]
  rw [O.cond_neg a5, if_neg a5, i64_in (16 * L.2.1) (by omega), rMay_S k _ _ g h, O.bind_ok]
  by_cases b1 : mayM L.1 (16 * L.2.1) g.1.size = true
  · rw [if_pos b1, b1, Bool.not_true, O.cond_false, rMay_S k _ _ g h, O.bind_ok]
    by_cases b2 : mayM L.2.2.1 4 g.1.size = true
    · rw [if_pos b2, b2, Bool.not_true, O.cond_false, rMay_S k _ _ g h, O.bind_ok]
      by_cases b3 : mayM L.2.2.2 4 g.1.size = true
      · rw [if_pos b3, b3, Bool.not_true, O.cond_false]
      · rw [if_neg b3, Bool.eq_false_iff.2 b3, Bool.not_false, O.cond_true]
    · rw [if_neg b2, Bool.eq_false_iff.2 b2, Bool.not_false, O.cond_true]
  · rw [if_neg b1, Bool.eq_false_iff.2 b1, Bool.not_false, O.cond_true]
theorem chkL_or (L : LAY) (len : Int) : chkL L len = 0 ∨ chkL L len = 140 := by
  unfold chkL
  repeat' split
  all_goals first | exact .inl rfl | exact .inr rfl
/-- The ring, and both events, lie in memory. -/
structure LayIn (L : LAY) (len : Int) : Prop where
  sz : 1 ≤ L.2.1 ∧ L.2.1 ≤ 32768
  r : 0 ≤ L.1 ∧ L.1 + 16 * L.2.1 ≤ len
  d : 0 ≤ L.2.2.1 ∧ L.2.2.1 + 4 ≤ len
  e : 0 ≤ L.2.2.2 ∧ L.2.2.2 + 4 ≤ len
theorem chkL_in {L : LAY} {len : Int} (h : chkL L len = 0) : LayIn L len := by
  unfold chkL at h
  repeat' split at h
  all_goals first | (exact absurd h (by decide)) | skip
  rename_i a1 a2 _ _ _ b1 b2 b3
  rw [mayM_iff] at b1 b2 b3
  exact ⟨by omega, by omega, by omega, by omega⟩
def zb : ByteArray := ⟨#[0]⟩
def zerL (g : TM) (L : LAY) : TM := wrM (wrM (wrM g L.1 (repT zb (16 * L.2.1))) L.2.2.1 (repT zb 4)) L.2.2.2 (repT zb 4)
theorem zsz (n : Int) (h : 0 ≤ n) : (repT zb n).size = n.toNat := rep_size n h
theorem zerL_ok (g : TM) (L : LAY) (h : okM g) (hL : LayIn L g.1.length) : okM (zerL g L) ∧ (zerL g L).1.length = g.1.length := by
  have s1 := hL.sz; have s2 := hL.r; have s3 := hL.d; have s4 := hL.e
  have a := wrM_ok g L.1 (repT zb (16 * L.2.1)) h (mayM_iff.2 (by rw [zsz _ (by omega)]; omega))
  have b := wrM_ok _ L.2.2.1 (repT zb 4) a.1 (mayM_iff.2 (by rw [zsz _ (by omega), a.2]; omega))
  have c := wrM_ok _ L.2.2.2 (repT zb 4) b.1 (mayM_iff.2 (by rw [zsz _ (by omega), b.2, a.2]; omega))
  exact ⟨c.1, by show (zerL g L).1.length = _; unfold zerL; rw [c.2, b.2, a.2]⟩
def q0L (L : LAY) : TV := (L, ((0 : Int), true), ((0 : Int), true), ((0 : Int), true), (0 : Int), L.2.1, [])
theorem drvNew_g (k : Nat) (L : LAY) (g : TM) (h : okM g) : F_drvq_New.S k L g = .ok (if chkL L g.1.length = 0 then .inr ((0 : Int), (zerL g L, q0L L)) else .inl ((140 : Int), g)) := by
  unfold F_drvq_New.S
  rw [Check_g k L g h.1, O.bind_ok]
  rcases chkL_or L g.1.length with hc | hc
  · have hL := chkL_in hc
    have s1 := hL.sz; have s2 := hL.r; have s3 := hL.d; have s4 := hL.e
    have a := wrM_ok g L.1 (repT zb (16 * L.2.1)) h (mayM_iff.2 (by rw [zsz _ (by omega)]; omega))
    have b := wrM_ok _ L.2.2.1 (repT zb 4) a.1 (mayM_iff.2 (by rw [zsz _ (by omega), a.2]; omega))
    rw [hc, if_pos rfl, O.cond_neg (by simp), i64_in (16 * L.2.1) (by omega), Rep_S k (16 * L.2.1) (by omega), O.bind_ok, show repT (⟨#[0]⟩ : ByteArray) (16 * L.2.1) = repT zb (16 * L.2.1) from rfl, Write_S k L.1 _ g h, O.bind_ok, if_pos (mayM_iff.2 (by rw [zsz _ (by omega)]; omega)), Rep_S k 4 (by omega), O.bind_ok, show repT (⟨#[0]⟩ : ByteArray) 4 = repT zb 4 from rfl]
    dsimp only
    rw [Write_S k L.2.2.1 _ _ a.1, O.bind_ok, if_pos (mayM_iff.2 (by rw [zsz _ (by omega), a.2]; omega)), O.bind_ok]
    dsimp only
    rw [Write_S k L.2.2.2 _ _ b.1, O.bind_ok, if_pos (mayM_iff.2 (by rw [zsz _ (by omega), b.2, a.2]; omega))]
    rfl
  · rw [hc, if_neg (by decide), O.cond_pos (by decide)]
def x0L (L : LAY) : LAY × (Int × Bool) × (Int × Bool) × (Int × Bool) × Int × List Int := (L, ((0 : Int), true), ((0 : Int), true), ((0 : Int), true), (0 : Int), List.replicate L.2.1.toNat (0 : Int))
theorem rNew_g (k : Nat) (L : LAY) (g : TM) (h : okM g) (ag : Int) (lg : List (Int × Int × Int × Bool)) (hlog : lg.length ≤ 100) :
    (chkL L g.1.length = 0 → ∃ R3, F_aqueductref15_New.S k L (Go.Aq.strOf g.1, ag, lg) = .ok (.inr ((0 : Int), R3, x0L L)) ∧ R3.1 = Go.Aq.strOf (zerL g L).1 ∧ R3.2.2.length ≤ lg.length + 3) ∧
    (chkL L g.1.length = 140 → F_aqueductref15_New.S k L (Go.Aq.strOf g.1, ag, lg) = .ok (.inl ((140 : Int), (Go.Aq.strOf g.1, ag, lg)))) := by
  obtain ⟨b, ga, gl⟩ := g
  obtain ⟨hb1, _⟩ := h
  have hb1 : b.length ≤ 1048576 := hb1
  have hs : (Go.Aq.strOf b).size = b.length := size_strOf b
  have hck := rCheck_g k L (Go.Aq.strOf b, ag, lg) (by show (Go.Aq.strOf b).size ≤ _; omega)
  rw [show ((Go.Aq.strOf b, ag, lg) : TR).1.size = b.length from hs] at hck
  refine ⟨fun hc => ?_, fun hc => ?_⟩
  · have hc : chkL L b.length = 0 := hc
    have hL := chkL_in hc
    have s1 := hL.sz; have s2 := hL.r; have s3 := hL.d; have s4 := hL.e
    have z1 : (Go.Aq.strOf (List.replicate (16 * L.2.1).toNat (0 : Int))).size = (16 * L.2.1).toNat := by rw [size_strOf, List.length_replicate]
    have z2 : (Go.Aq.strOf (List.replicate (4 : Int).toNat (0 : Int))).size = 4 := by rw [size_strOf, List.length_replicate]; rfl
    have ez : (zerL (b, ga, gl) L).1 = putAt (putAt (putAt b L.1 (bytesOf (Go.Aq.strOf (List.replicate (16 * L.2.1).toNat (0 : Int))))) L.2.2.1 (bytesOf (Go.Aq.strOf (List.replicate (4 : Int).toNat (0 : Int))))) L.2.2.2 (bytesOf (Go.Aq.strOf (List.replicate (4 : Int).toNat (0 : Int)))) := by
      unfold zerL wrM zb
      rw [rep_str, rep_str]
    show ∃ R3, F_aqueductref15_New.S k L (Go.Aq.strOf b, ag, lg) = .ok (.inr ((0 : Int), R3, x0L L)) ∧ R3.1 = Go.Aq.strOf (zerL (b, ga, gl) L).1 ∧ R3.2.2.length ≤ lg.length + 3
    rw [ez]
    clear ez
    unfold F_aqueductref15_New.S
    rw [hck, hc, O.bind_ok, O.cond_neg (by simp), i64_in (16 * L.2.1) (by omega)]
    generalize hZ : Go.Aq.strOf (List.replicate (16 * L.2.1).toNat (0 : Int)) = Z at *
    generalize hY : Go.Aq.strOf (List.replicate (4 : Int).toNat (0 : Int)) = Y at *
    have l1 : (putAt b L.1 (bytesOf Z)).length = b.length := by rw [putAt_len _ _ _ (by omega) (by rw [bytesOf_len]; omega)]
    have l2 : (putAt (putAt b L.1 (bytesOf Z)) L.2.2.1 (bytesOf Y)).length = b.length := by rw [putAt_len _ _ _ (by omega) (by rw [bytesOf_len]; omega)]; exact l1
    have t1 : (Go.Aq.strOf (putAt b L.1 (bytesOf Z))).size = b.length := by rw [size_strOf]; exact l1
    have t2 : (Go.Aq.strOf (putAt (putAt b L.1 (bytesOf Z)) L.2.2.1 (bytesOf Y))).size = b.length := by rw [size_strOf]; exact l2
    have p1 := strOf_put b L.1 Z (by omega)
    have p2 := strOf_put (putAt b L.1 (bytesOf Z)) L.2.2.1 Y (by omega)
    have p3 := strOf_put (putAt (putAt b L.1 (bytesOf Z)) L.2.2.1 (bytesOf Y)) L.2.2.2 Y (by omega)
    have n1 := note1_len ag lg L.1 (Z.size : Int)
    have n2 := note1_len ag (note1 ag lg L.1 (Z.size : Int)) L.2.2.1 (Y.size : Int)
    have x1 := ext_le (Go.Aq.strOf b) 0 L.1.toNat
    have x2 := ext_le (Go.Aq.strOf b) (L.1 + (Z.size : Int)).toNat (Go.Aq.strOf b).size
    rw [O.chk_dec (by omega), rMay_S k L.1 _ _ (by show (Go.Aq.strOf b).size ≤ _; omega), O.bind_ok, mayM_iff.2 (by show 0 ≤ L.1 ∧ 0 ≤ (Z.size : Int) ∧ (Z.size : Int) ≤ ((Go.Aq.strOf b).size : Int) ∧ L.1 ≤ ((Go.Aq.strOf b).size : Int) - (Z.size : Int); omega), Bool.not_true, O.cond_false, note_S' k _ _ _ _ _ (by omega), O.bind_ok]
    dsimp only
    rw [i64_in (L.1 + _) (by omega), O.chk_dec (by omega), O.chk_dec (by omega), O.chk_dec (by omega), O.chk_dec (by rw [app_size]; omega), O.chk_dec (by omega), p1]
    clear p1 x1 x2
    generalize putAt b L.1 (bytesOf Z) = b1 at *
    have x1 := ext_le (Go.Aq.strOf b1) 0 L.2.2.1.toNat
    have x2 := ext_le (Go.Aq.strOf b1) (L.2.2.1 + (Y.size : Int)).toNat (Go.Aq.strOf b1).size
    rw [rMay_S k L.2.2.1 _ _ (by show (Go.Aq.strOf b1).size ≤ _; omega), O.bind_ok, mayM_iff.2 (by show 0 ≤ L.2.2.1 ∧ 0 ≤ (Y.size : Int) ∧ (Y.size : Int) ≤ ((Go.Aq.strOf b1).size : Int) ∧ L.2.2.1 ≤ ((Go.Aq.strOf b1).size : Int) - (Y.size : Int); omega), Bool.not_true, O.cond_false, note_S' k _ _ _ _ _ (by omega), O.bind_ok]
    dsimp only
    rw [i64_in (L.2.2.1 + _) (by omega), O.chk_dec (by omega), O.chk_dec (by omega), O.chk_dec (by omega), O.chk_dec (by rw [app_size]; omega), O.chk_dec (by omega), p2]
    clear p2 x1 x2
    generalize putAt b1 L.2.2.1 (bytesOf Y) = b2 at *
    have x1 := ext_le (Go.Aq.strOf b2) 0 L.2.2.2.toNat
    have x2 := ext_le (Go.Aq.strOf b2) (L.2.2.2 + (Y.size : Int)).toNat (Go.Aq.strOf b2).size
    rw [rMay_S k L.2.2.2 _ _ (by show (Go.Aq.strOf b2).size ≤ _; omega), O.bind_ok, mayM_iff.2 (by show 0 ≤ L.2.2.2 ∧ 0 ≤ (Y.size : Int) ∧ (Y.size : Int) ≤ ((Go.Aq.strOf b2).size : Int) ∧ L.2.2.2 ≤ ((Go.Aq.strOf b2).size : Int) - (Y.size : Int); omega), Bool.not_true, O.cond_false, note_S' k _ _ _ _ _ (by omega), O.bind_ok]
    dsimp only
    rw [i64_in (L.2.2.2 + _) (by omega), O.chk_dec (by omega), O.chk_dec (by omega), O.chk_dec (by omega), O.chk_dec (by rw [app_size]; omega), O.chk_dec (by omega), p3]
    refine ⟨_, rfl, rfl, ?_⟩
    have n3 := note1_len ag (note1 ag (note1 ag lg L.1 (Z.size : Int)) L.2.2.1 (Y.size : Int)) L.2.2.2 (Y.size : Int)
    show (note1 ag _ _ _).length ≤ _
    omega
  · have hc : chkL L b.length = 140 := hc
    unfold F_aqueductref15_New.S
    show O.bind (F_aqueductref14_Check.S k L (Go.Aq.strOf b, ag, lg)) _ = _
    rw [hck, hc, O.bind_ok, O.cond_pos (by decide)]
theorem gNew_g (k : Nat) (n : Int) (h : 64 ≤ n ∧ n ≤ 2048) : F_gmem_New.S k n = .ok (.inr ((0 : Int), (List.replicate n.toNat (0 : Int)), (0 : Int), [])) := by
  unfold F_gmem_New.S
  rw [O.cond_neg (by omega), O.cond_neg (by omega), O.chk_dec (by omega)]
theorem rMem_g (k : Nat) (n : Int) (h : 64 ≤ n ∧ n ≤ 2048) : F_aqueductref04_New.S k n = .ok (.inr ((0 : Int), (Go.Aq.strOf (List.replicate n.toNat (0 : Int))), (0 : Int), [])) := by
  unfold F_aqueductref04_New.S
  rw [O.cond_neg (by omega), O.cond_neg (by omega), O.chk_dec (by omega)]
/-- What laid comes to: no queue, or one at its beginning. -/
theorem laid_S (k : Nat) (a0) : ∃ g : TM, okM g ∧ 64 ≤ g.1.length ∧ g.1.length ≤ 2048 ∧
    (F_aqueductlaw15_laid.S k a0 = .ok (.inr (.inl (true, g))) ∨
      (LayIn a0.2.1 g.1.length ∧ ∃ Y, F_aqueductlaw15_laid.S k a0 = .ok (.inr (.inr (.inr (.inr (true, g, q0L a0.2.1, x0L a0.2.1, Y))))) ∧ Y.1 = Go.Aq.strOf g.1 ∧ Y.2.2.length ≤ 10)) := by
  obtain ⟨n, en⟩ : ∃ n : Int, max (64 : Int) (min a0.1 (2048 : Int)) = n := ⟨_, rfl⟩
  have hn : 64 ≤ n ∧ n ≤ 2048 := by omega
  obtain ⟨W, eW⟩ : ∃ W : ByteArray, (Go.Aq.strOf (List.replicate (30 : Int).toNat (0 : Int)) ++ (⟨#[119, 104, 97, 116, 32, 115, 116, 111, 111, 100, 32, 116, 104, 101, 114, 101]⟩ : ByteArray)) = W := ⟨_, rfl⟩
  have hW : W.size = 46 := by rw [← eW, app_size, size_strOf, List.length_replicate]; rfl
  have hcs : ((ByteArray.size (Go.Aq.strOf (List.replicate (30 : Int).toNat (0 : Int))) + ByteArray.size (⟨#[119, 104, 97, 116, 32, 115, 116, 111, 111, 100, 32, 116, 104, 101, 114, 101]⟩ : ByteArray) : Nat) : Int) ≤ 9223372036854775807 := by rw [size_strOf, List.length_replicate]; decide
  obtain ⟨b, eb⟩ : ∃ b : List Int, List.replicate n.toNat (0 : Int) = b := ⟨_, rfl⟩
  have hb : b.length = n.toNat := by rw [← eb, List.length_replicate]
  have h0 : okM (b, (0 : Int), []) := ⟨by show b.length ≤ _; omega, by simp⟩
  have w0 := wrM_ok (b, (0 : Int), []) 0 W h0 (mayM_iff.2 (by show 0 ≤ (0 : Int) ∧ 0 ≤ (W.size : Int) ∧ (W.size : Int) ≤ (b.length : Int) ∧ (0 : Int) ≤ (b.length : Int) - (W.size : Int); omega))
  have hl1 : (wrM (b, (0 : Int), []) 0 W).1.length = b.length := w0.2
  have hsb : (Go.Aq.strOf b).size = b.length := size_strOf b
  have p0 := strOf_put b 0 W (by omega)
  rw [Int.toNat_zero] at p0
  have x1 := ext_le (Go.Aq.strOf b) 0 0
  have x2 := ext_le (Go.Aq.strOf b) ((0 : Int) + (W.size : Int)).toNat (Go.Aq.strOf b).size
  unfold F_aqueductlaw15_laid.S
  rw [en, gNew_g k n hn, O.sum_inr, rMem_g k n hn, O.sum_inr, O.cond_false, O.cond_false, O.cond_neg (by simp), O.cond_neg (by simp), O.chk_dec (by decide), O.chk_dec hcs, eW, eb]
  dsimp only
  rw [Write_S k 0 W (b, (0 : Int), []) h0, O.bind_ok, if_pos (mayM_iff.2 (by show 0 ≤ (0 : Int) ∧ 0 ≤ (W.size : Int) ∧ (W.size : Int) ≤ (b.length : Int) ∧ (0 : Int) ≤ (b.length : Int) - (W.size : Int); omega)), O.cond_neg (by simp), rMay_S k 0 _ _ (by show (Go.Aq.strOf b).size ≤ _; omega), O.bind_ok, mayM_iff.2 (by show 0 ≤ (0 : Int) ∧ 0 ≤ (W.size : Int) ∧ (W.size : Int) ≤ ((Go.Aq.strOf b).size : Int) ∧ (0 : Int) ≤ ((Go.Aq.strOf b).size : Int) - (W.size : Int); omega), Bool.not_true, O.cond_false, note_S' k _ _ _ _ _ (by simp), O.bind_ok]
  dsimp only
  rw [i64_in ((0 : Int) + _) (by omega), O.chk_dec (by omega), O.chk_dec (by omega), O.chk_dec (by omega), O.chk_dec (by rw [app_size]; omega), p0, O.cond_false]
  obtain ⟨r1, r2⟩ := rNew_g k a0.2.1 (wrM (b, (0 : Int), []) 0 W) w0.1 0 (note1 0 [] 0 (W.size : Int)) (by have := note1_len 0 [] 0 (W.size : Int); simp at this ⊢; omega)
  rw [drvNew_g k a0.2.1 _ w0.1]
  rcases chkL_or a0.2.1 (wrM (b, (0 : Int), []) 0 W).1.length with hc | hc
  · have hL := chkL_in hc
    have hz := zerL_ok (wrM (b, (0 : Int), []) 0 W) a0.2.1 w0.1 hL
    have hz2 : 64 ≤ (zerL (wrM (b, (0 : Int), []) 0 W) a0.2.1).1.length ∧ (zerL (wrM (b, (0 : Int), []) 0 W) a0.2.1).1.length ≤ 2048 := by
      clear r1 r2
      rw [hz.2]
      omega
    obtain ⟨R3, hq3, hR3, hR4⟩ := r1 hc
    refine ⟨zerL (wrM (b, (0 : Int), []) 0 W) a0.2.1, hz.1, hz2.1, hz2.2, .inr ⟨by rw [hz.2]; exact hL, R3, ?_, hR3, by have := note1_len 0 [] 0 (W.size : Int); simp at this hR4; omega⟩⟩
    rw [if_pos hc, O.sum_inr, show putAt b 0 (bytesOf W) = (wrM (b, (0 : Int), []) 0 W).1 from rfl, hq3, O.sum_inr, O.cond_pos rfl, O.cond_pos rfl]
    dsimp only
    rw [hR3, decide_eq_true rfl]
  · refine ⟨wrM (b, (0 : Int), []) 0 W, w0.1, by omega, by omega, .inl ?_⟩
    rw [if_neg (by rw [hc]; decide), O.sum_inl, show putAt b 0 (bytesOf W) = (wrM (b, (0 : Int), []) 0 W).1 from rfl, r2 hc, O.sum_inl, O.cond_pos rfl, O.cond_pos rfl]
    dsimp only
    rw [decide_eq_true rfl]
end Go.Proofs.YtpfddjdkafjjfaaGreat
