/- The law DevqOrder of its plain function. -/
import Derived.Test.YtjdhepioehfmhaaDP14f
import Derived.Test.YtjdhepioehfmhaaDP14e
namespace Go.Proofs.Ytjdhepioehfmhaa
open Go.Aq Go.IntWalk
set_option linter.unusedVariables false
theorem bAnd_le (a : Int) (m : Nat) (hm : m < 1000000) : 0 ≤ bAnd .i64 a (m : Int) ∧ bAnd .i64 a (m : Int) ≤ m := by
  have e : (BitVec.ofInt 64 (m : Int)).toNat = m := natOf_ofInt .i64 m (by show m < 2 ^ 64; omega)
  have h : (BitVec.ofInt 64 a &&& BitVec.ofInt 64 (m : Int)).toNat ≤ m := by
    rw [BitVec.toNat_and, e]; exact Nat.and_le_right
  unfold bAnd
  rw [show IntKind.i64.bits = 64 from rfl, i64_in _ (by omega)]
  omega
def qN (n : Int) (s : Int × Bool) (e : Int) : TQ := ((0, n, 1024, 1028), s, s, (0, true), e, 0, false)
theorem qN_ok (n : Int) (s : Int × Bool) (e : Int) (hn : 1 ≤ n ∧ n ≤ 32) (hs : 0 ≤ s.1 ∧ s.1 < n) (he : 0 ≤ e ∧ e ≤ 2 * n) : OkQ (qN n s e) 2048 :=
  ⟨⟨hn.1, by show n ≤ 32768; omega, ⟨Int.le_refl 0, by show 0 + 16 * n ≤ 2048; omega⟩, ⟨by show (0 : Int) ≤ 1024; decide, by show (1024 : Int) + 4 ≤ 2048; decide⟩, ⟨by show (0 : Int) ≤ 1028; decide, by show (1028 : Int) + 4 ≤ 2048; decide⟩⟩, hs, hs, ⟨Int.le_refl 0, by show 0 < n; omega⟩, he, ⟨Int.le_refl 0, by show 0 ≤ n; omega⟩⟩
theorem next_none (n : Int) (s : Int × Bool) (e : Int) (b : List Int) (hn : 1 ≤ n) (hs : 0 ≤ s.1 ∧ s.1 < n) (h : Inv s.1 n s.2 b) : nextR (qN n s e) b = ((zeroC, false, 0), qN n s e) := by
  have := h.2 s.1 hs.1 hs.2
  have e2 : sOf s.1 s.2 s.1 = s.2 := by unfold sOf; rw [if_pos (by omega)]
  rw [e2] at this
  unfold nextR qN
  simp only [Int.zero_add]
  rw [if_neg (by decide), if_neg (by omega), this, if_neg (by decide)]
abbrev R12T := Int → Bool → Int → Int → Int → Int → Int → Int → Int → Bool → Int → Bool → Int → Bool → Int → Int → Bool → List Int → List (Int × Int × Int × Bool) → O Bool
abbrev R13T := Int → Int → List Int → List (Int × Int × Int × Bool) → O Bool
section
variable (a0 : Int) (a1 : List Int) (n : Int) (hn : 1 ≤ n ∧ n ≤ 32) (hNN : IntKind.i64.wrap ((1 : Int) + (bAnd .i64 a0 (31 : Int))) = n)
variable (p : Int) (w : Bool) (i : Nat) (c : Nat) (e : Int) (hp : 0 ≤ p ∧ p < n) (he : 0 ≤ e ∧ e ≤ 2 * n) (hi : i < 60) (hc : 1 ≤ c ∧ (c : Int) ≤ min n 4)
variable (hcc : IntKind.i64.wrap ((1 : Int) + (Int.tmod (bAnd .i64 (gt (0 : Int) a1 (i : Int)) (65535 : Int)) (min n (4 : Int)))) = (c : Int))
variable (R12 : R12T) (R13 : R13T)
variable (HR : ∀ (p' : Int) (w' : Bool) (e' : Int) (g : TM), 0 ≤ p' ∧ p' < n → 0 ≤ e' ∧ e' ≤ 2 * n → okM g → Inv p' n w' g.1 → flatQ (R12 p' w' ((i : Int) + 1) g.2.1) (qN n (p', w') e') g.1 g.2.2 = .ok true)
include hn hNN hp he hi hc hcc HR
theorem more_S (r15 : (CH × Bool × Int) × TQ × TM) (r19 : Int × TQ × TM) (R16 : Int → O Bool) (e2 : Int) (he2 : 0 ≤ e2 ∧ e2 ≤ 2 * n) (hq : r19.2.1 = qN n (nextSp (p, w) c n) e2) (g : TM) (hg : okM g) (hv : Inv (nextSp (p, w) c n).1 n (nextSp (p, w) c n).2 g.1) :
    F_aqueductlaw14_DevqOrder.j272_b 100 a0 a1 p w (i : Int) r15 r19 R12 R13 R16 (usedF (decide (Int.tmod (i : Int) 3 > 0)) w) 0 g.2.1 g.1 g.2.2 = .ok true := by
  have _ := he
  unfold F_aqueductlaw14_DevqOrder.j272_b
  rw [hNN, hcc, O.cond_neg (by decide), rUsed_S, O.bind_ok, Bool.not_true, O.cond_false, used_2, O.cond_neg (by simp), i64_in (p + (c : Int)) (by omega), hq, show ((g.1, g.2.1, g.2.2) : TM) = g from rfl]
  have hs := nextSp_in (p, w) c n hp (by omega)
  have hb := hv.1
  obtain ⟨r, hr, p1, p2, p3⟩ := Next_S 100 (by omega) (qN n (nextSp (p, w) c n) e2) g hg (by rw [hb]; exact qN_ok n _ e2 hn hs he2)
  rw [next_none n _ e2 g.1 hn.1 hs hv] at p1 p2
  change r.2.1 = qN n (nextSp (p, w) c n) e2 at p2
  have hR := fun (p' : Int) (w' : Bool) (h : nextSp (p, w) c n = (p', w')) => HR p' w' e2 r.2.2 (by rw [h] at hs; exact hs) he2 (sameM_ok hg p3) (by rw [p3.1]; rw [h] at hv; exact hv)
  by_cases h : p + (c : Int) ≥ n
  · have hsp : nextSp (p, w) c n = (p + c - n, !w) := by unfold nextSp; rw [if_pos h]
    rw [O.cond_pos h, hr, O.bind_ok, p1, O.cond_false, O.cond_neg (by simp), i64_in (p + (c : Int) - n) (by omega), i64_in ((i : Int) + 1) (by omega)]
    have := hR _ _ hsp
    rw [← hsp, ← p2] at this
    exact this
  · have hsp : nextSp (p, w) c n = (p + c, w) := by unfold nextSp; rw [if_neg h]
    rw [O.cond_neg h, hr, O.bind_ok, p1, O.cond_false, O.cond_neg (by simp), i64_in ((i : Int) + 1) (by omega)]
    have := hR _ _ hsp
    rw [← hsp, ← p2] at this
    exact this
theorem looks_S (r15 : (CH × Bool × Int) × TQ × TM) (hr1 : r15.1 = (((i : Int), (c : Int), Ps (i : Int) c), true, 0)) (hr2 : r15.2.1 = ((0, n, 1024, 1028), nextSp (p, w) c n, (p, w), (0, true), e, (c : Int), false)) (hg : okM r15.2.2) (hI : Inn p n w r15.2.2.1 c i c) :
    ∀ (m j f : Nat), j + m = c → m < f → F_aqueductlaw14_DevqOrder.l16 100 a0 a1 p w (i : Int) r15 R12 R13 f (j : Int) = .ok true := by
  have hl : (Ps (i : Int) c).length = c := by simp [Ps]
  intro m
  induction m with
  | zero =>
    intro j f hj hf
    obtain ⟨f, rfl⟩ : ∃ i, f = i + 1 := ⟨f - 1, by omega⟩
    show F_aqueductlaw14_DevqOrder.l16_b 100 a0 a1 p w (i : Int) r15 R12 R13 _ _ _ = _
    unfold F_aqueductlaw14_DevqOrder.l16_b
    have tm : Int.tmod (i : Int) 3 = (i : Int) % 3 := rem_in _ _ (by omega)
    have hs := nextSp_in (p, w) c n hp (by omega)
    have hb := hI.1
    rw [hNN, hcc, O.cond_neg (by omega)]
    obtain ⟨r, hr, d1, d2, d3, d4, d5⟩ := Done_S 100 (by omega) (i : Int) c (Int.tmod (i : Int) 3) r15.2.1 r15.2.2 hg (by
      rw [hr2, hb]
      exact ⟨(qN_ok n (p, w) e hn hp he).l, hs, hp, ⟨Int.le_refl 0, by show 0 < n; omega⟩, he, ⟨by show (0 : Int) ≤ c; omega, by show (c : Int) ≤ n; omega⟩⟩) (by rw [hr2]) (by omega) (by rw [hr2]; show 1 ≤ (c : Int) ∧ (c : Int) ≤ c; omega) (by rw [tm]; omega)
    rw [hr2] at d2 d3
    have hq : r.2.1 = qN n (nextSp (p, w) c n) (min (e + c) (2 * n)) := by
      rw [d2]
      show ((0, n, 1024, 1028), nextSp (p, w) c n, nextSp (p, w) c n, (0, true), min (e + c) (2 * n), (c : Int) - c, false) = _
      rw [Int.sub_self]; rfl
    have hz : F_gmem_sized.S 100 (2 : Int) = .ok true := by
      unfold F_gmem_sized.S
      rw [O.cond_neg (by decide), O.cond_pos rfl]
    change r.2.2.1 = doneB r15.2.2.1 (0 + 16 * p) (Int.tmod (i : Int) 3) (i : Int) w at d3
    rw [Int.zero_add] at d3
    have hlen : r.2.2.1.length = 2048 := by rw [d3, doneB_len _ _ _ _ _ (by omega), hb]
    have hinv := Inn_done p n w r15.2.2.1 c i (Int.tmod (i : Int) 3) hp hn.2 hc hI
    rw [← d3] at hinv
    have rd : F_gmem_Memory_Read.S 100 (16 * p + 14) 2 r.2.2 = .ok ((strOf (sub r.2.2.1 (16 * p + 14) 2), 0), rdM r.2.2 (16 * p + 14) 2) := by
      rw [Read_S 100 _ _ _ d5, if_neg (by omega), if_pos (mayM_iff.2 (by omega))]
    have gt2 : F_words_Get.S 100 (strOf (sub r.2.2.1 (16 * p + 14) 2)) (0 : Int) (2 : Int) false = .ok (usedF (decide (Int.tmod (i : Int) 3 > 0)) w, 0) := by
      have sz : (strOf (sub r.2.2.1 (16 * p + 14) 2)).size = 2 := by rw [size_strOf, sub_len _ _ _ (by omega)]; rfl
      have := GetL_S 100 (by omega) (strOf (sub r.2.2.1 (16 * p + 14) 2)) (by omega) 0 2 (by omega) (by omega)
      rw [if_pos (by omega)] at this
      refine Eq.trans this ?_
      have e2 := doneB_fl r15.2.2.1 (16 * p) (Int.tmod (i : Int) 3) (i : Int) w (by omega)
      rw [← d3] at e2
      rw [← e2]; rfl
    rw [hr, O.bind_ok, d1, O.cond_neg (by decide), hq, O.cond_neg (by simp [qN]), hz, O.bind_ok, Bool.not_true, O.cond_false, i64_in (16 * p) (by omega), i64_in (16 * p + 14) (by omega), rd, O.bind_ok, O.cond_neg (by simp), gt2, O.bind_ok]
    exact more_S a0 a1 n hn hNN p w i c e hp he hi hc hcc R12 R13 HR r15 r _ _ ⟨by omega, by omega⟩ hq (rdM r.2.2 (16 * p + 14) 2) (rdM_ok _ _ _ d5).1 hinv
  | succ m ih =>
    intro j f hj hf
    obtain ⟨f, rfl⟩ : ∃ i, f = i + 1 := ⟨f - 1, by omega⟩
    show F_aqueductlaw14_DevqOrder.l16_b 100 a0 a1 p w (i : Int) r15 R12 R13 _ _ _ = _
    unfold F_aqueductlaw14_DevqOrder.l16_b
    have tm : Int.tmod (i : Int) 9 = (i : Int) % 9 := rem_in _ _ (by omega)
    have hgt : gt ((0 : Int), (0 : Int), false) (Ps (i : Int) c) (j : Int) = prt (i : Int) (j : Int) := by
      rw [gt_at _ _ _ (by omega)]; simp [Ps]
    rw [hNN, hcc, hr1, O.cond_pos (by omega), O.chk_dec (by show 0 ≤ (j : Int) ∧ (j : Int) < ((Ps (i : Int) c).length : Int) ∧ _; omega), O.chk_dec (by show 0 ≤ (j : Int) ∧ (j : Int) < ((Ps (i : Int) c).length : Int); omega)]
    show O.cond (!(decide ((gt ((0 : Int), (0 : Int), false) (Ps (i : Int) c) (j : Int)).1 = _) && (decide ((gt ((0 : Int), (0 : Int), false) (Ps (i : Int) c) (j : Int)).2.1 = _) && (decide ((gt ((0 : Int), (0 : Int), false) (Ps (i : Int) c) (j : Int)).2.2 = _) && true)))) _ _ = _
    rw [hgt, tm, i64_in (16 * (j : Int)) (by omega), i64_in (1032 + 16 * (j : Int)) (by omega), i64_in (1 + (i : Int) % 9) (by omega), i64_in ((j : Int) + 1) (by omega)]
    rw [decide_eq_true (show (prt (i : Int) (j : Int)).1 = 1032 + 16 * (j : Int) from rfl), decide_eq_true (show (prt (i : Int) (j : Int)).2.1 = 1 + (i : Int) % 9 from rfl), decide_eq_true (show (prt (i : Int) (j : Int)).2.2 = decide ((j : Int) > 0) from rfl)]
    show O.cond false _ _ = _
    rw [O.cond_false]
    exact ih (j + 1) f (by omega) (by omega)
theorem writes_S : ∀ (m j f : Nat), j + m = c → m < f → ∀ g : TM, okM g → Inn p n w g.1 c i j → flatQ (F_aqueductlaw14_DevqOrder.l13 100 a0 a1 p w (i : Int)) (qN n (p, w) e) R12 f (j : Int) g.2.1 g.1 g.2.2 = .ok true := by
  intro m
  induction m with
  | zero =>
    intro j f hj hf g hg hI
    obtain ⟨f, rfl⟩ : ∃ i, f = i + 1 := ⟨f - 1, by omega⟩
    obtain rfl : j = c := by omega
    unfold flatQ
    show F_aqueductlaw14_DevqOrder.l13_b 100 a0 a1 p w (i : Int) _ _ _ _ _ _ _ _ _ _ _ _ _ R12 _ _ _ _ _ _ _ = _
    unfold F_aqueductlaw14_DevqOrder.l13_b
    have hl : (Ps (i : Int) j).length = j := by simp [Ps]
    obtain ⟨r, hr, p1, p2, p3⟩ := Next_S 100 (by omega) (qN n (p, w) e) g hg (by rw [hI.1]; exact qN_ok n _ e hn hp he)
    have nx := next_Ds p n w g.1 j (i : Int) e hp hn.2 hc (by omega) hI
    rw [show qN n (p, w) e = ((0, n, 1024, 1028), (p, w), (p, w), (0, true), e, 0, false) from rfl, nx] at p1 p2
    rw [hNN, hcc, O.cond_neg (by omega)]
    change O.bind (F_devq_Queue_Next.S 100 (qN n (p, w) e) g) _ = _
    rw [hr, O.bind_ok, p1, p2]
    show O.cond false _ _ = _
    rw [O.cond_false, O.cond_neg (by simp), O.cond_neg (by simp), O.cond_neg (by simp), O.cond_neg (by show ¬ (((Ps (i : Int) j).length : Int) ≠ j); omega), O.cond_neg (by simp)]
    exact looks_S a0 a1 n hn hNN p w i j e hp he hi hc hcc R12 _ HR r p1 p2 (sameM_ok hg p3) (by rw [p3.1]; exact hI) j 0 100 (by omega) (by omega)
  | succ m ih =>
    intro j f hj hf g hg hI
    obtain ⟨f, rfl⟩ : ∃ i, f = i + 1 := ⟨f - 1, by omega⟩
    unfold flatQ
    show F_aqueductlaw14_DevqOrder.l13_b 100 a0 a1 p w (i : Int) _ _ _ _ _ _ _ _ _ _ _ _ _ R12 _ _ _ _ _ _ _ = _
    unfold F_aqueductlaw14_DevqOrder.l13_b
    have tm : Int.tmod (i : Int) 9 = (i : Int) % 9 := rem_in _ _ (by omega)
    have hx := pos_in p n j hp (by omega)
    have hD := dsc_in p n w c i j (by omega) (by omega)
    have hb := hI.1
    have wr : F_gmem_Memory_Write.S 100 (16 * pos p n j) (dscB (dsc p n w c i j)) g = .ok (0, wrM g (16 * pos p n j) (dscB (dsc p n w c i j))) := by
      rw [Write_S _ _ _ _ hg, if_pos (by rw [dscB_size, mayM_iff]; omega)]
    have hw := wrM_ok g (16 * pos p n j) (dscB (dsc p n w c i j)) hg (by rw [dscB_size, mayM_iff]; omega)
    have bd : F_aqueductref12_Build.S 100 (1032 + 16 * (j : Int), 1 + (i : Int) % 9, (i : Int), fl (decide ((j : Int) < c - 1)) (decide ((j : Int) > 0)) (rnd p n w j)) = .ok (dscB (dsc p n w c i j), 0) := by
      have fi := fl_in (decide ((j : Int) < c - 1)) (decide ((j : Int) > 0)) (rnd p n w j)
      rw [rBuild_S 100 (by omega) _ (by simp only; omega) (by simp only; omega), if_pos (by simp only; omega)]; rfl
    have nxt := ih (j + 1) f (by omega) (by omega) (wrM g (16 * pos p n j) (dscB (dsc p n w c i j))) hw.1 (Inn_step p n w g.1 c i j hp hn.2 (by omega) (by omega) (by omega) hI)
    have step : ∀ fl0 : Int, fl0 = (bif decide ((j : Int) < c - 1) then 1 else 0) + (bif decide ((j : Int) > 0) then 2 else 0) →
        flatQ (F_aqueductlaw14_DevqOrder.j267_b 100 a0 a1 p w (i : Int)) (qN n (p, w) e) (j : Int) g.2.1 g.1 g.2.2 R12 (flatQ (F_aqueductlaw14_DevqOrder.l13 100 a0 a1 p w (i : Int)) (qN n (p, w) e) R12 f) fl0 = .ok true := by
      intro fl0 h0
      show F_aqueductlaw14_DevqOrder.j267_b 100 a0 a1 p w (i : Int) _ _ _ _ _ _ _ _ _ _ _ _ _ (j : Int) g.2.1 g.1 g.2.2 R12 _ fl0 = _
      unfold F_aqueductlaw14_DevqOrder.j267_b
      rw [hNN, h0, tm, i64_in (p + (j : Int)) (by omega), i64_in (16 * (j : Int)) (by omega), i64_in (1032 + 16 * (j : Int)) (by omega), i64_in (1 + (i : Int) % 9) (by omega), u64_in (1032 + 16 * (j : Int)) (by omega), u32_in (1 + (i : Int) % 9) (by omega), i64_in ((j : Int) + 1) (by omega), rMark_S, rMark_S, show ((g.1, g.2.1, g.2.2) : TM) = g from rfl]
      by_cases h : p + (j : Int) ≥ n
      · have e1 : pos p n j = p + j - n := by unfold pos; rw [if_pos h]
        have e2 : rnd p n w j = !w := by unfold rnd; rw [if_pos h]
        rw [e2] at bd
        rw [O.cond_pos h, O.bind_ok, bd, O.bind_ok, O.cond_neg (by simp), i64_in (p + (j : Int) - n) (by omega), i64_in (16 * (p + (j : Int) - n)) (by omega), ← e1, wr, O.bind_ok, O.cond_neg (by simp)]
        exact nxt
      · have e1 : pos p n j = p + j := by unfold pos; rw [if_neg h]
        have e2 : rnd p n w j = w := by unfold rnd; rw [if_neg h]
        rw [e2] at bd
        rw [O.cond_neg h, O.bind_ok, bd, O.bind_ok, O.cond_neg (by simp), i64_in (16 * (p + (j : Int))) (by omega), ← e1, wr, O.bind_ok, O.cond_neg (by simp)]
        exact nxt
    rw [hNN, hcc, O.cond_pos (by omega), i64_in ((c : Int) - 1) (by omega)]
    have s2 : ∀ v : Int, v = (bif decide ((j : Int) < c - 1) then 1 else 0) → flatQ (F_aqueductlaw14_DevqOrder.j266_b 100 a0 a1 p w (i : Int)) (qN n (p, w) e) (j : Int) g.2.1 g.1 g.2.2 R12 (flatQ (F_aqueductlaw14_DevqOrder.l13 100 a0 a1 p w (i : Int)) (qN n (p, w) e) R12 f) (fun v => flatQ (F_aqueductlaw14_DevqOrder.j267_b 100 a0 a1 p w (i : Int)) (qN n (p, w) e) (j : Int) g.2.1 g.1 g.2.2 R12 (flatQ (F_aqueductlaw14_DevqOrder.l13 100 a0 a1 p w (i : Int)) (qN n (p, w) e) R12 f) v) v = .ok true := by
      intro v hv
      show F_aqueductlaw14_DevqOrder.j266_b 100 a0 a1 p w (i : Int) _ _ _ _ _ _ _ _ _ _ _ _ _ (j : Int) g.2.1 g.1 g.2.2 R12 _ _ v = _
      unfold F_aqueductlaw14_DevqOrder.j266_b
      by_cases h : (j : Int) > 0
      · rw [O.cond_pos h]
        refine step _ ?_
        rw [hv, decide_eq_true h]
        cases decide ((j : Int) < c - 1) <;> rfl
      · rw [O.cond_neg h]
        refine step _ ?_
        rw [hv, decide_eq_false h]
        cases decide ((j : Int) < c - 1) <;> rfl
    by_cases h : (j : Int) < c - 1
    · rw [O.cond_pos h]; exact s2 1 (by rw [decide_eq_true h]; rfl)
    · rw [O.cond_neg h]; exact s2 0 (by rw [decide_eq_false h]; rfl)
end
theorem chk_n (n : Int) (hn : 1 ≤ n ∧ n ≤ 32) : chkE ((0 : Int), n, (1024 : Int), (1028 : Int)) (many 2048) = 0 := by
  unfold chkE
  have e : many 2048 = 2048 := by decide
  rw [e]
  simp only
  rw [decide_eq_false (show ¬ n < 1 by omega), decide_eq_false (show ¬ n > 32768 by omega), i64_in (16 * n) (by omega), mayM_iff.2 (show 0 ≤ (0 : Int) ∧ 0 ≤ 16 * n ∧ 16 * n ≤ ((2048 : Nat) : Int) ∧ (0 : Int) ≤ ((2048 : Nat) : Int) - 16 * n by omega)]
  rfl
theorem Pure.DevqOrder : ∀ (a0 : Int) (a1 : List Int), (Lit.int .i64 a0).wf = true → okS (.row false 3 [.int .i64]) a1 → ∃ k, F_aqueductlaw14_DevqOrder.S k a0 a1 = .ok true := by
  intro a0 a1 _ ha
  have hml : maxLen = 9223372036854775807 := by decide
  have hlen : a1.length ≤ maxLen := ha.1
  have fx : F_aqueductlaw14_fixed.S 100 = .ok true := fixed14 60
  have hb : 0 ≤ bAnd .i64 a0 31 ∧ bAnd .i64 a0 31 ≤ 31 := bAnd_le a0 31 (by omega)
  obtain ⟨n, hNN⟩ : ∃ n, IntKind.i64.wrap ((1 : Int) + (bAnd .i64 a0 (31 : Int))) = n := ⟨_, rfl⟩
  have hn : 1 ≤ n ∧ n ≤ 32 := by rw [← hNN, i64_in _ (by omega)]; omega
  refine ⟨100, ?_⟩
  have lp : ∀ (m i f : Nat), i + m = 60 → m < f → ∀ (p : Int) (w : Bool) (e : Int) (g : TM), 0 ≤ p ∧ p < n → 0 ≤ e ∧ e ≤ 2 * n → okM g → Inv p n w g.1 → flatQ (F_aqueductlaw14_DevqOrder.l12 100 a0 a1 f p w (i : Int) g.2.1) (qN n (p, w) e) g.1 g.2.2 = .ok true := by
    intro m
    induction m with
    | zero =>
      intro i f hi hf p w e g hp he hg hI
      obtain ⟨f, rfl⟩ : ∃ i, f = i + 1 := ⟨f - 1, by omega⟩
      unfold flatQ
      show F_aqueductlaw14_DevqOrder.l12_b 100 a0 a1 _ _ _ _ _ _ _ _ _ _ _ _ _ _ _ _ _ _ _ _ _ = _
      unfold F_aqueductlaw14_DevqOrder.l12_b
      by_cases h1 : (i : Int) < a1.length
      · rw [O.cond_pos h1, O.cond_neg (by omega)]
        show O.cond true _ _ = _
        rw [O.cond_true, fx, O.bind_ok]
      · rw [O.cond_neg h1]
        show O.cond true _ _ = _
        rw [O.cond_true, fx, O.bind_ok]
    | succ m ih =>
      intro i f hi hf p w e g hp he hg hI
      obtain ⟨f, rfl⟩ : ∃ i, f = i + 1 := ⟨f - 1, by omega⟩
      unfold flatQ
      show F_aqueductlaw14_DevqOrder.l12_b 100 a0 a1 _ _ _ _ _ _ _ _ _ _ _ _ _ _ _ _ _ _ _ _ _ = _
      unfold F_aqueductlaw14_DevqOrder.l12_b
      by_cases h1 : (i : Int) < a1.length
      · rw [hNN, O.cond_pos h1, O.cond_pos (by omega), O.chk_dec (by omega), O.chk_dec (by omega), O.chk_dec (by omega)]
        have hx : 0 ≤ bAnd .i64 (gt (0 : Int) a1 (i : Int)) 65535 ∧ bAnd .i64 (gt (0 : Int) a1 (i : Int)) 65535 ≤ 65535 := bAnd_le (gt (0 : Int) a1 (i : Int)) 65535 (by omega)
        have h3 := Int.emod_nonneg (bAnd .i64 (gt (0 : Int) a1 (i : Int)) 65535) (show min n 4 ≠ 0 by omega)
        have h4 := Int.emod_lt_of_pos (bAnd .i64 (gt (0 : Int) a1 (i : Int)) 65535) (show 0 < min n 4 by omega)
        have hrm := rem_in (bAnd .i64 (gt (0 : Int) a1 (i : Int)) 65535) (min n 4) hx.1
        generalize bAnd .i64 (gt (0 : Int) a1 (i : Int)) 65535 % min n 4 = r at h3 h4 hrm
        have hcc : IntKind.i64.wrap ((1 : Int) + (Int.tmod (bAnd .i64 (gt (0 : Int) a1 (i : Int)) (65535 : Int)) (min n (4 : Int)))) = (((1 + r).toNat : Nat) : Int) := by
          rw [hrm, i64_in _ (by omega)]; omega
        exact writes_S a0 a1 n hn hNN p w i (1 + r).toNat e hp he (by omega) (by omega) hcc _ (fun p' w' e' g' hp' he' hg' hI' => ih (i + 1) f (by omega) (by omega) p' w' e' g' hp' he' hg' hI') (1 + r).toNat 0 100 (by omega) (by omega) g hg (Inv_Inn p n w g.1 _ i hI)
      · rw [O.cond_neg h1]
        show O.cond true _ _ = _
        rw [O.cond_true, fx, O.bind_ok]
  unfold F_aqueductlaw14_DevqOrder.S F_aqueductlaw14_DevqOrder.top
  rw [hNN, laid_S, if_pos (chk_n n hn)]
  have hm : (mem0 (many 2048)).1.length = 2048 := by
    show (List.replicate (many 2048) (0 : Int)).length = 2048
    rw [List.length_replicate]; decide
  have h := lp 60 0 100 (by omega) (by omega) 0 true 0 (mem0 (many 2048)) ⟨Int.le_refl 0, by omega⟩ ⟨Int.le_refl 0, by omega⟩ ⟨by rw [hm]; omega, by simp [mem0]⟩ ⟨hm, fun x x0 x1 => by
    have hr : ∀ x : Int, 0 ≤ x → x < 32 → (rdD (mem0 (many 2048)).1 (16 * x)).2.2.2 = 0 := by
      intro x h0 h1
      rw [rdD_fl _ _ (by rw [hm]; omega)]
      unfold leN
      have : sub (mem0 (many 2048)).1 (16 * x + 14) ((2 : Nat) : Int) = [0, 0] := by
        unfold sub mem0
        rw [List.drop_replicate, List.take_replicate]
        have : min ((2 : Nat) : Int).toNat (many 2048 - (16 * x + 14).toNat) = 2 := by
          have : many 2048 = 2048 := by decide
          omega
        rw [this]; rfl
      rw [this]; rfl
    rw [hr x x0 (by omega)]
    unfold sOf
    rw [if_pos (by omega)]; decide +kernel⟩
  simpa [flatQ, qN, q0] using h
end Go.Proofs.Ytjdhepioehfmhaa
