/- Layer 15, plain: Store, the next place, whether parts may be posted, Post. -/
import Derived.Test.YtpfddjdkafjjfaaGreatDPM
import Derived.Test.YtpfddjdkafjjfaaGreatDPULa
namespace Go.Proofs.YtpfddjdkafjjfaaGreat
open Go.Aq Go.IntWalk
set_option linter.unusedVariables false
theorem sized_S (k : Nat) (n : Int) (h : n = 1 ∨ n = 2 ∨ n = 4 ∨ n = 8) : F_gmem_sized.S k n = .ok true := by
  unfold F_gmem_sized.S
  rcases h with rfl | rfl | rfl | rfl
  · rw [O.cond_pos rfl]
  · rw [O.cond_neg (by decide), O.cond_pos rfl]
  · rw [O.cond_neg (by decide), O.cond_neg (by decide), O.cond_pos rfl]
  · rw [O.cond_neg (by decide), O.cond_neg (by decide), O.cond_neg (by decide)]; rfl
theorem u64_lo (v : Int) : 0 ≤ IntKind.u64.wrap v ∧ IntKind.u64.wrap v < 18446744073709551616 := by
  unfold IntKind.wrap
  simp [IntKind.bits, IntKind.signed]
  omega
theorem Store_S (k : Nat) (hk : 9 ≤ k) (a : Int) (n : Nat) (hn : n = 2 ∨ n = 4 ∨ n = 8) (v : Int) (hv : 0 ≤ v ∧ v < 18446744073709551616) (g : TM) (h : okM g) :
    F_gmem_Memory_Store.S k a (n : Int) v g = .ok (if v < 256 ^ n then (if mayM a n g.1.length then (0, wrM g a (putL v n)) else (41, g)) else (1, g)) := by
  unfold F_gmem_Memory_Store.S
  rw [sized_S k _ (by omega), O.bind_ok, Bool.not_true, O.cond_false, PutL_S k hk v n hv (by omega), O.bind_ok]
  by_cases h1 : v < 256 ^ n
  · rw [if_pos h1, if_pos h1, O.cond_neg (by simp), Write_S k a _ g h, O.bind_ok, putL_size]
  · rw [if_neg h1, if_neg h1, O.cond_pos (by simp)]
theorem Store_sat (k : Nat) (hk : 9 ≤ k) (a : Int) (n : Nat) (hn : n = 2 ∨ n = 4 ∨ n = 8) (v : Int) (g : TM) (h : okM g) :
    ∃ r, F_gmem_Memory_Store.S k a (n : Int) (IntKind.u64.wrap v) g = .ok r ∧ okM r.2 ∧ r.2.1.length = g.1.length := by
  rw [Store_S k hk a n hn _ (u64_lo v) g h]
  split
  · split
    · rename_i hm
      have hw := wrM_ok g a (putL (IntKind.u64.wrap v) n) h (by rw [putL_size]; exact hm)
      exact ⟨_, rfl, hw.1, hw.2⟩
    · exact ⟨_, rfl, h, rfl⟩
  · exact ⟨_, rfl, h, rfl⟩
def nextP (s : Int × Bool) (n : Int) : Int × Bool := if s.1 + 1 ≥ n then (s.1 + 1 - n, !s.2) else (s.1 + 1, s.2)
theorem Next_S (k : Nat) (s : Int × Bool) (n : Int) (h : 0 ≤ s.1 ∧ s.1 < n ∧ n ≤ 32768) : F_spot_Next.S k s 1 n = .ok (nextP s n, 0) := by
  unfold F_spot_Next.S
  have hc : F_spot_Check.S k s n = .ok 0 := by
    unfold F_spot_Check.S
    rw [O.cond_neg (by omega), O.cond_neg (by omega), O.cond_neg (by omega), O.cond_neg (by omega)]
  rw [hc, O.bind_ok, O.cond_neg (by simp), O.cond_neg (by omega), O.cond_neg (by omega), i64_in _ (by omega)]
  unfold nextP
  by_cases h1 : s.1 + 1 ≥ n
  · rw [O.cond_pos h1, if_pos h1, i64_in _ (by omega)]
  · rw [O.cond_neg h1, if_neg h1]
theorem nextP_in (s : Int × Bool) (n : Int) (h : 0 ≤ s.1 ∧ s.1 < n) : 0 ≤ (nextP s n).1 ∧ (nextP s n).1 < n := by
  unfold nextP
  split
  · rename_i h1
    show 0 ≤ s.1 + 1 - n ∧ s.1 + 1 - n < n
    omega
  · rename_i h1
    show 0 ≤ s.1 + 1 ∧ s.1 + 1 < n
    omega
theorem Mark_ok (k : Nat) (a : Int) (b c : Bool) : ∃ f, F_desc_Mark.S k a b c = .ok f := by
  unfold F_desc_Mark.S
  cases b with
  | true =>
    rw [O.cond_true, O.cond_dec]
    split <;> exact ⟨_, rfl⟩
  | false =>
    rw [O.cond_false, O.cond_dec]
    split <;> exact ⟨_, rfl⟩
abbrev TV := (Int × Int × Int × Int) × (Int × Bool) × (Int × Bool) × (Int × Bool) × Int × Int × List (Int × Int)
abbrev TP := Int × Int × Bool
theorem gt_el {α : Type} (d : α) (xs : List α) (i : Nat) (h : i < xs.length) : gt d xs (i : Int) = xs[i] := by
  unfold gt
  rw [Int.toNat_natCast, List.getD_eq_getElem?_getD, List.getElem?_eq_getElem h]; rfl
structure OkP (p : List TP) (len : Nat) : Prop where
  lo : 1 ≤ p.length
  hi : p.length ≤ 64
  each : ∀ x ∈ p, 1 ≤ x.2.1 ∧ mayM x.1 x.2.1 len = true
  order : (∀ x ∈ p, x.2.2 = false) ∨ p.length = 1
theorem may_S (k : Nat) (hk : 70 ≤ k) (p : List TP) (q : TV) (g : TM) (hg : okM g) (h : OkP p g.1.length) :
    F_drvq_Queue_may.S k p q g = .ok ((if (p.length : Int) > q.2.2.2.2.2.1 then 151 else 0), (q, g)) := by
  have hlo := h.lo
  have hhi := h.hi
  unfold F_drvq_Queue_may.S F_drvq_Queue_may.top
  rw [O.cond_neg (by omega), O.cond_neg (by omega)]
  have lp : ∀ (m i j : Nat), i + m = p.length → m < j → F_drvq_Queue_may.l0 k p q g j (i : Int) = .ok ((if (p.length : Int) > q.2.2.2.2.2.1 then 151 else 0), (q, g)) := by
    intro m
    induction m with
    | zero =>
      intro i j hi hj
      obtain ⟨j, rfl⟩ : ∃ i, j = i + 1 := ⟨j - 1, by omega⟩
      show F_drvq_Queue_may.l0_b _ _ _ _ _ _ = _
      unfold F_drvq_Queue_may.l0_b
      rw [O.cond_neg (by omega), O.cond_dec]
      split <;> rfl
    | succ m ih =>
      intro i j hi hj
      obtain ⟨j, rfl⟩ : ∃ i, j = i + 1 := ⟨j - 1, by omega⟩
      have hlt : i < p.length := by omega
      show F_drvq_Queue_may.l0_b _ _ _ _ _ _ = _
      unfold F_drvq_Queue_may.l0_b
      obtain ⟨e1, e2⟩ := h.each _ (List.getElem_mem hlt)
      rw [O.cond_pos (by omega), O.chk_dec (by omega), O.chk_dec (by omega), gt_el _ p i hlt, O.cond_neg (by omega), May_S k _ _ g hg.1, O.bind_ok, e2, Bool.not_true, O.cond_false, i64_in ((i : Int) + 1) (by omega)]
      by_cases h0 : i = 0
      · subst h0
        rw [O.cond_neg (by omega)]
        exact ih 1 j (by omega) (by omega)
      · obtain ⟨t, rfl⟩ : ∃ t, i = t + 1 := ⟨i - 1, by omega⟩
        have e3 : IntKind.i64.wrap (((t + 1 : Nat) : Int) - 1) = (t : Int) := by rw [i64_in _ (by omega)]; omega
        rw [O.cond_pos (by omega), e3, O.chk_dec (by omega), O.chk_dec (by omega), gt_el _ p t (by omega)]
        rcases h.order with ho | ho
        · rw [ho _ (List.getElem_mem (show t < p.length by omega)), O.cond_false]
          exact ih (t + 1 + 1) j (by omega) (by omega)
        · omega
  exact lp p.length 0 k (by omega) (by omega)
/-- What Post comes to, where it posts. -/
def PostR (q : TV) (p : List TP) (len : Nat) (z : (Int × Int) × TV × TM) : Prop :=
  ∃ s' g', z = ((((leastN q.2.2.2.2.2.2 : Nat) : Int), 0), (q.1, s', q.2.2.1, q.2.2.2.1, min (IntKind.i64.wrap (q.2.2.2.2.1 + (p.length : Int))) (IntKind.i64.wrap (2 * q.1.2.1)), IntKind.i64.wrap (q.2.2.2.2.2.1 - (p.length : Int)), mput q.2.2.2.2.2.2 ((leastN q.2.2.2.2.2.2 : Nat) : Int) (p.length : Int)), g') ∧
    0 ≤ s'.1 ∧ s'.1 < q.1.2.1 ∧ okM g' ∧ g'.1.length = len
theorem Post_no (k : Nat) (hk : 70 ≤ k) (p : List TP) (q : TV) (g : TM) (hg : okM g) (h : OkP p g.1.length) (hf : (p.length : Int) > q.2.2.2.2.2.1) : F_drvq_Queue_Post.S k p q g = .ok ((0, 151), (q, g)) := by
  unfold F_drvq_Queue_Post.S F_drvq_Queue_Post.top
  rw [may_S k hk p q g hg h, O.bind_ok, if_pos hf, O.cond_pos (by simp)]
theorem Post_yes (k : Nat) (hk : 70 ≤ k) (p : List TP) (q : TV) (g : TM) (hg : okM g) (h : OkP p g.1.length) (hf : ¬ (p.length : Int) > q.2.2.2.2.2.1) (hq : 0 ≤ q.2.1.1 ∧ q.2.1.1 < q.1.2.1 ∧ q.1.2.1 ≤ 32768) (he : q.2.2.2.2.2.2.length ≤ 1000000) :
    ∃ z, F_drvq_Queue_Post.S k p q g = .ok z ∧ PostR q p g.1.length z := by
  have hlo := h.lo
  have hhi := h.hi
  unfold F_drvq_Queue_Post.S F_drvq_Queue_Post.top
  rw [may_S k hk p q g hg h, O.bind_ok, if_neg hf, O.cond_neg (by simp), O.twice_eq, O.chk_dec he]
  have lp : ∀ (m i j : Nat) (f : Int) (s : Int × Bool) (g' : TM), i + m = p.length → m < j → 0 ≤ s.1 ∧ s.1 < q.1.2.1 → okM g' → g'.1.length = g.1.length →
      ∃ z, F_drvq_Queue_Post.l1 k p (0, q, g) j f (i : Int) s.1 s.2 g'.1 g'.2.2 g'.2.1 = .ok z ∧ PostR q p g.1.length z := by
    intro m
    induction m with
    | zero =>
      intro i j f s g' hi hj hs hg' hl
      obtain ⟨j, rfl⟩ : ∃ i, j = i + 1 := ⟨j - 1, by omega⟩
      show ∃ z, F_drvq_Queue_Post.l1_b _ _ _ _ _ _ _ _ _ _ _ _ = .ok z ∧ _
      unfold F_drvq_Queue_Post.l1_b
      obtain ⟨r, hr, r1, r2⟩ := Store_sat k (by omega) (IntKind.i64.wrap ((IntKind.i64.wrap (q.1.1 + (IntKind.i64.wrap ((16 : Int) * q.2.1.1)))) + (14 : Int))) 2 (by omega) f g' hg'
      rw [O.cond_neg (by omega)]
      have hr' : F_gmem_Memory_Store.S k (IntKind.i64.wrap ((IntKind.i64.wrap (q.1.1 + (IntKind.i64.wrap ((16 : Int) * q.2.1.1)))) + (14 : Int))) (2 : Int) (IntKind.u64.wrap f) (g'.1, g'.2.1, g'.2.2) = .ok r := hr
      rw [hr', O.bind_ok]
      exact ⟨_, rfl, s, r.2, rfl, hs.1, hs.2, r1, r2.trans hl⟩
    | succ m ih =>
      intro i j f s g' hi hj hs hg' hl
      obtain ⟨j, rfl⟩ : ∃ i, j = i + 1 := ⟨j - 1, by omega⟩
      have hlt : i < p.length := by omega
      have nx := Next_S k s q.1.2.1 (by omega)
      have ni := nextP_in s q.1.2.1 hs
      have j9 : ∀ fl : Int, ∃ z, F_drvq_Queue_Post.j9 k p (0, q, g) f (i : Int) s.1 s.2 g'.1 g'.2.2 g'.2.1 (F_drvq_Queue_Post.l1 k p (0, q, g) j) fl = .ok z ∧ PostR q p g.1.length z := by
        intro fl
        show ∃ z, F_drvq_Queue_Post.j9_b _ _ _ _ _ _ _ _ _ _ _ _ = .ok z ∧ _
        unfold F_drvq_Queue_Post.j9_b
        obtain ⟨f1, hf1⟩ := Mark_ok k fl s.2 false
        obtain ⟨a, ha, a1, a2⟩ := Store_sat k (by omega) (IntKind.i64.wrap (q.1.1 + (IntKind.i64.wrap ((16 : Int) * s.1)))) 8 (by omega) (gt ((0 : Int), (0 : Int), false) p (i : Int)).1 g' hg'
        have ha' : F_gmem_Memory_Store.S k (IntKind.i64.wrap (q.1.1 + (IntKind.i64.wrap ((16 : Int) * s.1)))) (8 : Int) (IntKind.u64.wrap (gt ((0 : Int), (0 : Int), false) p (i : Int)).1) (g'.1, g'.2.1, g'.2.2) = .ok a := ha
        obtain ⟨b, hb, b1, b2⟩ := Store_sat k (by omega) (IntKind.i64.wrap ((IntKind.i64.wrap (q.1.1 + (IntKind.i64.wrap ((16 : Int) * s.1)))) + (8 : Int))) 4 (by omega) (gt ((0 : Int), (0 : Int), false) p (i : Int)).2.1 a.2 a1
        have hb' : F_gmem_Memory_Store.S k (IntKind.i64.wrap ((IntKind.i64.wrap (q.1.1 + (IntKind.i64.wrap ((16 : Int) * s.1)))) + (8 : Int))) (4 : Int) (IntKind.u64.wrap (gt ((0 : Int), (0 : Int), false) p (i : Int)).2.1) a.2 = .ok b := hb
        obtain ⟨c, hc, c1, c2⟩ := Store_sat k (by omega) (IntKind.i64.wrap ((IntKind.i64.wrap (q.1.1 + (IntKind.i64.wrap ((16 : Int) * s.1)))) + (12 : Int))) 2 (by omega) ((leastN q.2.2.2.2.2.2 : Nat) : Int) b.2 b1
        have hc' : F_gmem_Memory_Store.S k (IntKind.i64.wrap ((IntKind.i64.wrap (q.1.1 + (IntKind.i64.wrap ((16 : Int) * s.1)))) + (12 : Int))) (2 : Int) (IntKind.u64.wrap ((leastN q.2.2.2.2.2.2 : Nat) : Int)) b.2 = .ok c := hc
        rw [hf1, O.bind_ok, ha', O.bind_ok, hb', O.bind_ok, hc', O.bind_ok, i64_in ((i : Int) + 1) (by omega)]
        by_cases h0 : (i : Int) = 0
        · rw [O.cond_pos h0, show ((s.1, s.2) : Int × Bool) = s from rfl, nx, O.bind_ok]
          exact ih (i + 1) j f1 (nextP s q.1.2.1) c.2 (by omega) (by omega) ni c1 (by omega)
        · obtain ⟨d, hd, d1, d2⟩ := Store_sat k (by omega) (IntKind.i64.wrap ((IntKind.i64.wrap (q.1.1 + (IntKind.i64.wrap ((16 : Int) * s.1)))) + (14 : Int))) 2 (by omega) f1 c.2 c1
          have hd' : F_gmem_Memory_Store.S k (IntKind.i64.wrap ((IntKind.i64.wrap (q.1.1 + (IntKind.i64.wrap ((16 : Int) * s.1)))) + (14 : Int))) (2 : Int) (IntKind.u64.wrap f1) c.2 = .ok d := hd
          rw [O.cond_neg h0, hd', O.bind_ok, show ((s.1, s.2) : Int × Bool) = s from rfl, nx, O.bind_ok]
          exact ih (i + 1) j f (nextP s q.1.2.1) d.2 (by omega) (by omega) ni d1 (by omega)
      have j8 : ∀ fl : Int, ∃ z, F_drvq_Queue_Post.j8 k p (0, q, g) f (i : Int) s.1 s.2 g'.1 g'.2.2 g'.2.1 (F_drvq_Queue_Post.l1 k p (0, q, g) j) fl = .ok z ∧ PostR q p g.1.length z := by
        intro fl
        show ∃ z, F_drvq_Queue_Post.j8_b _ _ _ _ _ _ _ _ _ _ _ _ _ = .ok z ∧ _
        unfold F_drvq_Queue_Post.j8_b
        cases (gt ((0 : Int), (0 : Int), false) p (i : Int)).2.2 with
        | true => rw [O.cond_true]; exact j9 _
        | false => rw [O.cond_false]; exact j9 _
      show ∃ z, F_drvq_Queue_Post.l1_b _ _ _ _ _ _ _ _ _ _ _ _ = .ok z ∧ _
      unfold F_drvq_Queue_Post.l1_b
      rw [O.cond_pos (by omega), O.chk_dec (by omega), O.chk_dec (by omega), O.cond_dec]
      split
      · exact j8 1
      · exact j8 0
  exact lp p.length 0 k 0 q.2.1 g (by omega) (by omega) ⟨hq.1, hq.2.1⟩ hg rfl
end Go.Proofs.YtpfddjdkafjjfaaGreat
