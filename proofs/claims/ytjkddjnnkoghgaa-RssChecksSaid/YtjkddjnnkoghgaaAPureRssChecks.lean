/- The law RssChecks, in plain words. -/
import Derived.Test.YtjkddjnnkoghgaaAPureRssChooses
namespace Go.Proofs.Ytjkddjnnkoghgaa
open Go.Aq Go.IntWalk
set_option linter.unusedVariables false
/-- A table that deals evenly, if there is one. -/
def evP (size queues : Int) : List Int := if size < 1 ∨ size > 128 ∨ queues < 1 ∨ queues > 8 then [] else evL queues.toNat size.toNat
theorem evP_len (size queues : Int) : (evP size queues).length ≤ 128 := by
  unfold evP; split
  · exact Nat.zero_le _
  · rw [evL_len]; omega
theorem even_S (k : Nat) (hk : 200 ≤ k) (size queues : Int) : F_rss_Even.S k size queues = .ok (evP size queues) := by
  by_cases h : size < 1 ∨ size > 128 ∨ queues < 1 ∨ queues > 8
  · unfold F_rss_Even.S F_rss_Even.top
    have e : evP size queues = [] := by unfold evP; rw [if_pos h]
    rw [e, O.cond_dec, O.cond_dec, O.cond_dec, O.cond_dec]
    rcases h with h | h | h | h
    · rw [if_pos h]
    · rw [if_pos h]; split <;> rfl
    · rw [if_pos h]; repeat' split
      all_goals rfl
    · rw [if_pos h]; repeat' split
      all_goals rfl
  · have := Even_S k queues.toNat size.toNat hk (by omega) (by omega)
    rw [show ((size.toNat : Nat) : Int) = size from by omega, show ((queues.toNat : Nat) : Int) = queues from by omega] at this
    rw [this]; unfold evP; rw [if_neg h]
theorem evL_succ (q i : Nat) : evL q i ++ [((i % q : Nat) : Int)] = evL q (i + 1) := by
  unfold evL; rw [List.range_succ, List.map_append]; rfl
theorem reven_S (k : Nat) (hk : 200 ≤ k) (size queues : Int) : F_aqueductref11_Even.S k size queues = .ok (evP size queues) := by
  unfold F_aqueductref11_Even.S F_aqueductref11_Even.top
  by_cases h : size < 1 ∨ size > 128 ∨ queues < 1 ∨ queues > 8
  · obtain ⟨j, rfl⟩ : ∃ i, k = i + 1 := ⟨k - 1, by omega⟩
    show F_aqueductref11_Even.l0_b _ size queues _ _ _ = _
    unfold F_aqueductref11_Even.l0_b
    have e : evP size queues = [] := by unfold evP; rw [if_pos h]
    rw [e]
    apply O.sat_val
    refine O.sat_cond (fun h1 => O.sat_cond (fun h2 => O.sat_cond (fun h3 => O.sat_cond (fun h4 => by omega) ?_) ?_) ?_) ?_
    all_goals exact fun _ => O.sat_ok rfl
  · have lp : ∀ (m i j : Nat), (i : Int) + m = size → m < j → F_aqueductref11_Even.l0 k size queues j (i : Int) (evL queues.toNat i) = .ok (evL queues.toNat size.toNat) := by
      intro m
      induction m with
      | zero =>
        intro i j hi hj
        obtain ⟨j, rfl⟩ : ∃ i, j = i + 1 := ⟨j - 1, by omega⟩
        obtain rfl : i = size.toNat := by omega
        show F_aqueductref11_Even.l0_b k _ _ _ _ _ = _
        unfold F_aqueductref11_Even.l0_b
        rw [O.cond_neg (by omega)]
      | succ m ih =>
        intro i j hi hj
        obtain ⟨j, rfl⟩ : ∃ i, j = i + 1 := ⟨j - 1, by omega⟩
        show F_aqueductref11_Even.l0_b k _ _ _ _ _ = _
        unfold F_aqueductref11_Even.l0_b
        have e : Int.tmod (i : Int) queues = ((i % queues.toNat : Nat) : Int) := by
          rw [rem_in _ _ (by omega), Int.natCast_emod]; congr 1; omega
        rw [O.cond_pos (by omega), O.cond_pos (by omega), O.cond_pos (by omega), O.cond_pos (by omega), O.chk_dec (by omega), e, evL_succ, evL_len, O.chk_dec (by show i + 1 ≤ 1073741824; omega), i64_in (_ + 1) (by omega)]
        exact ih (i + 1) j (by omega) (by omega)
    have := lp size.toNat 0 k (by omega) (by omega)
    unfold evP; rw [if_neg h]
    exact this
theorem Pure.RssChecks : ∀ (a0 : Int × List Int × ByteArray × Int) (a1 : Int) (a2 : Int), okF (.cons (.leaf (.int .i64)) (.cons (.row false 3 [.int .i64]) (.cons (.leaf .str) (.one (.leaf (.int .i64)))))) a0 → (Lit.int .i64 a1).wf = true → (Lit.int .i64 a2).wf = true → ∃ k, F_aqueductlaw11_RssChecks.S k a0 a1 a2 = .ok true := by
  intro r n q w hn hq
  obtain ⟨w1, w2, w3⟩ := okF_rss w
  refine ⟨4000, ?_⟩
  have hr : fitR (cutR r) := w1
  have c1 := cutR_len r
  have c2 := cutR_key r
  have hm : 0 ≤ min (r.2.1.length : Int) 300 ∧ min (r.2.1.length : Int) 300 ≤ (r.2.1.length : Int) := by omega
  have inner : ∀ (v : Int) (R : Int → O Bool) (m i j : Nat) (l : List Int), i + m = l.length → l.length ≤ 128 → m < j → F_aqueductlaw11_RssChecks.l1 4000 r n q v R j (i : Int) l = R (IntKind.i64.wrap (v + 1)) := by
    intro v R m
    induction m with
    | zero =>
      intro i j l hi hl hj
      obtain ⟨j, rfl⟩ : ∃ i, j = i + 1 := ⟨j - 1, by omega⟩
      show F_aqueductlaw11_RssChecks.l1_b 4000 r n q v R _ _ _ = _
      unfold F_aqueductlaw11_RssChecks.l1_b
      rw [O.cond_neg (by omega)]
    | succ m ih =>
      intro i j l hi hl hj
      obtain ⟨j, rfl⟩ : ∃ i, j = i + 1 := ⟨j - 1, by omega⟩
      show F_aqueductlaw11_RssChecks.l1_b 4000 r n q v R _ _ _ = _
      unfold F_aqueductlaw11_RssChecks.l1_b
      have sl : (su l (i : Int) (-1)).length = l.length := by unfold su; rw [List.length_set]
      rw [O.cond_pos (by omega), O.chk_dec (by omega), O.chk_dec (by omega), i64_in ((i : Int) + 1) (by omega)]
      exact ih (i + 1) j _ (by rw [sl]; omega) (by rw [sl]; omega) (by omega)
  have outer : ∀ (m i j : Nat), i + m = 2 → m < j → F_aqueductlaw11_RssChecks.l0 4000 r n q j (i : Int) = .ok true := by
    intro m
    induction m with
    | zero =>
      intro i j hi hj
      obtain ⟨j, rfl⟩ : ∃ i, j = i + 1 := ⟨j - 1, by omega⟩
      show F_aqueductlaw11_RssChecks.l0_b 4000 r n q _ _ _ = _
      unfold F_aqueductlaw11_RssChecks.l0_b
      rw [O.cond_neg (by omega)]
      simp only [O.chk_dec hm]
      show O.bind (F_rss_Check.S 4000 (cutR r)) (fun r3 => O.bind (F_aqueductref11_Check.S 4000 (cutR r)) _) = _
      rw [Check_S _ (by decide) _ hr, O.bind_ok, rCheck_S _ (by decide) _ c1 (by omega), O.bind_ok, O.cond_pos rfl, fixed_S _ (by decide), O.bind_ok]
    | succ m ih =>
      intro i j hi hj
      obtain ⟨j, rfl⟩ : ∃ i, j = i + 1 := ⟨j - 1, by omega⟩
      show F_aqueductlaw11_RssChecks.l0_b 4000 r n q _ _ _ = _
      unfold F_aqueductlaw11_RssChecks.l0_b
      have l := evP_len n q
      rw [O.cond_pos (by omega), even_S _ (by decide), O.bind_ok, reven_S _ (by decide), O.bind_ok, Same_refl _ _ (by omega) (by decide), O.bind_ok, Bool.not_true, O.cond_false]
      have := inner (i : Int) (F_aqueductlaw11_RssChecks.l0 4000 r n q j) (evP n q).length 0 4000 (evP n q) (Nat.zero_add _) l (by omega)
      refine Eq.trans this ?_
      rw [i64_in ((i : Int) + 1) (by omega)]
      exact ih (i + 1) j (by omega) (by omega)
  unfold F_aqueductlaw11_RssChecks.S F_aqueductlaw11_RssChecks.top
  rw [chk_two (by omega) (by omega), O.chk_dec (by omega)]
  exact outer 2 0 4000 rfl (by decide)
end Go.Proofs.Ytjkddjnnkoghgaa
