/- The law FdbRoom of its plain function. -/
import Derived.Test.YthdmjbndfnolmaaRPFm
namespace Go.Proofs.Ythdmjbndfnolmaa
open Go.Aq Go.IntWalk
set_option linter.unusedVariables false
theorem up_lt {l : List VT} (h : Up l) (t : Nat) (ht : t + 1 < l.length) : ltV (l[t]'(by omega)) (l[t + 1]'ht) = true := by
  unfold Up at h
  rw [List.pairwise_iff_getElem] at h
  exact h t (t + 1) (by omega) ht (by omega)
section
variable (a0 : Int) (a1 : List (Int × Int × Int × ByteArray)) (v28 : Int) (r54 : List VT × GT) (r56 : ByteArray) (r60 : Bool × GT) (r62 : ByteArray) (r64 : List VT × GT) (R : Int → Int → Int → List (KT × VT) → O Bool)
theorem room_l3 (hu : Up r64.1) (hl : r64.1.length ≤ 100) (hv : 0 ≤ v28 ∧ v28 ≤ 1000) : ∀ (m t j : Nat), t + 1 + m = 101 → m < j → F_aqueductlaw18_FdbRoom.l3 200 a0 a1 v28 r54 r56 r60 r62 r64 R j ((t + 1 : Nat) : Int) = R (v28 + 1) r64.2.1 r64.2.2.1 r64.2.2.2 := by
  intro m
  induction m with
  | zero =>
    intro t j hi hj
    obtain ⟨j, rfl⟩ : ∃ i, j = i + 1 := ⟨j - 1, by omega⟩
    show F_aqueductlaw18_FdbRoom.l3_b _ _ _ _ _ _ _ _ _ _ _ _ = _
    unfold F_aqueductlaw18_FdbRoom.l3_b
    rw [O.cond_neg (by omega), i64_in _ (by omega)]
  | succ m ih =>
    intro t j hi hj
    obtain ⟨j, rfl⟩ : ∃ i, j = i + 1 := ⟨j - 1, by omega⟩
    show F_aqueductlaw18_FdbRoom.l3_b _ _ _ _ _ _ _ _ _ _ _ _ = _
    unfold F_aqueductlaw18_FdbRoom.l3_b
    by_cases h1 : t + 1 < r64.1.length
    · have e1 : IntKind.i64.wrap (((t + 1 : Nat) : Int) - 1) = (t : Int) := by rw [i64_in _ (by omega)]; omega
      have e2 : IntKind.i64.wrap (((t + 1 : Nat) : Int) + 1) = ((t + 1 + 1 : Nat) : Int) := by rw [i64_in _ (by omega)]; omega
      rw [O.cond_pos (by omega), e1, e2]
      have c1 : (0 : Int) ≤ ((t + 1 : Nat) : Int) ∧ ((t + 1 : Nat) : Int) < (List.length r64.1 : Int) ∧ (List.length r64.1 : Int) ≤ (List.length r64.1 : Int) := by omega
      have c2 : (0 : Int) ≤ ((t + 1 : Nat) : Int) ∧ ((t + 1 : Nat) : Int) < (List.length r64.1 : Int) := by omega
      have c3 : (0 : Int) ≤ (t : Int) ∧ (t : Int) < (List.length r64.1 : Int) ∧ (List.length r64.1 : Int) ≤ (List.length r64.1 : Int) := by omega
      have c4 : (0 : Int) ≤ (t : Int) ∧ (t : Int) < (List.length r64.1 : Int) := by omega
      rw [O.chk_dec c1, O.chk_dec c2, O.chk_dec c3, O.chk_dec c4, O.chk_dec c1, O.chk_dec c2, O.chk_dec c3, O.chk_dec c4, O.chk_dec c1, O.chk_dec c2, O.chk_dec c3, O.chk_dec c4]
      rw [gt_at _ r64.1 (t + 1) h1, gt_at _ r64.1 t (by omega)]
      have hlt := up_lt hu t h1
      simp only [ltV, Bool.or_eq_true, Bool.and_eq_true, decide_eq_true_eq] at hlt
      rw [O.cond_neg (by omega)]
      rcases hlt with hlt | ⟨he, hlt⟩
      · rw [O.cond_neg (by omega)]
        exact ih (t + 1) j (by omega) (by omega)
      · rw [O.cond_pos he.symm]
        have hc : (sLt (r64.1[t + 1]).2.1 (r64.1[t]).2.1 || decide ((r64.1[t + 1]).2.1 = (r64.1[t]).2.1)) = false := by
          rw [sLt_asymm hlt, Bool.false_or, decide_eq_false_iff_not]
          intro e
          rw [e, sLt_irrefl] at hlt
          cases hlt
        rw [hc, O.cond_false]
        exact ih (t + 1) j (by omega) (by omega)
    · rw [O.cond_neg (by omega), i64_in _ (by omega)]
theorem room_l8 (j : Nat) (v : Int) : F_aqueductlaw18_FdbRoom.l8 200 a0 a1 v28 r54 r56 r60 r62 r64 R j v = F_aqueductlaw18_FdbRoom.l3 200 a0 a1 v28 r54 r56 r60 r62 r64 R j v := by kernel_rfl
theorem room_l13 (j : Nat) (v : Int) : F_aqueductlaw18_FdbRoom.l13 200 a0 a1 v28 r54 r60 r62 r64 R j v = F_aqueductlaw18_FdbRoom.l3 200 a0 a1 v28 r54 r56 r60 r62 r64 R j v := by kernel_rfl
end
theorem Pure.FdbRoom : ∀ (a0 : Int) (a1 : List (Int × Int × Int × ByteArray)), (Lit.int .i64 a0).wf = true → okS (.row false 42 [.int .i64, .int .i64, .int .i64, .str]) a1 → ∃ k, F_aqueductlaw18_FdbRoom.S k a0 a1 = .ok true := by
  intro a0 a1 _ h0
  have hlen : a1.length ≤ maxLen := h0.1
  rw [max_len] at hlen
  refine ⟨200, ?_⟩
  have fx : F_aqueductlaw18_fixed.S 200 = .ok true := fixed18 200 (by omega)
  have hK := bAnd_63 a0
  obtain ⟨n, en⟩ : ∃ n : Nat, IntKind.i64.wrap ((1 : Int) + (bAnd .i64 a0 (63 : Int))) = (n : Int) := ⟨(1 + bAnd .i64 a0 (63 : Int)).toNat, by rw [i64_in _ (by omega)]; omega⟩
  have hn : 1 ≤ n ∧ n ≤ 64 := by rw [i64_in _ (by omega)] at en; omega
  have lp : ∀ (m i j : Nat), i + m = 100 → m < j → ∀ g : GT, Inv g → g.1 = (n : Int) → F_aqueductlaw18_FdbRoom.l1 200 a0 a1 j (i : Int) g.1 g.2.1 g.2.2 = .ok true := by
    intro m
    induction m with
    | zero =>
      intro i j hi hj g hg hr
      obtain ⟨j, rfl⟩ : ∃ i, j = i + 1 := ⟨j - 1, by omega⟩
      show F_aqueductlaw18_FdbRoom.l1_b _ _ _ _ _ _ _ _ _ _ _ _ _ _ _ _ _ _ _ _ = _
      unfold F_aqueductlaw18_FdbRoom.l1_b
      by_cases h1 : (i : Int) < a1.length
      · rw [O.cond_pos h1, O.cond_neg (by omega), fx, O.bind_ok]
      · rw [O.cond_neg h1, fx, O.bind_ok]
    | succ m ih =>
      intro i j hi hj g hg hr
      obtain ⟨j, rfl⟩ : ∃ i, j = i + 1 := ⟨j - 1, by omega⟩
      show F_aqueductlaw18_FdbRoom.l1_b _ _ _ _ _ _ _ _ _ _ _ _ _ _ _ _ _ _ _ _ = _
      unfold F_aqueductlaw18_FdbRoom.l1_b
      by_cases h1 : (i : Int) < a1.length
      · have c1 : (0 : Int) ≤ (i : Int) ∧ (i : Int) < (List.length a1 : Int) ∧ (List.length a1 : Int) ≤ (List.length a1 : Int) := by omega
        have c2 : (0 : Int) ≤ (i : Int) ∧ (i : Int) < (List.length a1 : Int) := by omega
        rw [O.cond_pos h1, O.cond_pos (by omega), en]
        simp only [decide_eq_true c1, decide_eq_true c2, O.chk_true]
        rw [show ((g.1, g.2.1, g.2.2) : GT) = g from rfl, Rows_S 200 hg, O.bind_ok]
        generalize gt ((0 : Int), (0 : Int), (0 : Int), ByteArray.empty) a1 (i : Int) = x
        have hv := bAnd_15 x.2.1
        have hp := bAnd_15 x.1
        generalize bAnd .i64 x.2.1 (15 : Int) = v at hv ⊢
        generalize bAnd .i64 x.1 (15 : Int) = p at hp ⊢
        simp only [own_S, O.bind_ok, Learn_S]
        generalize hm : ownB x.2.2.1 = o
        have hok : okLearn v o p = true := okLearn_iff.2 ⟨by omega, by omega, by rw [← hm]; exact kind_own _, by omega, by omega⟩
        have hi' := inv_learn hg v o p
        have hgl := hg.len
        have next : ∀ (g' : GT), Inv g' → g'.1 = (n : Int) → F_aqueductlaw18_FdbRoom.l1 200 a0 a1 j ((i : Int) + 1) g'.1 g'.2.1 g'.2.2 = .ok true := fun g' h h' => ih (i + 1) j (by omega) (by omega) g' h h'
        have l3 : ∀ (r54 : List VT × GT) (r56 : ByteArray) (r60 : Bool × GT) (r62 : ByteArray) (g' : GT), Inv g' → g'.1 = (n : Int) → F_aqueductlaw18_FdbRoom.l3 200 a0 a1 (i : Int) r54 r56 r60 r62 (isort (vals g'), g') (F_aqueductlaw18_FdbRoom.l1 200 a0 a1 j) 200 (1 : Int) = .ok true := by
          intro r54 r56 r60 r62 g' h h'
          have hgl := h.len
          exact (room_l3 a0 a1 (i : Int) r54 r56 r60 r62 (isort (vals g'), g') _ h.up (by show (isort (vals g')).length ≤ 100; rw [rows_len]; omega) (by omega) 100 0 200 (by omega) (by omega)).trans (next g' h h')
        cases hw : mhas g.2.2 (v, o) with
        | true =>
          have hl := learn_yes hok (.inl hw)
          rw [hl] at hi'
          have e1 : mhas (mput g.2.2 (v, o) (v, o, p, (0 : Int))) (v, o) = true := by simp [mhas_put]
          have el : (isort (vals ((g.1, g.2.1, mput g.2.2 (v, o) (v, o, p, (0 : Int))) : GT))).length = g.2.2.length := by rw [rows_len]; show (mput g.2.2 (v, o) (v, o, p, (0 : Int))).length = _; rw [mput_len, if_pos hw]; omega
          rw [O.cond_true, hl, O.cond_neg (by simp), e1, O.cond_neg (by simp), O.cond_true, mget_put, O.cond_neg (by simp), Rows_S 200 hi', O.bind_ok, el, O.cond_neg (by omega), O.cond_true, Bool.not_true, O.cond_false]
          exact l3 _ _ _ _ _ hi' hr
        | false =>
          rw [O.cond_false, rows_len]
          by_cases hf : g.1 ≤ (g.2.2.length : Int)
          · have hl := learn_full hok hw hf
            rw [hl] at hi'
            rw [hl, O.cond_neg (by rw [decide_eq_false (by omega)]; simp), hw, O.cond_neg (by simp), O.cond_false, Rows_S 200 hi', O.bind_ok, rows_len, O.cond_neg (show ¬ ((g.2.2.length : Int) > (n : Int)) by omega), O.cond_false]
            exact (room_l13 a0 a1 (i : Int) _ o _ _ _ _ 200 1).trans (l3 _ _ _ _ _ hi' hr)
          · have hl := learn_yes (g := g) hok (.inr (by omega))
            rw [hl] at hi'
            have e1 : mhas (mput g.2.2 (v, o) (v, o, p, (0 : Int))) (v, o) = true := by simp [mhas_put]
            have el : (isort (vals ((g.1, g.2.1, mput g.2.2 (v, o) (v, o, p, (0 : Int))) : GT))).length = g.2.2.length + 1 := by rw [rows_len]; show (mput g.2.2 (v, o) (v, o, p, (0 : Int))).length = _; rw [mput_len, if_neg (by rw [hw]; simp)]
            rw [hl, O.cond_neg (by rw [decide_eq_true (by omega)]; simp), e1, O.cond_neg (by simp), O.cond_true, mget_put, O.cond_neg (by simp), Rows_S 200 hi', O.bind_ok, el, O.cond_neg (by omega), O.cond_true, Bool.not_false, O.cond_true, i64_in _ (by omega), O.cond_neg (by omega)]
            exact (room_l8 a0 a1 (i : Int) _ _ _ _ _ _ 200 1).trans (l3 _ _ _ _ _ hi' hr)
      · rw [O.cond_neg h1, fx, O.bind_ok]
  unfold F_aqueductlaw18_FdbRoom.S F_aqueductlaw18_FdbRoom.top
  rw [en, New_ok 200 (n : Int) 5 (by omega), O.sum_inr, O.cond_false, O.cond_neg (by simp)]
  exact lp 100 0 200 (by omega) (by omega) ((n : Int), 5, []) (inv_new (n : Int) 5 (by omega) (by omega)) rfl
end Go.Proofs.Ythdmjbndfnolmaa
