/- The law DrvqRefuses of its plain function. -/
import Derived.Test.YtpfddjdkafjjfaaRP15h
namespace Go.Proofs.Ytpfddjdkafjjfaa
open Go.Aq Go.IntWalk
set_option linter.unusedVariables false
theorem max_len : maxLen = 9223372036854775807 := by decide
theorem sub_zero {α : Type} (xs : List α) (n : Int) (h : 0 ≤ n ∧ n ≤ xs.length) : ((sub xs (sumI []) n).length : Int) = n := by
  unfold sub
  rw [List.length_take, List.length_drop]
  simp [sumI]; omega
/-- Behind a reaping. -/
theorem ref_had (k : Nat) (a0) (v38 v46 : Int) (v47 : Bool) (v52 : List Int) (v54 : EI) (r71 : (Int × Int × Bool × Int) × TV × TM) (R)
    (hl : v54.length ≤ 40000) (hk : 40002 ≤ k) (hi : r71.2.2.1 = v52) (ho : heldOk r71.2.1.2.2.2.2.2.2 = true)
    (hc : (r71.1.2.2.1 = false ∧ r71.2.1.2.2.2.2.2.2 = v54 ∧ r71.2.1.2.2.1 = (v46, v47)) ∨ (r71.1.2.2.1 = true ∧ r71.1.2.2.2 = 0 ∧ r71.2.1.2.2.2.2.2.2.length + 1 = v54.length)) :
    ∀ (m i j : Nat), i + m = v54.length → m < j → ∀ v74 : Bool, (r71.1.2.2.1 = true → v74 = true ∨ ∃ t, ∃ h : t < (heldL v54).length, i ≤ t ∧ (heldL v54)[t] = r71.1.1) →
      F_aqueductlaw15_DrvqRefuses.l4 k a0 v38 v46 v47 v52 v54 r71 R j v74 (i : Int) = R (IntKind.i64.wrap (v38 + (1 : Int))) r71.2.2.2.1 r71.2.1.1.1 r71.2.1.1.2.1 r71.2.1.1.2.2.1 r71.2.1.1.2.2.2 r71.2.1.2.1.1 r71.2.1.2.1.2 r71.2.1.2.2.1.1 r71.2.1.2.2.1.2 r71.2.1.2.2.2.1.1 r71.2.1.2.2.2.1.2 r71.2.1.2.2.2.2.1 r71.2.1.2.2.2.2.2.1 r71.2.2.1 r71.2.2.2.2 r71.2.1.2.2.2.2.2.2 := by
  have hH : (heldL v54).length = v54.length := heldL_len v54
  intro m
  induction m with
  | zero =>
    intro i j hi' hj v74 hv
    obtain ⟨j, rfl⟩ : ∃ i, j = i + 1 := ⟨j - 1, by omega⟩
    show F_aqueductlaw15_DrvqRefuses.l4_b _ _ _ _ _ _ _ _ _ _ _ _ = _
    unfold F_aqueductlaw15_DrvqRefuses.l4_b
    rw [O.cond_neg (by omega)]
    obtain ⟨⟨rid, rn, ris, re⟩, q', g'⟩ := r71
    dsimp only at hi ho hc hv ⊢
    simp only [O.twice_eq]
    rcases hc with ⟨rfl, h1, h2⟩ | ⟨rfl, h1, h2⟩
    · have hb : (!(decide (q'.2.2.1.1 = v46) && (decide (q'.2.2.1.2 = v47) && true))) = false := by rw [h2]; simp
      have hsm : F_aqueductref11_Same.S k (heldL q'.2.2.2.2.2.2) (heldL v54) = .ok true := by
        rw [h1]; exact Same_rfl k _ (by omega) hk
      cases v74 with
      | true =>
        rw [O.cond_pos (by simp), O.cond_false, O.cond_false, Bool.not_false, O.cond_true, ho, O.chk_true, hsm, O.bind_ok, Bool.not_true, O.cond_false, hb, O.cond_false, O.cond_neg (by rw [hi]; simp)]
      | false =>
        rw [O.cond_neg (by simp), O.cond_false, Bool.not_false, O.cond_true, ho, O.chk_true, hsm, O.bind_ok, Bool.not_true, O.cond_false, hb, O.cond_false, O.cond_neg (by rw [hi]; simp)]
    · have hv' : v74 = true := by
        rcases hv rfl with h | ⟨t, ht, h3, _⟩
        · exact h
        · omega
      subst hv'
      have hle : ((heldL q'.2.2.2.2.2.2).length : Int) = ((heldL v54).length : Int) - 1 := by rw [heldL_len, heldL_len]; omega
      have hw : IntKind.i64.wrap (((heldL v54).length : Int) - 1) = ((heldL v54).length : Int) - 1 := i64_in _ (by omega)
      rw [O.cond_neg (by simp), O.cond_true, O.cond_neg (by rw [h1]; simp), ho, O.chk_true, O.cond_neg (by rw [hw, hle]; simp), Bool.not_true, O.cond_false, O.cond_neg (by rw [hi]; simp)]
  | succ m ih =>
    intro i j hi' hj v74 hv
    obtain ⟨j, rfl⟩ : ∃ i, j = i + 1 := ⟨j - 1, by omega⟩
    have e1 : IntKind.i64.wrap ((i : Int) + 1) = ((i + 1 : Nat) : Int) := i64_in _ (by omega)
    show F_aqueductlaw15_DrvqRefuses.l4_b _ _ _ _ _ _ _ _ _ _ _ _ = _
    unfold F_aqueductlaw15_DrvqRefuses.l4_b
    rw [O.cond_pos (by omega), e1]
    cases v74 with
    | true =>
      rw [O.cond_true]
      exact ih (i + 1) j (by omega) (by omega) true (fun _ => .inl rfl)
    | false =>
      rw [O.cond_false, O.chk_dec (by omega), O.chk_dec (by omega), gt_el _ _ i (by omega)]
      refine ih (i + 1) j (by omega) (by omega) _ (fun hr => ?_)
      rcases hv hr with h | ⟨t, ht, h3, h4⟩
      · cases h
      · by_cases ht' : t = i
        · subst ht'; exact .inl (decide_eq_true h4)
        · exact .inr ⟨t, ht, by omega, h4⟩
theorem ref_loop (k : Nat) (hk : 41000 ≤ k) (fx : F_aqueductlaw15_fixed.S k = .ok true) (a0) (L : LAY) (hLa : a0.2.1 = L) (len : Nat) (hlen : len ≤ 2048) (hL : LayIn L len) (hsc : ∀ o ∈ a0.2.2, o.2.2.2.2.1.length ≤ 9223372036854775807 ∧ o.2.2.2.2.2.1.size ≤ 9223372036854775807) (hsl : a0.2.2.length ≤ 9223372036854775807) :
    ∀ (m i j : Nat), i + m = 80 → m < j → ∀ (q : TV) (g : TM), RI L len q g →
      F_aqueductlaw15_DrvqRefuses.l3 k a0 j (i : Int) g.2.1 q.1.1 q.1.2.1 q.1.2.2.1 q.1.2.2.2 q.2.1.1 q.2.1.2 q.2.2.1.1 q.2.2.1.2 q.2.2.2.1.1 q.2.2.2.1.2 q.2.2.2.2.1 q.2.2.2.2.2.1 g.1 g.2.2 q.2.2.2.2.2.2 = .ok true := by
  have s1 := hL.sz
  intro m
  induction m with
  | zero =>
    intro i j hi hj q g h
    obtain ⟨j, rfl⟩ : ∃ i, j = i + 1 := ⟨j - 1, by omega⟩
    show F_aqueductlaw15_DrvqRefuses.l3_b _ _ _ _ _ _ _ _ _ _ _ _ _ _ _ _ _ _ _ _ _ = _
    unfold F_aqueductlaw15_DrvqRefuses.l3_b
    rw [O.cond_true]
    by_cases h1 : (i : Int) < a0.2.2.length
    · rw [O.cond_pos h1, O.cond_neg (by omega), fx, O.bind_ok]
    · rw [O.cond_neg h1, fx, O.bind_ok]
  | succ m ih =>
    intro i j hi hj q g h
    obtain ⟨j, rfl⟩ : ∃ i, j = i + 1 := ⟨j - 1, by omega⟩
    have e1 : IntKind.i64.wrap ((i : Int) + 1) = ((i + 1 : Nat) : Int) := i64_in _ (by omega)
    have eq' : ((q.1.1, q.1.2.1, q.1.2.2.1, q.1.2.2.2), (q.2.1.1, q.2.1.2), (q.2.2.1.1, q.2.2.1.2), (q.2.2.2.1.1, q.2.2.2.1.2), q.2.2.2.2.1, q.2.2.2.2.2.1, q.2.2.2.2.2.2) = q := rfl
    have eg' : (g.1, g.2.1, g.2.2) = g := rfl
    have hids := h.ids; have hfr := h.fr
    have hho := h.held s1.2
    show F_aqueductlaw15_DrvqRefuses.l3_b _ _ _ _ _ _ _ _ _ _ _ _ _ _ _ _ _ _ _ _ _ = _
    unfold F_aqueductlaw15_DrvqRefuses.l3_b
    rw [O.cond_true]
    by_cases h1 : (i : Int) < a0.2.2.length
    · have hcb : 0 ≤ (i : Int) ∧ (i : Int) < (a0.2.2.length : Int) := by omega
      rw [O.cond_pos h1, O.cond_pos (by omega), O.chk_dec hcb, O.chk_dec hcb, hho, O.chk_true, e1]
      have hmem : ∀ d, gt d a0.2.2 (i : Int) ∈ a0.2.2 := by
        intro d
        rw [gt_el d _ i (by omega)]
        exact List.getElem_mem _
      generalize ho : gt ((0 : Int), (0 : Int), (0 : Int), (0 : Int), [], ByteArray.empty, ((0 : Int), false, (0 : Int)), false) a0.2.2 (i : Int) = o
      have hom := hmem ((0 : Int), (0 : Int), (0 : Int), (0 : Int), [], ByteArray.empty, ((0 : Int), false, (0 : Int)), false)
      rw [ho] at hom
      obtain ⟨o1, o2⟩ := hsc o hom
      by_cases c0 : o.1 = 0
      · -- a posting
        have hmn : 0 ≤ (min (List.length o.2.2.2.2.1 : Int) (70 : Int)) ∧ (min (List.length o.2.2.2.2.1 : Int) (70 : Int)) ≤ (List.length o.2.2.2.2.1 : Int) := by omega
        have hc1 : (decide (0 ≤ (min (List.length o.2.2.2.2.1 : Int) (70 : Int)) ∧ (min (List.length o.2.2.2.2.1 : Int) (70 : Int)) ≤ (List.length o.2.2.2.2.1 : Int)) && (decide (0 ≤ (List.length o.2.2.2.2.1 : Int) ∧ (List.length o.2.2.2.2.1 : Int) ≤ (List.length o.2.2.2.2.1 : Int)))) = true := by simp; omega
        have hsl' := sub_zero o.2.2.2.2.1 (min (List.length o.2.2.2.2.1 : Int) (70 : Int)) (by omega)
        rw [O.cond_pos c0, hc1, O.chk_true, O.chk_dec hmn, eq', eg']
        obtain ⟨r, hr, hrc⟩ := Post_any k (by omega) s1.2 (sub o.2.2.2.2.1 (sumI []) (min (List.length o.2.2.2.2.1 : Int) (70 : Int))) q g h
        rw [hr, O.bind_ok]
        rcases hrc with ⟨r1, r2, r3⟩ | ⟨r1, r2, r3, r4, r5, r6, r7⟩
        · obtain ⟨⟨rid, re⟩, q', g'⟩ := r
          cases r3
          dsimp only at r1 r2 ⊢
          subst r2
          rw [O.cond_pos r1, O.cond_neg (by simp), O.cond_neg (by simp), hho, O.chk_true, Same_rfl k _ (by rw [heldL_len]; omega) (by omega), O.bind_ok, Bool.not_true, O.cond_false, O.cond_neg (by simp), O.cond_neg r1]
          exact ih (i + 1) j (by omega) (by omega) q g h
        · have hf : r.2.1.2.2.2.2.2.1 = IntKind.i64.wrap (q.2.2.2.2.2.1 - (List.length o.2.2.2.2.1 : Int)) := by
            rw [r3]; congr 1; omega
          have hho' := r2.held s1.2
          have hsz : q.2.2.2.2.2.2.length + 1 ≤ 40000 := by have := r2.ids; have := r2.fr; omega
          have hlen1 : ((heldL r.2.1.2.2.2.2.2.2).length : Int) = IntKind.i64.wrap (((heldL q.2.2.2.2.2.2).length : Int) + 1) := by
            rw [heldL_len, heldL_len, i64_in _ (by omega)]; omega
          rw [O.cond_neg (by rw [r1]; simp), O.cond_pos r1, O.cond_neg (by rw [hf]; simp), hho', O.chk_true, O.cond_neg (by rw [hlen1]; simp), O.cond_neg (by omega), O.cond_neg (by rw [hLa]; omega)]
          exact ih (i + 1) j (by omega) (by omega) r.2.1 r.2.2 r2
      by_cases c1 : o.1 = 1
      · -- a reaping
        rw [O.cond_neg c0, O.cond_pos c1, eq', eg']
        obtain ⟨r, hr, r1, r2, r3⟩ := Reap_any k (by omega) (by omega) hL q g h
        rw [hr, O.bind_ok]
        dsimp only
        have hh := ref_had k a0 (i : Int) q.2.2.1.1 q.2.2.1.2 g.1 q.2.2.2.2.2.2 r (F_aqueductlaw15_DrvqRefuses.l3 k a0 j) (by omega) (by omega) r1 (r2.held s1.2) (by
          rcases r3 with ⟨p1, p2⟩ | ⟨p1, p2, p3, p4⟩
          · exact .inl ⟨p1, by rw [p2], by rw [p2]⟩
          · exact .inr ⟨p1, p2, p4⟩) q.2.2.2.2.2.2.length 0 k (by omega) (by omega) false (by
          intro hr1
          rcases r3 with ⟨p1, p2⟩ | ⟨p1, p2, p3, p4⟩
          · rw [p1] at hr1; cases hr1
          · have := (heldL_mem q.2.2.2.2.2.2 r.1.1).2 p3
            obtain ⟨t, ht, e⟩ := List.getElem_of_mem this
            exact .inr ⟨t, ht, Nat.zero_le _, e⟩)
        rw [e1] at hh
        refine Eq.trans hh ?_
        exact ih (i + 1) j (by omega) (by omega) r.2.1 r.2.2 r2
      have wr : ∀ (a : Int) (s : ByteArray), ∃ r, F_gmem_Memory_Write.S k a s g = .ok r ∧ RI L len q r.2 := by
        intro a s
        rw [Write_S k a s g h.okg]
        by_cases hm : mayM a s.size g.1.length = true
        · rw [if_pos hm]
          have w := wrM_ok g a s h.okg hm
          exact ⟨_, rfl, ⟨h.lay, h.nx, h.bk, h.fr, h.sum, h.vals, h.keys, h.kin, w.1, w.2.trans h.len⟩⟩
        · rw [if_neg hm]; exact ⟨_, rfl, h⟩
      by_cases c2 : o.1 = 2
      · obtain ⟨s, hs⟩ := used_ok k (by omega) (o.1, o.2.1, o.2.2.1, o.2.2.2.1, o.2.2.2.2.1, o.2.2.2.2.2.1, o.2.2.2.2.2.2.1, o.2.2.2.2.2.2.2) q.2.2.1.2
        obtain ⟨r, hr, hR⟩ := wr (IntKind.i64.wrap ((IntKind.i64.wrap (a0.2.1.1 + (IntKind.i64.wrap ((16 : Int) * q.2.2.1.1)))) + (8 : Int))) s
        rw [O.cond_neg c0, O.cond_neg c1, O.cond_pos c2, hs, O.bind_ok, eg', hr, O.bind_ok]
        exact ih (i + 1) j (by omega) (by omega) q r.2 hR
      by_cases c3 : o.1 = 3
      · obtain ⟨r, hr, hR⟩ := wr (bAnd .i64 o.2.1 (4095 : Int)) (ByteArray.extract (o.2.2.2.2.2.1) 0 (min (ByteArray.size (o.2.2.2.2.2.1) : Int) (200 : Int)).toNat)
        rw [O.cond_neg c0, O.cond_neg c1, O.cond_neg c2, O.cond_pos c3, O.chk_dec (by omega), eg', hr, O.bind_ok]
        exact ih (i + 1) j (by omega) (by omega) q r.2 hR
      · rw [O.cond_neg c0, O.cond_neg c1, O.cond_neg c2, O.cond_neg c3]
        exact ih (i + 1) j (by omega) (by omega) q g h
    · rw [O.cond_neg h1, fx, O.bind_ok]
theorem ref_none (k : Nat) (fx : F_aqueductlaw15_fixed.S k = .ok true) (a0) (r) (n : Nat) (hn : 0 < n) : F_aqueductlaw15_DrvqRefuses.l1 k a0 r n = .ok true := by
  obtain ⟨n, rfl⟩ : ∃ m, n = m + 1 := ⟨n - 1, by omega⟩
  show F_aqueductlaw15_DrvqRefuses.l1_b _ _ _ _ = _
  unfold F_aqueductlaw15_DrvqRefuses.l1_b
  rw [O.cond_false, fx, O.bind_ok]
theorem Pure.DrvqRefuses : ∀ (a0 : Int × (Int × Int × Int × Int) × (List (Int × Int × Int × Int × (List (Int × Int × Bool)) × ByteArray × (Int × Bool × Int) × Bool))), okF (.cons (.leaf (.int .i64)) (.cons (.agg (.cons (.leaf (.int .i64)) (.cons (.leaf (.int .i64)) (.cons (.leaf (.int .i64)) (.one (.leaf (.int .i64)) []))))) (.one (.tab 36 (.cons (.leaf (.int .i64)) (.cons (.leaf (.int .i64)) (.cons (.leaf (.int .i64)) (.cons (.leaf (.int .i64)) (.cons (.row false 56 [.int .i64, .int .i64, .bool]) (.cons (.leaf .str) (.cons (.agg (.cons (.leaf (.int .i64)) (.cons (.leaf .bool) (.one (.leaf (.int .i64)) [])))) (.one (.leaf .bool) []))))))))) []))) a0 → ∃ k, F_aqueductlaw15_DrvqRefuses.S k a0 = .ok true := by
  intro a0 h
  obtain ⟨h1, h2⟩ := h.2.2
  have h1 : a0.2.2.length ≤ maxLen := h1
  rw [max_len] at h1
  have hsc : ∀ o ∈ a0.2.2, o.2.2.2.2.1.length ≤ 9223372036854775807 ∧ o.2.2.2.2.2.1.size ≤ 9223372036854775807 := by
    intro o ho
    have h3 := h2 o ho
    have h4 : o.2.2.2.2.1.length ≤ maxLen := h3.2.2.2.2.1.1
    have h5 : o.2.2.2.2.2.1.size ≤ maxLen := h3.2.2.2.2.2.1
    rw [max_len] at h4 h5
    exact ⟨h4, h5⟩
  obtain ⟨k, hk, fx⟩ : ∃ k : Nat, 41000 ≤ k ∧ F_aqueductlaw15_fixed.S k = .ok true := ⟨41000 + 60, by omega, fixed15 41000⟩
  refine ⟨k, ?_⟩
  obtain ⟨g, g1, g2, g3, hz⟩ := laid_S k a0
  unfold F_aqueductlaw15_DrvqRefuses.S F_aqueductlaw15_DrvqRefuses.top
  rcases hz with hz | ⟨hL, X, Y, hz⟩
  · rw [hz, O.sum_inr, O.sum_inl, Bool.not_true, O.cond_false]
    exact ref_none k fx a0 _ k (by omega)
  · have s1 := hL.sz
    rw [hz, O.sum_inr, O.sum_inr, O.sum_inr, O.sum_inr, Bool.not_true, O.cond_false]
    exact ref_loop k hk fx a0 a0.2.1 rfl g.1.length (by omega) hL hsc h1 80 0 k (by omega) (by omega) (q0L a0.2.1) g ⟨rfl, ⟨by show (0 : Int) ≤ 0; omega, by show (0 : Int) < a0.2.1.2.1; omega⟩, ⟨by show (0 : Int) ≤ 0; omega, by show (0 : Int) < a0.2.1.2.1; omega⟩, by show 0 ≤ a0.2.1.2.1; omega, by show a0.2.1.2.1 + sm [] = _; simp [sm], fun e he => (by cases he), by show (List.map _ []).Nodup; simp, fun e he => (by cases he), g1, rfl⟩
end Go.Proofs.Ytpfddjdkafjjfaa
