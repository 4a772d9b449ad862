/- What Finish comes to; what is left is completed as it was; the calls that are fixed. -/
import Derived.Test.YtkmhbpiphepjoaaAPQ
namespace Go.Proofs.Ytkmhbpiphepjoaa
open Go.Aq Go.IntWalk
set_option linter.unusedVariables false
/-- The sum of bytes from a place on, completed. -/
noncomputable def compP (s : ByteArray) (a b : Int) : ByteArray × Int :=
  if a < 0 ∨ b < 0 ∨ a > s.size ∨ b > s.size ∨ a + b > s.size - 2 then (⟨#[]⟩, 1)
  else (set2 s (a + b).toNat (fullP (65535 - nrm (tot (s.extract a.toNat s.size).data.toList))), 0)
section
variable (k : Nat) (s : ByteArray) (hs : s.size ≤ 1000000) (hk : s.size + 100 ≤ k)
include hs hk
theorem comp_S (a b : Int) : F_segment_Complete.S k s a b = .ok (compP s a b) := by
  have no : (a < 0 ∨ b < 0 ∨ a > s.size ∨ b > s.size ∨ a + b > s.size - 2) → O.sat (.ok ((⟨#[]⟩ : ByteArray), (1 : Int))) fun r => r = compP s a b := fun h => O.sat_ok (by unfold compP; rw [if_pos h])
  apply O.sat_val
  unfold F_segment_Complete.S
  refine O.sat_cond (fun h => no (.inl h)) fun h1 => ?_
  refine O.sat_cond (fun h => no (.inr (.inl h))) fun h2 => ?_
  refine O.sat_cond (fun h => no (.inr (.inr (.inl h)))) fun h3 => ?_
  refine O.sat_cond (fun h => no (.inr (.inr (.inr (.inl h))))) fun h4 => ?_
  rw [i64_in (a + b) (by omega), i64_in ((s.size : Int) - 2) (by omega)]
  refine O.sat_cond (fun h => no (.inr (.inr (.inr (.inr h))))) fun h5 => ?_
  refine O.sat_chk (by omega) ?_
  have hn := nrm_lo (tot_nonneg (s.extract a.toNat s.size).data.toList)
  have e : a + b = (((a + b).toNat : Nat) : Int) := by omega
  refine O.sat_eq (Sum_S k _ (by rw [ext_size]; omega) (by rw [ext_size]; omega)) ?_
  refine O.sat_eq (full_S k _) ?_
  refine O.sat_eq (by rw [e]; exact set_S k s (a + b).toNat _ (by omega) (by omega) (full_lo (by omega))) (O.sat_ok ?_)
  unfold compP
  rw [if_neg (by omega)]
theorem rin_S (x y : Int) : F_aqueductref08_in.S k x y = .ok (decide (0 ≤ x ∧ x ≤ y)) := by
  have _ := hs; have _ := hk
  unfold F_aqueductref08_in.S
  rw [O.cond_dec]
  split
  · congr 1; apply decide_eq_decide.2; omega
  · exact congrArg O.ok (decide_eq_false (by omega)).symm
theorem rcomp_S (a b : Int) : F_aqueductref08_Complete.S k s a b = .ok (compP s a b) := by
  have no : (a < 0 ∨ b < 0 ∨ a > s.size ∨ b > s.size ∨ a + b > s.size - 2) → O.sat (.ok ((⟨#[]⟩ : ByteArray), (1 : Int))) fun r => r = compP s a b := fun h => O.sat_ok (by unfold compP; rw [if_pos h])
  apply O.sat_val
  unfold F_aqueductref08_Complete.S
  refine O.sat_eq (rin_S k s hs hk a _) ?_
  refine O.sat_condn (fun h => no (by omega)) fun h1 => ?_
  refine O.sat_eq (rin_S k s hs hk b _) ?_
  refine O.sat_condn (fun h => no (by omega)) fun h2 => ?_
  rw [i64_in (a + b) (by omega), i64_in ((s.size : Int) - 2) (by omega)]
  refine O.sat_cond (fun h => no (.inr (.inr (.inr (.inr h))))) fun h5 => ?_
  refine O.sat_chk (by omega) ?_
  have hn := nrm_lo (tot_nonneg (s.extract a.toNat s.size).data.toList)
  have e : a + b = (((a + b).toNat : Nat) : Int) := by omega
  refine O.sat_eq (rSum_S k _ (by rw [ext_size]; omega) (by rw [ext_size]; omega)) ?_
  refine O.sat_eq (rfull_S k _) ?_
  refine O.sat_eq (by rw [e]; exact rset_S k (by omega) s (a + b).toNat _ (by omega) (by omega) (full_lo (by omega))) (O.sat_ok ?_)
  unfold compP
  rw [if_neg (by omega)]
/-- A frame, finished. -/
noncomputable def finP (h : HdrT) (s : ByteArray) : ByteArray × Int :=
  if h.2.1 ≠ 0 then (⟨#[]⟩, 101) else if h.1 % 2 = 0 then (s, 0)
  else if (compP s h.2.2.2.2.1 h.2.2.2.2.2.1).2 ≠ 0 then (⟨#[]⟩, 102) else ((compP s h.2.2.2.2.1 h.2.2.2.2.2.1).1, 0)
theorem finish_S (h : HdrT) : F_nethdr_Finish.S k h s = .ok (finP h s) := by
  unfold F_nethdr_Finish.S finP
  rw [comp_S k s hs hk, O.bind_ok, bAnd_one]
  simp only [O.cond_dec]
  repeat' split
  all_goals first | rfl | contradiction
theorem rfinish_S (h : HdrT) : F_aqueductref10_Finish.S k h s = .ok (finP h s) := by
  unfold F_aqueductref10_Finish.S finP
  rw [rcomp_S k s hs hk, O.bind_ok, bAnd_one]
  simp only [O.cond_dec]
  repeat' split
  all_goals first | rfl | contradiction
end
theorem compP_at (s : ByteArray) (a b : Nat) (h : a + b + 2 ≤ s.size) : compP s (a : Int) (b : Int) = (set2 s (a + b) (fullP (65535 - nrm (tot (s.extract a s.size).data.toList))), 0) := by
  unfold compP
  rw [if_neg (by omega), Int.toNat_natCast, show ((a : Int) + (b : Int)).toNat = a + b from by omega]
/-- What Offload leaves Finish completes. -/
theorem fin_off (s : ByteArray) : finP (offP s).1 (offP s).2 = (s, 0) ∧ (offP s).2.size = s.size := by
  unfold offP
  by_cases h : okAt s
  · rw [if_pos h]
    obtain ⟨a1, a2, a3, a4, a5, a6, a7, a8, a9⟩ := okAt_facts s h
    have hp := psum_lo s
    have z := set2_size s (stO s + plc (qOf s)) (psum s) a9
    have he : plc (qOf s) % 2 = 0 := by rcases plc_le (qOf s) with h | h <;> omega
    have hev := pseu_even (qOf s) (bod (qOf s)).size a5
    have e1 : (set2 s (stO s + plc (qOf s)) (psum s)).extract (stO s) s.size = set2 (bod (qOf s)) (plc (qOf s)) (psum s) := by
      rw [set2_ext s (stO s) (plc (qOf s)) (psum s) a9, ← a2]
    have e2 : fullP (65535 - nrm (tot (set2 (bod (qOf s)) (plc (qOf s)) (psum s)).data.toList)) = be s (stO s + plc (qOf s)) 2 := by
      rw [tot_set2 _ _ _ he a4 hp]
      have n1 := tot_nonneg (set2 (bod (qOf s)) (plc (qOf s)) 0).data.toList
      have n2 := tot_nonneg (pseu (qOf s) (bod (qOf s)).size).data.toList
      have e3 : nrm (tot (set2 (bod (qOf s)) (plc (qOf s)) 0).data.toList + psum s) = nrm (tot (pseu (qOf s) (bod (qOf s)).size ++ set2 (bod (qOf s)) (plc (qOf s)) 0).data.toList) := by
        rw [tot_app _ _ hev, Int.add_comm]
        exact nrm_add n2 n1
      rw [e3]
      have e4 : be (bod (qOf s)) (plc (qOf s)) 2 = be s (stO s + plc (qOf s)) 2 := by
        have zb : (bod (qOf s)).size = s.size - stO s := by rw [a2, ext_size]; omega
        rw [a2]; exact be_ext s (stO s) s.size (plc (qOf s)) 2 (by omega)
      rw [← e4, a6]; rfl
    refine ⟨?_, z⟩
    unfold finP
    show (if (0 : Int) ≠ 0 then _ else if (1 : Int) % 2 = 0 then _ else if (compP (set2 s (stO s + plc (qOf s)) (psum s)) (stO s : Int) (plc (qOf s) : Int)).2 ≠ 0 then _ else ((compP (set2 s (stO s + plc (qOf s)) (psum s)) (stO s : Int) (plc (qOf s) : Int)).1, (0 : Int))) = _
    rw [if_neg (by decide), if_neg (by decide), compP_at _ _ _ (by rw [z]; exact a9), if_neg (fun h => h rfl), z, e1, e2, set2_set2 s _ _ _ a9, set2_self s _ a9]
  · rw [if_neg h]
    exact ⟨rfl, rfl⟩
abbrev frm : ByteArray := ⟨#[102, 114, 97, 109, 101]⟩
theorem fixed10 (k : Nat) (hk : 4000000 ≤ k) : F_aqueductlaw10_fixed.S k = .ok true := by
  have hb : hdrB (1, 0, 0, 0, 34, 6, 0) = (⟨#[1, 0, 0, 0, 0, 0, 34, 0, 6, 0, 0, 0]⟩, 0) := by
    unfold hdrB
    rw [if_pos (by decide)]
    simp only [finB_cons]
    rfl
  have hb2 : hdrB (4, 0, 0, 0, 0, 0, 0) = (⟨#[]⟩, 101) := by unfold hdrB; rw [if_neg (by decide)]
  have b1 := hdrBuild_S k (by omega) (1, 0, 0, 0, 34, 6, 0) (by simp) (by simp) (by simp) (by simp) (by simp) (by simp) (by simp)
  have b2 := hdrBuild_S k (by omega) (4, 0, 0, 0, 0, 0, 0) (by simp) (by simp) (by simp) (by simp) (by simp) (by simp) (by simp)
  rw [hb] at b1; rw [hb2] at b2
  have p1 := hdrParse_S k (by omega) (⟨#[1, 0, 0, 0, 0, 0, 34, 0, 6, 0, 0, 0, 102, 114, 97, 109, 101]⟩) (by decide)
  have hp1 : hdrP (⟨#[1, 0, 0, 0, 0, 0, 34, 0, 6, 0, 0, 0, 102, 114, 97, 109, 101]⟩) = ((1, 0, 0, 0, 34, 6, 0), frm, 0) := by
    unfold hdrP
    rw [if_neg (by decide), if_neg (by decide)]
    rfl
  have p2 := hdrParse_S k (by omega) (⟨#[1, 0, 0, 0, 0, 0, 34, 0, 6, 0, 0]⟩) (by decide)
  have hp2 : hdrP (⟨#[1, 0, 0, 0, 0, 0, 34, 0, 6, 0, 0]⟩) = (hdr0, ⟨#[]⟩, 100) := by
    unfold hdrP
    rw [if_pos (by decide)]
  rw [hp1] at p1; rw [hp2] at p2
  have f1 := finish_S k frm (by decide) (by have : frm.size = 5 := rfl; omega) hdr0
  have f2 := finish_S k frm (by decide) (by have : frm.size = 5 := rfl; omega) (0, 1, 0, 0, 0, 0, 0)
  have f3 := finish_S k frm (by decide) (by have : frm.size = 5 := rfl; omega) (1, 0, 0, 0, 9, 0, 0)
  have hf1 : finP hdr0 frm = (frm, 0) := rfl
  have hf2 : finP (0, 1, 0, 0, 0, 0, 0) frm = (⟨#[]⟩, 101) := by unfold finP; rw [if_pos (by decide)]
  have hf3 : finP (1, 0, 0, 0, 9, 0, 0) frm = (⟨#[]⟩, 102) := by
    unfold finP compP
    rw [if_neg (by decide), if_neg (by decide), if_pos (by decide)]
  rw [hf1] at f1; rw [hf2] at f2; rw [hf3] at f3
  have o1 := offload_S k hk frm (by decide)
  have ho : offP frm = (hdr0, frm) := by
    unfold offP
    rw [if_neg (fun h => by
      have := (okAt_facts frm h).2.2.2.2.2.2.2.2
      have h1 := h.1
      unfold ethP at h1
      rw [if_neg (by decide), if_pos (by decide)] at h1
      cases h1)]
  rw [ho] at o1
  unfold F_aqueductlaw10_fixed.S
  have e11 : (min ((⟨#[1, 0, 0, 0, 0, 0, 34, 0, 6, 0, 0, 0]⟩ : ByteArray).size : Int) 11).toNat = 11 := rfl
  have ex : (⟨#[1, 0, 0, 0, 0, 0, 34, 0, 6, 0, 0, 0]⟩ : ByteArray).extract 0 11 = (⟨#[1, 0, 0, 0, 0, 0, 34, 0, 6, 0, 0]⟩ : ByteArray) := rfl
  have ap : (⟨#[1, 0, 0, 0, 0, 0, 34, 0, 6, 0, 0, 0]⟩ : ByteArray) ++ frm = (⟨#[1, 0, 0, 0, 0, 0, 34, 0, 6, 0, 0, 0, 102, 114, 97, 109, 101]⟩ : ByteArray) := rfl
  rw [b1, b2]
  simp only [O.bind_ok]
  rw [ap, e11, ex, p1, p2]
  simp only [O.bind_ok]
  rw [f1, f2, f3, o1]
  simp only [O.bind_ok]
  rw [O.chk_dec (by decide), O.chk_dec (by decide)]
  simp only [O.cond_eq]
  rfl
end Go.Proofs.Ytkmhbpiphepjoaa
