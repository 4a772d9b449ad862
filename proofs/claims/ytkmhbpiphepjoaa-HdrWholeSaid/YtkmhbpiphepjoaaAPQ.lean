/- What Offload and Finish, and the document's, come to. -/
import Derived.Test.YtkmhbpiphepjoaaAPO
namespace Go.Proofs.Ytkmhbpiphepjoaa
open Go.Aq Go.IntWalk
set_option linter.unusedVariables false
theorem bareP_size (p : IpT) (g : SegT) (h : segOk p g) : ∃ t, bareP p g = .inr t ∧ plc p + 2 ≤ t.size ∧ t.size ≤ 70000 := by
  have hz : nn.size = 2 := rfl
  unfold bareP plc
  rw [if_pos h]
  obtain ⟨c, _, _, h4⟩ := h
  by_cases hu : p.2.2.2.1 = 17
  · rw [if_pos hu] at h4 ⊢
    refine ⟨_, rfl, ?_⟩
    rw [if_neg (by omega)]
    simp only [app_size, putT_size, hz]; omega
  · rw [if_neg hu] at h4 ⊢
    refine ⟨_, rfl, ?_⟩
    have : p.2.2.2.1 = 6 := by unfold carP at c; omega
    rw [if_pos this]
    simp only [app_size, putT_size, hz]; omega
theorem partial_S (k : Nat) (hk : 3000000 ≤ k) (p : IpT) (g : SegT) (h : segOk p g) (hn : g.2.2.2.2.2.2.2.2.2 = false) (hq : 0 ≤ g.2.2.1 ∧ g.2.2.1 ≤ 4294967295) (ha : 0 ≤ g.2.2.2.1 ∧ g.2.2.2.1 ≤ 4294967295)
    (b : g.1 ≤ 65535 ∧ g.2.1 ≤ 65535 ∧ g.2.2.2.2.1 ≤ 65535 ∧ g.2.2.2.2.2.1 ≤ 65535 ∧ g.2.2.2.2.2.2.1 ≤ 65535) (hb : (sbod g).size ≤ 60000) (ho : (opts g).size ≤ 40) : ∃ t, F_segment_Partial.S k p g = .ok (t, (plc p : Int), 0) := by
  obtain ⟨t, ht, h1, h2⟩ := bareP_size p g h
  have c := h.1
  have s1 : p.2.1.size ≤ 1000000 := by unfold carP at c; omega
  have s2 : p.2.2.1.size ≤ 1000000 := by unfold carP at c; omega
  have hz := pseu_size p t.size s1 s2
  have hn0 := nrm_lo (tot_nonneg (pseu p t.size).data.toList)
  refine ⟨set2 t (plc p) (nrm (tot (pseu p t.size).data.toList)), ?_⟩
  unfold F_segment_Partial.S
  rw [bare_S k (by omega) p g hq ha (by omega) (by omega) (by omega) (by omega) (by omega) (by omega) (by omega), ht, O.sum_inr, hn, place_S, Pseudo_S k p _ s1 s2]
  simp only [O.bind_ok]
  rw [On_S k 0 _ (by omega) (by omega) (by omega), O.bind_ok, Int.zero_add, set_S k t _ _ (by omega) h1 hn0, O.bind_ok]
  show O.cond false _ (O.cond false _ _) = _
  rw [O.cond_false, O.cond_false]
/-- Has a frame a segment with a sum? -/
def qOf (s : ByteArray) : IpT := (ipP (ethP s).1.2.2.2.2.2).1
def okAt (s : ByteArray) : Prop := (ethP s).2 = 0 ∧ (ipP (ethP s).1.2.2.2.2.2).2 = 0 ∧ ((qOf s).1 = 4 → (ethP s).1.2.2.2.2.1 = 2048) ∧ ((qOf s).1 = 6 → (ethP s).1.2.2.2.2.1 = 34525) ∧ (segP (qOf s)).2 = 0 ∧ (segP (qOf s)).1.2.2.2.2.2.2.2.2.2 = false
instance (s : ByteArray) : Decidable (okAt s) := inferInstanceAs (Decidable (_ ∧ _ ∧ _ ∧ _ ∧ _ ∧ _))
theorem qOf_size (s : ByteArray) : (bod (qOf s)).size ≤ 1518 := Nat.le_trans (ipP_body _) (ethP_body s)
theorem at_S (k : Nat) (hk : 4000000 ≤ k) (s : ByteArray) (hs : s.size ≤ 1000000) : F_nethdr_at.S k s = .ok (if okAt s then (qOf s, ((s.size - (bod (qOf s)).size : Nat) : Int), (plc (qOf s) : Int), true) else (ip0, 0, 0, false)) := by
  have no : ¬ okAt s → O.sat (.ok (ip0, (0 : Int), (0 : Int), false)) fun r => r = if okAt s then (qOf s, ((s.size - (bod (qOf s)).size : Nat) : Int), (plc (qOf s) : Int), true) else (ip0, 0, 0, false) := fun h => O.sat_ok (by rw [if_neg h])
  have z1 := ethP_body s; have z2 := qOf_size s
  have z3 : (bod (qOf s)).size ≤ s.size ∨ ¬ (ethP s).2 = 0 := by
    by_cases h : (ethP s).2 = 0
    · obtain ⟨_, m, _, _, e⟩ := ethP_ok s h
      left
      have := ipP_body (ethP s).1.2.2.2.2.2
      have e2 : (ethP s).1.2.2.2.2.2.size ≤ s.size := by rw [e, ext_size]; omega
      exact Nat.le_trans this e2
    · exact .inr h
  have z4 : (bod (qOf s)).size = (qOf s).2.2.2.2.2.2.2.2.2.2.2.size := rfl
  apply O.sat_val
  unfold F_nethdr_at.S F_nethdr_at.top F_nethdr_at.j5 F_nethdr_at.j5_b
  refine O.sat_eq (ethParse_S k (by omega) s) ?_
  refine O.sat_cond (fun h => no (fun c => h c.1)) fun h1 => ?_
  have h1 : (ethP s).2 = 0 := Decidable.not_not.1 h1
  refine O.sat_eq (ipParse_S k _ (by omega) (by omega)) ?_
  refine O.sat_cond (fun h => no (fun c => h c.2.1)) fun h2 => ?_
  have h2 : (ipP (ethP s).1.2.2.2.2.2).2 = 0 := Decidable.not_not.1 h2
  have fin : ((qOf s).1 = 4 → (ethP s).1.2.2.2.2.1 = 2048) → ((qOf s).1 = 6 → (ethP s).1.2.2.2.2.1 = 34525) →
      O.sat (O.bind (F_segment_Parse.S k (qOf s)) fun r9 => O.cond (decide (r9.2 ≠ 0)) (.ok (ip0, (0 : Int), (0 : Int), false)) (O.cond r9.1.2.2.2.2.2.2.2.2.2 (.ok (ip0, (0 : Int), (0 : Int), false)) (O.bind (F_segment_Partial.S k (qOf s) r9.1) fun r11 => .ok (qOf s, IntKind.i64.wrap ((s.size : Int) - ((bod (qOf s)).size : Int)), r11.2.1, true))))
        fun r => r = if okAt s then (qOf s, ((s.size - (bod (qOf s)).size : Nat) : Int), (plc (qOf s) : Int), true) else (ip0, 0, 0, false) := by
    intro v4 v6
    refine O.sat_eq (segParse_S k (qOf s) (by omega) (by omega)) ?_
    refine O.sat_cond (fun h => no (fun c => h c.2.2.2.2.1)) fun h3 => ?_
    have h3 : (segP (qOf s)).2 = 0 := Decidable.not_not.1 h3
    refine O.sat_condb (fun h => no (fun c => by rw [c.2.2.2.2.2] at h; cases h)) fun h4 => ?_
    obtain ⟨c, hq, _⟩ := segP_ok (qOf s) h3
    obtain ⟨o1, o2, o3, o4, o5, o6⟩ := segOk_of (qOf s) _ c hq (by omega)
    obtain ⟨t, ht⟩ := partial_S k (by omega) (qOf s) _ o1 h4 o2 o3 o6 o4 o5
    refine O.sat_eq ht (O.sat_ok ?_)
    rw [if_pos ⟨h1, h2, v4, v6, h3, h4⟩, i64_in _ (by omega)]
    congr 2
    omega
  refine O.sat_cond (fun h4 => ?_) fun h4 => ?_
  · have h4 : (qOf s).1 = 4 := h4
    refine O.sat_cond (fun h => no (fun c => h (c.2.2.1 h4))) fun h5 => ?_
    refine O.sat_cond (fun h6 => ?_) fun h6 => fin (fun _ => Decidable.not_not.1 h5) (fun h => (h6 h).elim)
    have h6 : (qOf s).1 = 6 := h6
    omega
  · refine O.sat_cond (fun h6 => ?_) fun h6 => fin (fun h => (h4 h).elim) (fun h => (h6 h).elim)
    refine O.sat_cond (fun h => no (fun c => h (c.2.2.2.1 h6))) fun h7 => fin (fun h => (h4 h).elim) (fun _ => Decidable.not_not.1 h7)
theorem Set_S (k : Nat) (hk : 9 ≤ k) (s : ByteArray) (i : Nat) (n : Int) (hs : s.size ≤ 140737488351232) (hi : i + 2 ≤ s.size) (hn : 0 ≤ n ∧ n ≤ 65535) : F_words_Set.S k s (i : Int) (IntKind.u64.wrap n) (2 : Int) true = .ok (set2 s i n, 0) := by
  have hp := Put_S k hk n 2 (by omega) (by omega) true
  rw [if_pos (by rw [show (256 : Int) ^ 2 = 65536 from rfl]; omega), if_pos rfl] at hp
  have e : (i : Int) + 2 = ((i + 2 : Nat) : Int) := by push_cast; rfl
  have h1 : (s.extract 0 i).size = i := by rw [ext_size]; omega
  have h2 : (s.extract (i + 2) s.size).size = s.size - (i + 2) := by rw [ext_size]; omega
  unfold F_words_Set.S
  rw [u64_in n (by omega), show (2 : Int) = ((2 : Nat) : Int) from rfl, hp, O.bind_ok, show ((2 : Nat) : Int) = (2 : Int) from rfl, i64_in ((s.size : Int) - 2) (by omega), i64_in ((i : Int) + 2) (by omega), e, Int.toNat_natCast, Int.toNat_natCast]
  rw [O.cond_neg (fun h => h rfl), O.cond_neg (by omega), O.cond_neg (by omega)]
  repeat rw [O.chk_dec (by first | omega | (simp only [app_size, h1, h2, putT_size]; omega))]
  rfl
theorem rSet_S (k : Nat) (hk : 9 ≤ k) (s : ByteArray) (i : Nat) (n : Int) (hs : s.size ≤ 140737488351232) (hi : i + 2 ≤ s.size) (hn : 0 ≤ n ∧ n ≤ 65535) : F_aqueductref01_Set.S k s (i : Int) (IntKind.u64.wrap n) (2 : Int) true = .ok (set2 s i n, 0) := by
  have hp := rPut_S k hk n 2 (by omega) (by omega)
  rw [if_pos (by rw [show (256 : Int) ^ 2 = 65536 from rfl]; omega)] at hp
  have e : (i : Int) + 2 = ((i + 2 : Nat) : Int) := by push_cast; rfl
  have h1 : (s.extract 0 i).size = i := by rw [ext_size]; omega
  have h2 : (s.extract (i + 2) s.size).size = s.size - (i + 2) := by rw [ext_size]; omega
  unfold F_aqueductref01_Set.S
  rw [u64_in n (by omega), show (2 : Int) = ((2 : Nat) : Int) from rfl, hp, O.bind_ok, show ((2 : Nat) : Int) = (2 : Int) from rfl, i64_in ((s.size : Int) - 2) (by omega), i64_in ((i : Int) + 2) (by omega), e, Int.toNat_natCast, Int.toNat_natCast]
  rw [O.cond_neg (fun h => h rfl), O.cond_neg (by omega), O.cond_neg (by omega)]
  repeat rw [O.chk_dec (by first | omega | (simp only [app_size, h1, h2, putT_size]; omega))]
  rfl
/-- What is summed with a frame's segment. -/
def psum (s : ByteArray) : Int := nrm (tot (pseu (qOf s) (bod (qOf s)).size).data.toList)
theorem psum_lo (s : ByteArray) : 0 ≤ psum s ∧ psum s ≤ 65535 := nrm_lo (tot_nonneg _)
def stO (s : ByteArray) : Nat := s.size - (bod (qOf s)).size
/-- A frame whose sum is left. -/
def offP (s : ByteArray) : HdrT × ByteArray := if okAt s then ((1, 0, 0, 0, (stO s : Int), (plc (qOf s) : Int), 0), set2 s (stO s + plc (qOf s)) (psum s)) else (hdr0, s)
theorem okAt_facts (s : ByteArray) (h : okAt s) : s.size ≤ 1518 ∧ bod (qOf s) = s.extract (stO s) s.size ∧ stO s ≤ s.size ∧ plc (qOf s) + 2 ≤ (bod (qOf s)).size ∧ carP (qOf s) ∧ be (bod (qOf s)) (plc (qOf s)) 2 = ssum (qOf s) (bod (qOf s)) ∧ ((qOf s).1 = 4 ∨ (qOf s).1 = 6) ∧ (0 ≤ (qOf s).2.2.2.1 ∧ (qOf s).2.2.2.1 ≤ 255) ∧ stO s + plc (qOf s) + 2 ≤ s.size := by
  obtain ⟨h1, h2, h3, h4, h5, h6⟩ := h
  obtain ⟨a1, m, a2, a3, a4⟩ := ethP_ok s h1
  obtain ⟨b1, b2, n, b3, b4⟩ := ipP_ok _ h2
  have b4 : bod (qOf s) = (ethP s).1.2.2.2.2.2.extract n (ethP s).1.2.2.2.2.2.size := b4
  obtain ⟨c1, c2, c3⟩ := segP_ok (qOf s) h5
  have d := segQ_size c2
  have e : bod (qOf s) = s.extract (m + n) s.size := by
    rw [b4, a4, ext_rest s m n a2]
  have z : (ethP s).1.2.2.2.2.2.size = s.size - m := by rw [a4, ext_size]; omega
  have zb : (bod (qOf s)).size = s.size - (m + n) := by rw [e, ext_size]; omega
  have es : stO s = m + n := by unfold stO; rw [zb]; omega
  rw [es]
  exact ⟨a1, e, by omega, d, c1, c3 h6, b1, b2, by omega⟩
theorem pseu_even (p : IpT) (n : Int) (h : carP p) : (pseu p n).size % 2 = 0 := by
  unfold carP at h
  by_cases h4 : p.1 = 4
  · have e : pseu p n = p.2.1 ++ p.2.2.1 ++ putT 0 1 ++ putT p.2.2.2.1 1 ++ putT n 2 := if_pos h4
    rw [e]; simp only [app_size, putT_size]; omega
  · have e : pseu p n = p.2.1 ++ p.2.2.1 ++ putT n 4 ++ putT 0 3 ++ putT p.2.2.2.1 1 := by unfold pseu; rw [if_neg h4, if_pos (by omega)]
    rw [e]; simp only [app_size, putT_size]; omega
theorem offload_S (k : Nat) (hk : 4000000 ≤ k) (s : ByteArray) (hs : s.size ≤ 1000000) : F_nethdr_Offload.S k s = .ok (offP s) := by
  unfold F_nethdr_Offload.S offP
  rw [at_S k hk s hs, O.bind_ok]
  by_cases h : okAt s
  · obtain ⟨a1, a2, a3, a4, a5, a6, a7, a8, a9⟩ := okAt_facts s h
    have s1 : (qOf s).2.1.size ≤ 1000000 := by unfold carP at a5; omega
    have s2 : (qOf s).2.2.1.size ≤ 1000000 := by unfold carP at a5; omega
    have hz := pseu_size (qOf s) (bod (qOf s)).size s1 s2
    have hp := psum_lo s
    rw [if_pos h, if_pos h]
    show O.cond false _ (O.bind (F_ip_Pseudo.S k (qOf s) ((bod (qOf s)).size : Int)) _) = _
    rw [O.cond_false, Pseudo_S k _ _ s1 s2, O.bind_ok, On_S k 0 _ (by omega) (by omega) (by omega), O.bind_ok, Int.zero_add]
    show O.bind (F_words_Set.S k s (IntKind.i64.wrap ((stO s : Int) + (plc (qOf s) : Int))) (IntKind.u64.wrap (psum s)) 2 true) _ = _
    rw [i64_in _ (by omega), show (stO s : Int) + (plc (qOf s) : Int) = ((stO s + plc (qOf s) : Nat) : Int) from by push_cast; rfl, Set_S k (by omega) s _ _ (by omega) a9 hp, O.bind_ok]
    rfl
  · rw [if_neg h, if_neg h]
    show O.cond true _ _ = _
    rw [O.cond_true]
theorem roffload_S (k : Nat) (hk : 4000000 ≤ k) (s : ByteArray) (hs : s.size ≤ 1000000) : F_aqueductref10_Offload.S k s = .ok (offP s) := by
  have z1 := ethP_body s; have z2 := qOf_size s
  have no : ¬ okAt s → O.sat (.ok (hdr0, s)) fun r => r = offP s := fun h => O.sat_ok (by unfold offP; rw [if_neg h])
  apply O.sat_val
  unfold F_aqueductref10_Offload.S
  refine O.sat_eq (rethParse_S k s) ?_
  refine O.sat_eq (ripParse_S k _ (by omega) (by omega)) ?_
  refine O.sat_eq (rsegParse_S k (qOf s) (by omega) (by omega)) ?_
  refine O.sat_cond (fun h1 => ?_) fun h => no (fun c => h c.1)
  refine O.sat_cond (fun h2 => ?_) fun h => no (fun c => h c.2.1)
  refine O.sat_cond (fun h3 => ?_) fun h => no (fun c => h c.2.2.2.2.1)
  refine O.sat_condb (fun h4 => ?_) fun h => no (fun c => by rw [c.2.2.2.2.2] at h; cases h)
  have h4 : (segP (qOf s)).1.2.2.2.2.2.2.2.2.2 = false := by simpa using h4
  obtain ⟨b1, b2, _⟩ := ipP_ok _ h2
  have b1 : (qOf s).1 = 4 ∨ (qOf s).1 = 6 := b1
  have fin : ((qOf s).1 = 4 → (ethP s).1.2.2.2.2.1 = 2048) → ((qOf s).1 = 6 → (ethP s).1.2.2.2.2.1 = 34525) →
      O.sat (O.bind (F_aqueductref08_At.S k (qOf s)) fun r13 => O.bind (F_aqueductref07_Pseudo.S k (qOf s) ((bod (qOf s)).size : Int)) fun r15 => O.bind (F_aqueductref02_On.S k (0 : Int) r15) fun r17 =>
        O.bind (F_aqueductref01_Set.S k s (IntKind.i64.wrap ((IntKind.i64.wrap ((s.size : Int) - ((bod (qOf s)).size : Int))) + r13)) (IntKind.u64.wrap r17) (2 : Int) true) fun r19 => O.bind (F_aqueductref08_At.S k (qOf s)) fun r21 =>
        .ok (((1 : Int), (0 : Int), (0 : Int), (0 : Int), (IntKind.i64.wrap ((s.size : Int) - ((bod (qOf s)).size : Int))), r21, (0 : Int)), r19.1)) fun r => r = offP s := by
    intro v4 v6
    have h : okAt s := ⟨h1, h2, v4, v6, h3, h4⟩
    obtain ⟨a1, a2, a3, a4, a5, a6, a7, a8, a9⟩ := okAt_facts s h
    have s1 : (qOf s).2.1.size ≤ 1000000 := by unfold carP at a5; omega
    have s2 : (qOf s).2.2.1.size ≤ 1000000 := by unfold carP at a5; omega
    have hz := pseu_size (qOf s) (bod (qOf s)).size s1 s2
    have hp := psum_lo s
    have e : IntKind.i64.wrap ((s.size : Int) - ((bod (qOf s)).size : Int)) = (stO s : Int) := by
      have hb : (bod (qOf s)).size ≤ s.size := by have := congrArg ByteArray.size a2; rw [ext_size] at this; omega
      rw [i64_in _ (by omega)]; unfold stO; omega
    refine O.sat_eq (rAt_S k (qOf s)) ?_
    refine O.sat_eq (rPseudo_S k (by omega) (qOf s) _ s1 s2 a8 (by omega)) ?_
    refine O.sat_eq (rOn_S k 0 _ (by omega) (by omega) (by omega)) ?_
    rw [e, Int.zero_add]
    show O.sat (O.bind (F_aqueductref01_Set.S k s (IntKind.i64.wrap ((stO s : Int) + (plc (qOf s) : Int))) (IntKind.u64.wrap (psum s)) 2 true) _) _
    rw [i64_in _ (by omega), show (stO s : Int) + (plc (qOf s) : Int) = ((stO s + plc (qOf s) : Nat) : Int) from by push_cast; rfl]
    refine O.sat_eq (rSet_S k (by omega) s _ _ (by omega) a9 hp) ?_
    refine O.sat_eq (rAt_S k (qOf s)) (O.sat_ok ?_)
    unfold offP
    rw [if_pos h]
  refine O.sat_cond (fun h5 => ?_) fun h5 => ?_
  · refine O.sat_cond (fun h6 => ?_) fun h6 => ?_
    · exact fin (fun _ => h5) (fun h => by have h6 : (qOf s).1 = 4 := h6; omega)
    · refine O.sat_cond (fun h7 => ?_) fun h7 => no (fun c => ?_)
      · rw [h5] at h7; exact absurd h7 (by decide)
      · rcases b1 with h | h
        · exact h6 h
        · exact h7 (c.2.2.2.1 h)
  · refine O.sat_cond (fun h7 => ?_) fun h7 => no (fun c => ?_)
    · refine O.sat_condn (fun h8 => no (fun c => ?_)) fun h8 => fin (fun h => by have h8 : (qOf s).1 = 6 := h8; omega) (fun _ => h7)
      rcases b1 with h | h
      · exact h5 (c.2.2.1 h)
      · exact h8 h
    · rcases b1 with h | h
      · exact h5 (c.2.2.1 h)
      · exact h7 (c.2.2.2.1 h)
end Go.Proofs.Ytkmhbpiphepjoaa
