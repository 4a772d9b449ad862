/- What segment.Build comes to. -/
import Derived.Test.YtkmhbpiphepjoaaAPIB
namespace Go.Proofs.Ytkmhbpiphepjoaa
open Go.Aq Go.IntWalk
set_option linter.unusedVariables false
/-- A segment's bytes. -/
noncomputable def segB (p : IpT) (g : SegT) : ByteArray × Int :=
  match bareP p g with
  | .inl e => (⟨#[]⟩, e)
  | .inr s => if g.2.2.2.2.2.2.2.2.2 = true then (s, 0) else (set2 s (plc p) (ssum p s), 0)
def fitSeg (g : SegT) : Prop := (0 ≤ g.2.2.1 ∧ g.2.2.1 ≤ 4294967295) ∧ (0 ≤ g.2.2.2.1 ∧ g.2.2.2.1 ≤ 4294967295) ∧ g.1 < 2 ^ 63 ∧ g.2.1 < 2 ^ 63 ∧ g.2.2.2.2.1 < 2 ^ 63 ∧ g.2.2.2.2.2.1 < 2 ^ 63 ∧ g.2.2.2.2.2.2.1 < 2 ^ 63 ∧ (sbod g).size ≤ 60000 ∧ (opts g).size ≤ 9223372036854775807
/-- What is built without a sum. -/
theorem bareP_ok (p : IpT) (g : SegT) (s : ByteArray) (h : bareP p g = .inr s) : segOk p g ∧ s.extract 0 4 = putT g.1 2 ++ putT g.2.1 2 ∧ plc p + 2 ≤ s.size ∧ 8 ≤ s.size ∧ s.size ≤ 60 + (sbod g).size := by
  unfold bareP at h
  by_cases o : segOk p g
  · rw [if_pos o] at h
    have e := Sum.inr.inj h
    refine ⟨o, ?_⟩
    have oo := o
    unfold segOk at oo
    obtain ⟨c, _, _, r⟩ := oo
    have pz : (putT g.1 2 ++ putT g.2.1 2).size = 4 := by rw [app_size, putT_size, putT_size]
    have hz : nn.size = 2 := rfl
    have l4 := ext_left (putT g.1 2 ++ putT g.2.1 2)
    rw [pz] at l4
    unfold plc
    by_cases u : p.2.2.2.1 = 17
    · rw [if_pos u] at e
      rw [if_neg (by omega)]
      have sz : s.size = 8 + (sbod g).size := by rw [← e]; simp only [app_size, putT_size, hz]
      refine ⟨?_, by omega, by omega, by omega⟩
      rw [← e, ext_app1 _ _ _ _ (by simp only [app_size, putT_size, hz]; omega), ext_app1 _ _ _ _ (by simp only [app_size, putT_size]; omega)]
      exact l4 _
    · rw [if_neg u] at e r
      have sz : s.size = 20 + (opts g).size + (sbod g).size := by rw [← e]; simp only [app_size, putT_size, hz]
      refine ⟨?_, by split <;> omega, by omega, by omega⟩
      rw [← e]
      iterate 8 rw [ext_app1 _ _ _ _ (by simp only [app_size, putT_size, hz]; omega)]
      exact l4 _
  · rw [if_neg o] at h; cases h
theorem set2_four (s : ByteArray) (i : Nat) (n : Int) (h4 : 4 ≤ i) (hi : i + 2 ≤ s.size) : (set2 s i n).extract 0 4 = s.extract 0 4 := by
  unfold set2
  rw [ext_app1 _ _ _ _ (by rw [app_size, ext_size, putT_size]; omega), ext_app1 _ _ _ _ (by rw [ext_size]; omega), ext_ext]
  congr 1; omega
theorem segBuild_S (k : Nat) (hk : 4000000 ≤ k) (p : IpT) (g : SegT) (w : fitSeg g) : F_segment_Build.S k p g = .ok (segB p g) := by
  obtain ⟨w1, w2, w3, w4, w5, w6, w7, w8, w9⟩ := w
  unfold F_segment_Build.S segB
  rw [bare_S k (by omega) p g w1 w2 w3 w4 w5 w6 w7 (by omega) w9]
  cases h : bareP p g with
  | inl e => rw [O.sum_inl, O.cond_true]
  | inr s =>
    obtain ⟨o, e, h1, h2, h3⟩ := bareP_ok p g s h
    rw [O.sum_inr]
    cases hn : g.2.2.2.2.2.2.2.2.2
    · rw [O.cond_false, place_S, O.bind_ok]
      unfold segOk carP at o
      obtain ⟨⟨_, _, _, o⟩, _⟩ := o
      rw [sum_S k p s (by omega) (by omega) (by omega) (by omega) h1, O.bind_ok]
      have := ssum_lo p s
      rw [set_S k s _ _ (by omega) h1 this, O.bind_ok, O.cond_false]; rfl
    · rw [O.cond_true, O.cond_false]; rfl
/-- What is built: ports ahead of all. -/
theorem segB_ok (p : IpT) (g : SegT) (h : (segB p g).2 = 0) : segOk p g ∧ (segB p g).1.extract 0 4 = putT g.1 2 ++ putT g.2.1 2 ∧ 8 ≤ (segB p g).1.size ∧ (segB p g).1.size ≤ 60 + (sbod g).size := by
  unfold segB at h ⊢
  cases hb : bareP p g with
  | inl e =>
    rw [hb] at h
    have : e = 0 := h
    unfold bareP at hb
    split at hb
    · cases hb
    · cases hb; cases this
  | inr s =>
    obtain ⟨o, e, h1, h2, h3⟩ := bareP_ok p g s hb
    refine ⟨o, ?_⟩
    by_cases n : g.2.2.2.2.2.2.2.2.2 = true
    · simp only [n, if_true]; exact ⟨e, h2, h3⟩
    · simp only [n, Bool.false_eq_true, if_false]
      have pl := plc_le p
      have z := set2_size s (plc p) (ssum p s) h1
      exact ⟨by rw [set2_four s _ _ (by omega) h1]; exact e, by rw [z]; exact h2, by rw [z]; exact h3⟩
abbrev withB (p : IpT) (b : ByteArray) : IpT := (p.1, p.2.1, p.2.2.1, p.2.2.2.1, p.2.2.2.2.1, p.2.2.2.2.2.1, p.2.2.2.2.2.2.1, p.2.2.2.2.2.2.2.1, p.2.2.2.2.2.2.2.2.1, p.2.2.2.2.2.2.2.2.2.1, p.2.2.2.2.2.2.2.2.2.2.1, b)
abbrev cutG (g : SegT) (n : Nat) : SegT := (g.1, g.2.1, g.2.2.1, g.2.2.2.1, g.2.2.2.2.1, g.2.2.2.2.2.1, g.2.2.2.2.2.2.1, g.2.2.2.2.2.2.2.1, g.2.2.2.2.2.2.2.2.1.extract 0 (min (g.2.2.2.2.2.2.2.2.1.size : Int) n).toNat, g.2.2.2.2.2.2.2.2.2)
abbrev ipSh : Shs := .cons (.leaf (.int .i64)) (.cons (.leaf .str) (.cons (.leaf .str) (.cons (.leaf (.int .i64)) (.cons (.leaf (.int .i64)) (.cons (.leaf (.int .i64)) (.cons (.leaf (.int .i64)) (.cons (.leaf (.int .i64)) (.cons (.leaf (.int .i64)) (.cons (.leaf (.int .i64)) (.cons (.leaf .str) (.one (.leaf .str))))))))))))
abbrev segSh : Shs := .cons (.leaf (.int .i64)) (.cons (.leaf (.int .i64)) (.cons (.leaf (.int .u32)) (.cons (.leaf (.int .u32)) (.cons (.leaf (.int .i64)) (.cons (.leaf (.int .i64)) (.cons (.leaf (.int .i64)) (.cons (.leaf .str) (.cons (.leaf .str) (.one (.leaf .bool))))))))))
theorem okF_ip {p : IpT} (w : okF ipSh p) : p.2.2.2.1 < 2 ^ 63 ∧ p.2.2.2.2.1 < 2 ^ 63 ∧ p.2.2.2.2.2.1 < 2 ^ 63 ∧ p.2.2.2.2.2.2.1 < 2 ^ 63 ∧ (ipOpts p).size ≤ 9223372036854775807 := by
  obtain ⟨h1, h2, h3, h4, h5, h6, h7, h8, h9, h10, h11, h12⟩ := w
  have a := wf_i64 h4; have b := wf_i64 h5; have c := wf_i64 h6; have d := wf_i64 h7
  exact ⟨by omega, by omega, by omega, by omega, h11⟩
theorem okF_seg {g : SegT} (w : okF segSh g) (n : Nat) (hn : n ≤ 60000) : fitSeg (cutG g n) ∧ (sbod (cutG g n)).size ≤ n := by
  obtain ⟨h1, h2, h3, h4, h5, h6, h7, h8, h9, h10⟩ := w
  have a := wf_i64 h1; have b := wf_i64 h2; have c := wf_u32 h3; have d := wf_u32 h4; have e := wf_i64 h5; have f := wf_i64 h6; have i := wf_i64 h7
  have s : (sbod (cutG g n)).size ≤ n := by
    show (g.2.2.2.2.2.2.2.2.1.extract 0 (min (g.2.2.2.2.2.2.2.2.1.size : Int) n).toNat).size ≤ n
    rw [ext_size]; omega
  have h8 : g.2.2.2.2.2.2.2.1.size ≤ maxLen := h8
  exact ⟨⟨c, d, by show g.1 < 2 ^ 63; omega, by show g.2.1 < 2 ^ 63; omega, by show g.2.2.2.2.1 < 2 ^ 63; omega, by show g.2.2.2.2.2.1 < 2 ^ 63; omega, by show g.2.2.2.2.2.2.1 < 2 ^ 63; omega, by omega, by show g.2.2.2.2.2.2.2.1.size ≤ 9223372036854775807; exact h8⟩, s⟩
end Go.Proofs.Ytkmhbpiphepjoaa
