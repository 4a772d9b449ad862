/- The law FlowPorts, in plain words. -/
import Derived.Test.YtojomdlccjlioaaAPureFlowOf
namespace Go.Proofs.Ytojomdlccjlioaa
open Go.Aq Go.IntWalk
set_option linter.unusedVariables false
/-- Texts of one length, one behind another: the same just if the parts are. -/
theorem app_inj {a b c d : ByteArray} (h : a.size = c.size) : a ++ b = c ++ d ↔ a = c ∧ b = d := by
  constructor
  · intro e
    have e1 := ext_left a b
    have e2 := ext_right a b
    rw [e] at e1 e2
    rw [h, ext_left] at e1
    rw [h, ext_right] at e2
    exact ⟨e1.symm, e2.symm⟩
  · rintro ⟨rfl, rfl⟩; rfl
theorem put_inj {n : Nat} {v w : Int} (hv : inU n v) (hw : inU n w) : putT v n = putT w n ↔ v = w := by
  constructor
  · intro e
    have a := be_put n v hv.1 hv.2
    rw [e, be_put n w hw.1 hw.2] at a
    exact a.symm
  · rintro rfl; rfl
abbrev withB (p : IpT) (b : ByteArray) : IpT := (p.1, p.2.1, p.2.2.1, p.2.2.2.1, p.2.2.2.2.1, p.2.2.2.2.2.1, p.2.2.2.2.2.2.1, p.2.2.2.2.2.2.2.1, p.2.2.2.2.2.2.2.2.1, p.2.2.2.2.2.2.2.2.2.1, p.2.2.2.2.2.2.2.2.2.2.1, b)
abbrev cutG (g : SegT) (n : Nat) : SegT := (g.1, g.2.1, g.2.2.1, g.2.2.2.1, g.2.2.2.2.1, g.2.2.2.2.2.1, g.2.2.2.2.2.2.1, g.2.2.2.2.2.2.2.1, g.2.2.2.2.2.2.2.2.1.extract 0 (min (g.2.2.2.2.2.2.2.2.1.size : Int) n).toNat, g.2.2.2.2.2.2.2.2.2)
abbrev ipSh : Shs := .cons (.leaf (.int .i64)) (.cons (.leaf .str) (.cons (.leaf .str) (.cons (.leaf (.int .i64)) (.cons (.leaf (.int .i64)) (.cons (.leaf (.int .i64)) (.cons (.leaf (.int .i64)) (.cons (.leaf (.int .i64)) (.cons (.leaf (.int .i64)) (.cons (.leaf (.int .i64)) (.cons (.leaf .str) (.one (.leaf .str))))))))))))
abbrev segSh : Shs := .cons (.leaf (.int .i64)) (.cons (.leaf (.int .i64)) (.cons (.leaf (.int .u32)) (.cons (.leaf (.int .u32)) (.cons (.leaf (.int .i64)) (.cons (.leaf (.int .i64)) (.cons (.leaf (.int .i64)) (.cons (.leaf .str) (.cons (.leaf .str) (.one (.leaf .bool))))))))))
theorem okF_ip {p : IpT} (w : okF ipSh p) : p.2.2.2.1 < 2 ^ 63 ∧ p.2.2.2.2.1 < 2 ^ 63 ∧ p.2.2.2.2.2.1 < 2 ^ 63 ∧ p.2.2.2.2.2.2.1 < 2 ^ 63 ∧ (ipOpts p).size ≤ 9223372036854775807 := by
  obtain ⟨h1, h2, h3, h4, h5, h6, h7, h8, h9, h10, h11, h12⟩ := w
  have a := wf_i64 h4; have b := wf_i64 h5; have c := wf_i64 h6; have d := wf_i64 h7
  exact ⟨by omega, by omega, by omega, by omega, h11⟩
theorem okF_seg {g : SegT} (w : okF segSh g) (n : Nat) (hn : n ≤ 60000) : fitSeg (cutG g n) ∧ (sbod (cutG g n)).size ≤ n := by
  obtain ⟨h1, h2, h3, h4, h5, h6, h7, h8, h9, h10⟩ := w
  have a := wf_i64 h1; have b := wf_i64 h2; have c := wf_u32 h3; have d := wf_u32 h4; have e := wf_i64 h5; have f := wf_i64 h6; have i := wf_i64 h7
  have s : (sbod (cutG g n)).size ≤ n := by
    show (g.2.2.2.2.2.2.2.2.1.extract 0 (min (g.2.2.2.2.2.2.2.2.1.size : Int) n).toNat).size ≤ n
    rw [ext_size]; omega
  have h8 : g.2.2.2.2.2.2.2.1.size ≤ maxLen := h8
  exact ⟨⟨c, d, by show g.1 < 2 ^ 63; omega, by show g.2.1 < 2 ^ 63; omega, by show g.2.2.2.2.1 < 2 ^ 63; omega, by show g.2.2.2.2.2.1 < 2 ^ 63; omega, by show g.2.2.2.2.2.2.1 < 2 ^ 63; omega, by omega, by show g.2.2.2.2.2.2.2.1.size ≤ 9223372036854775807; exact h8⟩, s⟩
/-- The flow of a frame around a built packet around a built segment. -/
theorem flow_seg (p : IpT) (g : SegT) (kind : Int) (hg : (sbod g).size ≤ 600) (hs : (segB (withB p ⟨#[]⟩) g).2 = 0) (s : ByteArray) (hx : s.extract 0 4 = (segB (withB p ⟨#[]⟩) g).1.extract 0 4) (h8 : 8 ≤ s.size) (h9 : s.size ≤ 700) (hi : (ipB (withB p s)).2 = 0)
    (hk : p.1 = 4 ∧ kind = 2048 ∨ p.1 = 6 ∧ kind = 34525) : flowP (framedP kind (ipB (withB p s)).1) = (portP (withB p s), p.2.1 ++ p.2.2.1 ++ (putT g.1 2 ++ putT g.2.1 2)) ∧ portP (withB p s) ≠ 0 ∧ inU 2 g.1 ∧ inU 2 g.2.1 := by
  obtain ⟨o, e, _, _⟩ := segB_ok _ g hs
  obtain ⟨pp, ps, _⟩ := ipP_B _ hi
  have ps : (ipB (withB p s)).1.size ≤ 60 + s.size := ps
  unfold segOk at o
  obtain ⟨c, u1, u2, _⟩ := o
  have c' : carP (withB p s) := c
  obtain ⟨q1, q2⟩ := flowQ_seg (withB p s) c' (by show 4 ≤ s.size; omega)
  rw [flow_framed kind (withB p s) _ hk (by omega) pp, q1]
  refine ⟨?_, q2, u1, u2⟩
  have : (ibod (withB p s)).extract 0 4 = putT g.1 2 ++ putT g.2.1 2 := by rw [← e, ← hx]; rfl
  rw [this]
theorem portP_same (p : IpT) (s t : ByteArray) (hs : 4 ≤ s.size) (ht : 4 ≤ t.size) : portP (withB p s) = portP (withB p t) := by
  have a : (ibod (withB p s)).size = s.size := rfl
  have b : (ibod (withB p t)).size = t.size := rfl
  have q : ∀ u : ByteArray, 4 ≤ u.size → portP (withB p u) = if p.2.2.2.2.2.2.2.2.1 ≠ 0 ∨ p.2.2.2.2.2.2.2.1 % 2 ≠ 0 then 0 else if p.2.2.2.1 = 6 then (if p.1 = 6 then 5 else 2) else if p.2.2.2.1 = 17 then (if p.1 = 6 then 6 else 3) else 0 := by
    intro u hu
    have z : (ibod (withB p u)).size = u.size := rfl
    have e : portP (withB p u) = if p.2.2.2.2.2.2.2.2.1 ≠ 0 ∨ p.2.2.2.2.2.2.2.1 % 2 ≠ 0 ∨ (ibod (withB p u)).size < 4 then 0 else if p.2.2.2.1 = 6 then (if p.1 = 6 then 5 else 2) else if p.2.2.2.1 = 17 then (if p.1 = 6 then 6 else 3) else 0 := rfl
    rw [e]
    by_cases c : p.2.2.2.2.2.2.2.2.1 ≠ 0 ∨ p.2.2.2.2.2.2.2.1 % 2 ≠ 0
    · rw [if_pos c, if_pos (by omega)]
    · rw [if_neg c, if_neg (by omega)]
  rw [q s hs, q t ht]
theorem Pure.FlowPorts : ∀ (a0 : IpT) (a1 : SegT) (a2 : SegT), okF ipSh a0 → okF segSh a1 → okF segSh a2 → ∃ k, F_aqueductlaw09_FlowPorts.S k a0 a1 a2 = .ok true := by
  intro p a b hp ha hb
  refine ⟨4000000, ?_⟩
  obtain ⟨w1, w2, w3, w4, w5⟩ := okF_ip hp
  obtain ⟨fa, za⟩ := okF_seg ha 300 (by omega)
  obtain ⟨fb, zb⟩ := okF_seg hb 300 (by omega)
  unfold F_aqueductlaw09_FlowPorts.S
  rw [O.chk_dec (by omega), O.chk_dec (by omega)]
  show O.bind (F_segment_Build.S 4000000 (withB p ⟨#[]⟩) (cutG a 300)) (fun r3 => O.bind (F_segment_Build.S 4000000 (withB p ⟨#[]⟩) (cutG b 300)) _) = _
  rw [segBuild_S _ (Nat.le_refl _) _ _ fa, O.bind_ok, segBuild_S _ (Nat.le_refl _) _ _ fb, O.bind_ok]
  rw [fixed09 _ (Nat.le_refl _)]
  by_cases e1 : (segB (withB p ⟨#[]⟩) (cutG a 300)).2 ≠ 0
  · rw [O.cond_pos e1, O.bind_ok]
  rw [O.cond_neg e1]
  by_cases e2 : (segB (withB p ⟨#[]⟩) (cutG b 300)).2 ≠ 0
  · rw [O.cond_pos e2, O.bind_ok]
  rw [O.cond_neg e2]
  have e1 := Decidable.not_not.1 e1
  have e2 := Decidable.not_not.1 e2
  obtain ⟨oa, xa, la, ua⟩ := segB_ok _ _ e1
  obtain ⟨ob, xb, lb, ub⟩ := segB_ok _ _ e2
  have hs : ∃ s, s = (segB (withB p ⟨#[]⟩) (cutG a 300)).1 := ⟨_, rfl⟩
  have ht : ∃ t, t = (segB (withB p ⟨#[]⟩) (cutG b 300)).1 := ⟨_, rfl⟩
  obtain ⟨s, hs⟩ := hs
  obtain ⟨t, ht⟩ := ht
  rw [← hs] at la ua
  rw [← ht] at lb ub
  have is : F_ip_Build.S 4000000 (withB p s) = .ok (ipB (withB p s)) := ipBuild_S _ (by omega) _ ⟨w1, w2, w3, w4, w5, by show (s : ByteArray).size ≤ _; omega⟩
  have it : F_ip_Build.S 4000000 (withB p t) = .ok (ipB (withB p t)) := ipBuild_S _ (by omega) _ ⟨w1, w2, w3, w4, w5, by show t.size ≤ _; omega⟩
  rw [← hs, ← ht]
  show O.bind (F_ip_Build.S 4000000 (withB p s)) (fun r3 => O.bind (F_ip_Build.S 4000000 (withB p t)) _) = _
  rw [is, O.bind_ok, it, O.bind_ok, O.bind_ok]
  by_cases e3 : (ipB (withB p s)).2 ≠ 0
  · rw [O.cond_pos e3]
  rw [O.cond_neg e3]
  by_cases e4 : (ipB (withB p t)).2 ≠ 0
  · rw [O.cond_pos e4]
  rw [O.cond_neg e4]
  have e3 := Decidable.not_not.1 e3
  have e4 := Decidable.not_not.1 e4
  have v := (ipP_B _ e3).2.2
  have v : p.1 = 4 ∨ p.1 = 6 := v
  have fl : ∀ kind : Int, (p.1 = 4 ∧ kind = 2048 ∨ p.1 = 6 ∧ kind = 34525) →
      (decide ((flowP (framedP kind (ipB (withB p s)).1)).1 = (flowP (framedP kind (ipB (withB p t)).1)).1) && (decide ((flowP (framedP kind (ipB (withB p s)).1)).2 = (flowP (framedP kind (ipB (withB p t)).1)).2) && true)) = decide (a.1 = b.1 ∧ a.2.1 = b.2.1) := by
    intro kind hk
    obtain ⟨f1, f2, f3, f4⟩ := flow_seg p (cutG a 300) kind (by omega) e1 s (by rw [hs]) (by omega) (by omega) e3 hk
    obtain ⟨g1, g2, g3, g4⟩ := flow_seg p (cutG b 300) kind (by omega) e2 t (by rw [ht]) (by omega) (by omega) e4 hk
    rw [f1, g1, portP_same p s t (by omega) (by omega), Bool.and_true, decide_eq_true rfl, Bool.true_and]
    apply decide_eq_decide.2
    dsimp only
    have pe : ∀ X A1 A2 B1 B2 : ByteArray, A1.size = B1.size → (X ++ (A1 ++ A2) = X ++ (B1 ++ B2) ↔ A1 = B1 ∧ A2 = B2) := by
      intro X A1 A2 B1 B2 h
      rw [app_inj rfl, app_inj h]
      exact ⟨fun h => h.2, fun h => ⟨rfl, h⟩⟩
    refine (pe _ _ _ _ _ (by rw [putT_size, putT_size])).trans ?_
    exact ⟨fun h => ⟨(put_inj f3 g3).1 h.1, (put_inj f4 g4).1 h.2⟩, fun h => ⟨(put_inj f3 g3).2 h.1, (put_inj f4 g4).2 h.2⟩⟩
  have go : ∀ kind : Int, (p.1 = 4 ∧ kind = 2048 ∨ p.1 = 6 ∧ kind = 34525) → ∀ same : Bool, (same = decide (a.1 = b.1 ∧ a.2.1 = b.2.1)) →
      O.bind (F_aqueductlaw09_framed.S 4000000 kind (ipB (withB p s)).1) (fun r29 => O.bind (F_flow_Of.S 4000000 r29) fun r31 => O.bind (F_aqueductlaw09_framed.S 4000000 kind (ipB (withB p t)).1) fun r33 => O.bind (F_flow_Of.S 4000000 r33) fun r35 =>
        O.cond (decide ((decide (r31.1 = r35.1) && (decide (r31.2 = r35.2) && true)) = same)) (.ok true) (.ok false)) = .ok true := by
    intro kind hk same h
    rw [framed_S _ (by omega), O.bind_ok, flowOf_S _ (by omega), O.bind_ok, framed_S _ (by omega), O.bind_ok, flowOf_S _ (by omega), O.bind_ok, fl kind hk, ← h, O.cond_pos rfl]
  have same : ∀ kind : Int, (p.1 = 4 ∧ kind = 2048 ∨ p.1 = 6 ∧ kind = 34525) → ∀ x y : O Bool, x = O.bind (F_aqueductlaw09_framed.S 4000000 kind (ipB (withB p s)).1) (fun r29 => O.bind (F_flow_Of.S 4000000 r29) fun r31 => O.bind (F_aqueductlaw09_framed.S 4000000 kind (ipB (withB p t)).1) fun r33 => O.bind (F_flow_Of.S 4000000 r33) fun r35 =>
        O.cond (decide ((decide (r31.1 = r35.1) && (decide (r31.2 = r35.2) && true)) = decide (a.2.1 = b.2.1))) (.ok true) (.ok false)) →
      y = O.bind (F_aqueductlaw09_framed.S 4000000 kind (ipB (withB p s)).1) (fun r29 => O.bind (F_flow_Of.S 4000000 r29) fun r31 => O.bind (F_aqueductlaw09_framed.S 4000000 kind (ipB (withB p t)).1) fun r33 => O.bind (F_flow_Of.S 4000000 r33) fun r35 =>
        O.cond (decide ((decide (r31.1 = r35.1) && (decide (r31.2 = r35.2) && true)) = false)) (.ok true) (.ok false)) →
      O.cond (decide (a.1 = b.1)) x y = .ok true := by
    intro kind hk x y hx hy
    by_cases c : a.1 = b.1
    · rw [O.cond_pos c, hx]; exact go kind hk _ (decide_eq_decide.2 ⟨fun h => ⟨c, h⟩, fun h => h.2⟩)
    · rw [O.cond_neg c, hy]; exact go kind hk _ (decide_eq_false fun h => c h.1).symm
  rw [O.cond_dec]
  rcases v with v | v
  · rw [if_neg (by omega)]; exact same 2048 (.inl ⟨v, rfl⟩) _ _ rfl rfl
  · rw [if_pos v]; exact same 34525 (.inr ⟨v, rfl⟩) _ _ rfl rfl
end Go.Proofs.Ytojomdlccjlioaa
