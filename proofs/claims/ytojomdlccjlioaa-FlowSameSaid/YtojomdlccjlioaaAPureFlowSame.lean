/- The law FlowSame, in plain words. -/
import Derived.Test.YtojomdlccjlioaaAPureFlowPorts
namespace Go.Proofs.Ytojomdlccjlioaa
open Go.Aq Go.IntWalk
set_option linter.unusedVariables false
abbrev likeP (p : IpT) (h c : Int) (b : ByteArray) : IpT := (p.1, p.2.1, p.2.2.1, p.2.2.2.1, h, c, p.2.2.2.2.2.2.1, p.2.2.2.2.2.2.2.1, p.2.2.2.2.2.2.2.2.1, p.2.2.2.2.2.2.2.2.2.1, p.2.2.2.2.2.2.2.2.2.2.1, b)
theorem flow_like (p : IpT) (h c : Int) (s : ByteArray) (kind : Int) (cr : carP p) (h4 : 4 ≤ s.size) (h9 : s.size ≤ 1000) (hi : (ipB (likeP p h c s)).2 = 0) (hk : p.1 = 4 ∧ kind = 2048 ∨ p.1 = 6 ∧ kind = 34525) :
    flowP (framedP kind (ipB (likeP p h c s)).1) = (portP (likeP p h c s), p.2.1 ++ p.2.2.1 ++ s.extract 0 4) ∧ portP (likeP p h c s) ≠ 0 ∧ (ipB (likeP p h c s)).1.size ≤ 60 + s.size := by
  obtain ⟨pp, ps, _⟩ := ipP_B _ hi
  have ps : (ipB (likeP p h c s)).1.size ≤ 60 + s.size := ps
  have c' : carP (likeP p h c s) := cr
  obtain ⟨q1, q2⟩ := flowQ_seg (likeP p h c s) c' h4
  rw [flow_framed kind (likeP p h c s) _ hk (by omega) pp, q1]
  exact ⟨rfl, q2, ps⟩
theorem port_like (p : IpT) (h c h' c' : Int) (s t : ByteArray) (hs : 4 ≤ s.size) (ht : 4 ≤ t.size) : portP (likeP p h c s) = portP (likeP p h' c' t) :=
  (portP_same (likeP p h c s) s t hs ht).trans rfl
theorem xor_lt (a b : Int) : bXor .i64 a b < 2 ^ 63 := by
  unfold bXor; rw [IntKind.wrap_i64]; omega
theorem tag_low (a : Int) : 0 ≤ Int.tmod (bAnd .i64 a 65535) 4095 ∧ Int.tmod (bAnd .i64 a 65535) 4095 ≤ 4094 := by
  have h : 0 ≤ bAnd .i64 a 65535 := by
    unfold bAnd
    have e : (BitVec.ofInt 64 a &&& BitVec.ofInt 64 65535).toNat ≤ 65535 := by
      rw [BitVec.toNat_and]; exact Nat.and_le_right
    rw [i64_in _ (by show _ ≤ (((BitVec.ofInt 64 a &&& BitVec.ofInt 64 65535).toNat : Nat) : Int) ∧ (((BitVec.ofInt 64 a &&& BitVec.ofInt 64 65535).toNat : Nat) : Int) ≤ _; omega)]
    omega
  rw [rem_in _ _ h]; omega
theorem flowP_same (s t : ByteArray) (h1 : (ethP s).2 = 0) (h2 : (ethP t).2 = 0) (h3 : (ethP s).1.2.2.2.2.1 = (ethP t).1.2.2.2.2.1) (h4 : (ethP s).1.2.2.2.2.2 = (ethP t).1.2.2.2.2.2) : flowP s = flowP t := by
  unfold flowP; rw [h1, h2, h3, h4]
/-- A tag makes no difference to a flow. -/
theorem flowP_tag' (s : ByteArray) (v : Int) (h : (tagP s v).2 = 0) : flowP (tagP s v).1 = flowP s := by
  unfold tagP at h ⊢
  by_cases c : (ethP s).2 ≠ 0
  · rw [if_pos c] at h; exact (c h).elim
  · rw [if_neg c] at h ⊢
    obtain ⟨e, _⟩ := ethP_B _ h
    refine flowP_same _ _ ?_ (Decidable.not_not.1 c) ?_ ?_ <;> rw [e]
theorem Pure.FlowSame : ∀ (a0 : IpT) (a1 : SegT) (a2 : Int), okF ipSh a0 → okF segSh a1 → (Lit.int .i64 a2).wf = true → ∃ k, F_aqueductlaw09_FlowSame.S k a0 a1 a2 = .ok true := by
  intro p g v hp hg hv
  refine ⟨4000000, ?_⟩
  obtain ⟨w1, w2, w3, w4, w5⟩ := okF_ip hp
  obtain ⟨fa, za⟩ := okF_seg hg 500 (by omega)
  obtain ⟨v1, v2⟩ := tag_low v
  have fx := fixed09 4000000 (Nat.le_refl _)
  unfold F_aqueductlaw09_FlowSame.S F_aqueductlaw09_FlowSame.top F_aqueductlaw09_FlowSame.j5 F_aqueductlaw09_FlowSame.j5_b F_aqueductlaw09_FlowSame.j8
  rw [O.chk_dec (by omega)]
  show O.bind (F_segment_Build.S 4000000 (withB p ⟨#[]⟩) (cutG g 500)) _ = _
  rw [segBuild_S _ (Nat.le_refl _) _ _ fa, O.bind_ok, fx]
  generalize hr : segB (withB p ⟨#[]⟩) (cutG g 500) = r
  by_cases e1 : r.2 ≠ 0
  · rw [O.cond_pos e1, O.bind_ok]
  rw [O.cond_neg e1]
  have e1 := Decidable.not_not.1 e1
  obtain ⟨oa, xa, la, ua⟩ := segB_ok (withB p ⟨#[]⟩) (cutG g 500) (by rw [hr]; exact e1)
  rw [hr] at la ua
  have cr : carP p := oa.1
  have go : ∀ kind : Int, (p.1 = 4 ∧ kind = 2048 ∨ p.1 = 6 ∧ kind = 34525) → F_aqueductlaw09_FlowSame.j8_b 4000000 p v r kind = .ok true := by
    intro kind hk
    unfold F_aqueductlaw09_FlowSame.j8_b
    obtain ⟨s, e⟩ := r
    dsimp only at la ua ⊢
    have mz : (⟨#[109, 111, 114, 101]⟩ : ByteArray).size = 4 := rfl
    have ms : (s ++ (⟨#[109, 111, 114, 101]⟩ : ByteArray)).size = s.size + 4 := by rw [app_size, mz]
    have me : (s ++ (⟨#[109, 111, 114, 101]⟩ : ByteArray)).extract 0 4 = s.extract 0 4 := ext_app1 _ _ _ _ (by omega)
    have is : F_ip_Build.S 4000000 (likeP p p.2.2.2.2.1 p.2.2.2.2.2.1 s) = .ok (ipB (likeP p p.2.2.2.2.1 p.2.2.2.2.2.1 s)) := ipBuild_S _ (by omega) _ ⟨w1, w2, w3, w4, w5, by show (s : ByteArray).size ≤ _; omega⟩
    have it : F_ip_Build.S 4000000 (likeP p (bXor .i64 p.2.2.2.2.1 1) (bXor .i64 p.2.2.2.2.2.1 3) (s ++ (⟨#[109, 111, 114, 101]⟩ : ByteArray))) = .ok (ipB (likeP p (bXor .i64 p.2.2.2.2.1 1) (bXor .i64 p.2.2.2.2.2.1 3) (s ++ (⟨#[109, 111, 114, 101]⟩ : ByteArray)))) :=
      ipBuild_S _ (by omega) _ ⟨w1, xor_lt _ _, xor_lt _ _, w4, w5, by show (s ++ (⟨#[109, 111, 114, 101]⟩ : ByteArray)).size ≤ _; omega⟩
    show O.bind (F_ip_Build.S 4000000 (likeP p p.2.2.2.2.1 p.2.2.2.2.2.1 s)) (fun r16 => O.chk _ (O.bind (F_ip_Build.S 4000000 (likeP p (bXor .i64 p.2.2.2.2.1 1) (bXor .i64 p.2.2.2.2.2.1 3) (s ++ (⟨#[109, 111, 114, 101]⟩ : ByteArray)))) _)) = _
    rw [is, O.bind_ok, O.chk_dec (by rw [mz]; omega), it, O.bind_ok, fx]
    by_cases e3 : (ipB (likeP p p.2.2.2.2.1 p.2.2.2.2.2.1 s)).2 ≠ 0
    · rw [O.cond_pos e3, O.bind_ok]
    rw [O.cond_neg e3]
    by_cases e4 : (ipB (likeP p (bXor .i64 p.2.2.2.2.1 1) (bXor .i64 p.2.2.2.2.2.1 3) (s ++ (⟨#[109, 111, 114, 101]⟩ : ByteArray)))).2 ≠ 0
    · rw [O.cond_pos e4, O.bind_ok]
    rw [O.cond_neg e4]
    obtain ⟨f1, f2, f3⟩ := flow_like p _ _ s kind cr (by omega) (by omega) (Decidable.not_not.1 e3) hk
    obtain ⟨g1, _, _⟩ := flow_like p _ _ _ kind cr (by rw [ms]; omega) (by rw [ms]; omega) (Decidable.not_not.1 e4) hk
    rw [me, port_like p _ _ p.2.2.2.2.1 p.2.2.2.2.2.1 _ s (by rw [ms]; omega) (by omega), ← f1] at g1
    generalize (ipB (likeP p (bXor .i64 p.2.2.2.2.1 1) (bXor .i64 p.2.2.2.2.2.1 3) (s ++ (⟨#[109, 111, 114, 101]⟩ : ByteArray)))).1 = u at g1
    generalize (ipB (likeP p p.2.2.2.2.1 p.2.2.2.2.2.1 s)).1 = t at f1 f3 g1
    have hm : mayP kind := by rcases hk with ⟨_, k⟩ | ⟨_, k⟩ <;> subst k <;> decide
    have ef := framed_ok kind t hm (by omega)
    have et : (tagP (framedP kind t) (Int.tmod (bAnd .i64 v 65535) 4095)).2 = 0 := by
      unfold tagP
      rw [ef, if_neg (by simp)]
      dsimp only
      have ok : ethOk (dstF, srcF, Int.tmod (bAnd .i64 v 65535) 4095, if Int.tmod (bAnd .i64 v 65535) 4095 = -1 then 0 else 0, kind, t) := by
        rw [if_neg (by omega)]
        exact ⟨rfl, rfl, by show -1 ≤ Int.tmod (bAnd .i64 v 65535) 4095; omega, by show Int.tmod (bAnd .i64 v 65535) 4095 ≤ 4094; omega, (by decide : (0 : Int) ≤ 0), (by decide : (0 : Int) ≤ 7), fun _ => rfl, hm⟩
      have sz := ethHd_size _ ok
      have sz' : (ethHd (dstF, srcF, Int.tmod (bAnd .i64 v 65535) 4095, if Int.tmod (bAnd .i64 v 65535) 4095 = -1 then 0 else 0, kind, t)).size ≤ 18 := by rw [sz]; split <;> omega
      unfold ethB
      rw [if_pos ⟨ok, by show _ + t.size ≤ 1518; omega⟩]
    have eg := flowP_tag' _ _ et
    rw [framed_S _ (by omega), O.bind_ok, ethTag_S _ (by omega), O.bind_ok, flowOf_S _ (by omega), O.bind_ok, et, O.cond_pos rfl, O.cond_pos (by rw [f1]; exact f2), flowOf_S _ (by omega), O.bind_ok, eg]
    simp only [decide_true, Bool.and_true, O.cond_true]
    rw [framed_S _ (by omega), O.bind_ok, flowOf_S _ (by omega), O.bind_ok, g1]
    simp
  rw [O.cond_dec, O.cond_dec]
  have cv := cr.2.2.2
  by_cases v4 : p.1 = 4
  · rw [if_neg (by omega)]
    dsimp only
    rw [O.cond_neg (by omega)]
    exact go 2048 (.inl ⟨v4, rfl⟩)
  · rw [if_pos v4, if_neg (by omega)]
    dsimp only
    rw [O.cond_pos (by omega)]
    exact go 34525 (.inr ⟨by omega, rfl⟩)
end Go.Proofs.Ytojomdlccjlioaa
