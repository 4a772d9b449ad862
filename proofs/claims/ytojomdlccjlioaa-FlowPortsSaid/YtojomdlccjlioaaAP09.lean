/- What segment.Build comes to; the flow of a frame around a right segment; the calls whose answers the document fixes. -/
import Derived.Test.YtojomdlccjlioaaAPFL
import Derived.Test.YtojomdlccjlioaaAPIB
namespace Go.Proofs.Ytojomdlccjlioaa
open Go.Aq Go.IntWalk
set_option linter.unusedVariables false
/-- A segment's bytes. -/
noncomputable def segB (p : IpT) (g : SegT) : ByteArray × Int :=
  match bareP p g with
  | .inl e => (⟨#[]⟩, e)
  | .inr s => if g.2.2.2.2.2.2.2.2.2 = true then (s, 0) else (set2 s (plc p) (ssum p s), 0)
def fitSeg (g : SegT) : Prop := (0 ≤ g.2.2.1 ∧ g.2.2.1 ≤ 4294967295) ∧ (0 ≤ g.2.2.2.1 ∧ g.2.2.2.1 ≤ 4294967295) ∧ g.1 < 2 ^ 63 ∧ g.2.1 < 2 ^ 63 ∧ g.2.2.2.2.1 < 2 ^ 63 ∧ g.2.2.2.2.2.1 < 2 ^ 63 ∧ g.2.2.2.2.2.2.1 < 2 ^ 63 ∧ (sbod g).size ≤ 60000 ∧ (opts g).size ≤ 9223372036854775807
/-- What is built without a sum. -/
theorem bareP_ok (p : IpT) (g : SegT) (s : ByteArray) (h : bareP p g = .inr s) : segOk p g ∧ s.extract 0 4 = putT g.1 2 ++ putT g.2.1 2 ∧ plc p + 2 ≤ s.size ∧ 8 ≤ s.size ∧ s.size ≤ 60 + (sbod g).size := by
  unfold bareP at h
  by_cases o : segOk p g
  · rw [if_pos o] at h
    have e := Sum.inr.inj h
    refine ⟨o, ?_⟩
    have oo := o
    unfold segOk at oo
    obtain ⟨c, _, _, r⟩ := oo
    have pz : (putT g.1 2 ++ putT g.2.1 2).size = 4 := by rw [app_size, putT_size, putT_size]
    have hz : nn.size = 2 := rfl
    have l4 := ext_left (putT g.1 2 ++ putT g.2.1 2)
    rw [pz] at l4
    unfold plc
    by_cases u : p.2.2.2.1 = 17
    · rw [if_pos u] at e
      rw [if_neg (by omega)]
      have sz : s.size = 8 + (sbod g).size := by rw [← e]; simp only [app_size, putT_size, hz]
      refine ⟨?_, by omega, by omega, by omega⟩
      rw [← e, ext_app1 _ _ _ _ (by simp only [app_size, putT_size, hz]; omega), ext_app1 _ _ _ _ (by simp only [app_size, putT_size]; omega)]
      exact l4 _
    · rw [if_neg u] at e r
      have sz : s.size = 20 + (opts g).size + (sbod g).size := by rw [← e]; simp only [app_size, putT_size, hz]
      refine ⟨?_, by split <;> omega, by omega, by omega⟩
      rw [← e]
      iterate 8 rw [ext_app1 _ _ _ _ (by simp only [app_size, putT_size, hz]; omega)]
      exact l4 _
  · rw [if_neg o] at h; cases h
theorem set2_four (s : ByteArray) (i : Nat) (n : Int) (h4 : 4 ≤ i) (hi : i + 2 ≤ s.size) : (set2 s i n).extract 0 4 = s.extract 0 4 := by
  unfold set2
  rw [ext_app1 _ _ _ _ (by rw [app_size, ext_size, putT_size]; omega), ext_app1 _ _ _ _ (by rw [ext_size]; omega), ext_ext]
  congr 1; omega
theorem segBuild_S (k : Nat) (hk : 4000000 ≤ k) (p : IpT) (g : SegT) (w : fitSeg g) : F_segment_Build.S k p g = .ok (segB p g) := by
  obtain ⟨w1, w2, w3, w4, w5, w6, w7, w8, w9⟩ := w
  unfold F_segment_Build.S segB
  rw [bare_S k (by omega) p g w1 w2 w3 w4 w5 w6 w7 (by omega) w9]
  cases h : bareP p g with
  | inl e => rw [O.sum_inl, O.cond_true]
  | inr s =>
    obtain ⟨o, e, h1, h2, h3⟩ := bareP_ok p g s h
    rw [O.sum_inr]
    cases hn : g.2.2.2.2.2.2.2.2.2
    · rw [O.cond_false, place_S, O.bind_ok]
      unfold segOk carP at o
      obtain ⟨⟨_, _, _, o⟩, _⟩ := o
      rw [sum_S k p s (by omega) (by omega) (by omega) (by omega) h1, O.bind_ok]
      have := ssum_lo p s
      rw [set_S k s _ _ (by omega) h1 this, O.bind_ok, O.cond_false]; rfl
    · rw [O.cond_true, O.cond_false]; rfl
/-- What is built: ports ahead of all. -/
theorem segB_ok (p : IpT) (g : SegT) (h : (segB p g).2 = 0) : segOk p g ∧ (segB p g).1.extract 0 4 = putT g.1 2 ++ putT g.2.1 2 ∧ 8 ≤ (segB p g).1.size ∧ (segB p g).1.size ≤ 60 + (sbod g).size := by
  unfold segB at h ⊢
  cases hb : bareP p g with
  | inl e =>
    rw [hb] at h
    have : e = 0 := h
    unfold bareP at hb
    split at hb
    · cases hb
    · cases hb; cases this
  | inr s =>
    obtain ⟨o, e, h1, h2, h3⟩ := bareP_ok p g s hb
    refine ⟨o, ?_⟩
    by_cases n : g.2.2.2.2.2.2.2.2.2 = true
    · simp only [n, if_true]; exact ⟨e, h2, h3⟩
    · simp only [n, Bool.false_eq_true, if_false]
      have pl := plc_le p
      have z := set2_size s (plc p) (ssum p s) h1
      exact ⟨by rw [set2_four s _ _ (by omega) h1]; exact e, by rw [z]; exact h2, by rw [z]; exact h3⟩
/-- A frame around a packet's bytes. -/
def dstF : ByteArray := ⟨#[65, 66, 67, 68, 69, 70]⟩
def srcF : ByteArray := ⟨#[71, 72, 73, 74, 75, 76]⟩
def framedP (kind : Int) (t : ByteArray) : ByteArray := (ethB (dstF, srcF, -1, 0, kind, t)).1
theorem framed_S (k : Nat) (hk : 9 ≤ k) (kind : Int) (t : ByteArray) : F_aqueductlaw09_framed.S k kind t = .ok (framedP kind t) := by
  unfold F_aqueductlaw09_framed.S
  rw [ethBuild_S k hk, O.bind_ok]; rfl
theorem framed_ok (kind : Int) (t : ByteArray) (hm : mayP kind) (ht : t.size ≤ 1504) : ethP (framedP kind t) = ((dstF, srcF, -1, 0, kind, t), 0) := by
  have ok : ethOk (dstF, srcF, -1, 0, kind, t) := ⟨rfl, rfl, (by decide : (-1 : Int) ≤ -1), (by decide : (-1 : Int) ≤ 4094), (by decide : (0 : Int) ≤ 0), (by decide : (0 : Int) ≤ 7), fun _ => rfl, hm⟩
  have sz := ethHd_size _ ok
  have sz' : (ethHd (dstF, srcF, -1, 0, kind, t)).size = 14 := sz
  have fits : (ethHd (dstF, srcF, -1, 0, kind, t)).size + t.size ≤ 1518 := by omega
  unfold framedP ethB
  rw [if_pos ⟨ok, fits⟩]
  exact ethP_hd _ ok fits
/-- The flow of a frame around a right packet. -/
theorem flow_framed (kind : Int) (p : IpT) (t : ByteArray) (hk : p.1 = 4 ∧ kind = 2048 ∨ p.1 = 6 ∧ kind = 34525) (ht : t.size ≤ 1504) (h : ipP t = (p, 0)) : flowP (framedP kind t) = flowQ p := by
  have hm : mayP kind := by
    rcases hk with ⟨_, k⟩ | ⟨_, k⟩ <;> subst k <;> decide
  have e := framed_ok kind t hm ht
  have h2 : (ethP (framedP kind t)).2 = 0 := by rw [e]
  have h3 : (ethP (framedP kind t)).1.2.2.2.2.1 = kind := by rw [e]
  have h4 : (ethP (framedP kind t)).1.2.2.2.2.2 = t := by rw [e]
  unfold flowP
  rw [h2, h3, h4, h]
  rw [if_neg (by decide), if_neg (by rcases hk with ⟨_, k⟩ | ⟨_, k⟩ <;> subst k <;> decide), if_neg (by simp), if_neg (fun c => c hk)]
/-- The flow of a right segment. -/
theorem flowQ_seg (p : IpT) (c : carP p) (hb : 4 ≤ (ibod p).size) : flowQ p = (portP p, p.2.1 ++ p.2.2.1 ++ (ibod p).extract 0 4) ∧ portP p ≠ 0 := by
  have n : portP p ≠ 0 := by
    obtain ⟨c1, c2, c3, c4⟩ := c
    unfold portP
    rw [if_neg (by omega)]
    rcases c1 with c1 | c1
    · rw [if_pos c1]; split <;> decide
    · rw [if_neg (by omega), if_pos c1]; split <;> decide
  unfold flowQ
  rw [if_pos n]; exact ⟨rfl, n⟩
/-- The example's packet, and its segment. -/
def packetE (b : ByteArray) : IpT := (4, ⟨#[10, 0, 0, 1]⟩, ⟨#[10, 0, 0, 2]⟩, 17, 0, 0, 0, 0, 0, 0, ByteArray.empty, b)
def segE : SegT := (1, 2, 0, 0, 0, 0, 0, ByteArray.empty, ⟨#[104, 105]⟩, false)
theorem segE_ok (b : ByteArray) : segOk (packetE b) segE := by
  refine ⟨⟨.inr rfl, rfl, rfl, .inl ⟨rfl, rfl, rfl⟩⟩, by decide, by decide, ?_⟩
  rw [if_pos (show (packetE b).2.2.2.1 = 17 from rfl)]
  exact ⟨rfl, rfl, rfl, rfl, rfl, rfl, fun c => (by cases c.1), by decide⟩
theorem segB_E (b : ByteArray) : (segB (packetE b) segE).2 = 0 := by
  unfold segB bareP
  rw [if_pos (segE_ok b)]
  rfl
theorem ipE_ok (b : ByteArray) (hb : b.size ≤ 100) : (ipB (packetE b)).2 = 0 := by
  have o : ok4 (packetE b) := by
    refine ⟨rfl, rfl, rfl, by show (0 : Nat) ≤ 40; decide, rfl, by show b.size + 0 ≤ 65515; omega, ?_⟩
    refine ⟨(by decide : (0 : Int) ≤ 0), (by decide : (0 : Int) ≤ 3), (by decide : (0 : Int) ≤ 0), (by decide : (0 : Int) ≤ 8191), ?_⟩
    exact ⟨(by decide : inU 1 0), (by decide : inU 2 0), (by decide : inU 1 0), (by decide : inU 1 17)⟩
  unfold ipB
  rw [if_pos (show (packetE b).1 = 4 from rfl), if_pos o]
theorem flow_two (a b : ByteArray) : (decide (a = b) && true) = decide (a = b) := Bool.and_true _
theorem fixed09 (k : Nat) (hk : 4000000 ≤ k) : F_aqueductlaw09_fixed.S k = .ok true := by
  obtain ⟨o, e, h1, h2⟩ := segB_ok (packetE ByteArray.empty) segE (segB_E _)
  have h2 : (segB (packetE ByteArray.empty) segE).1.size ≤ 60 + 2 := h2
  unfold F_aqueductlaw09_fixed.S F_aqueductlaw09_packet.S
  rw [O.bind_ok]
  show O.bind (F_segment_Build.S k (packetE ByteArray.empty) segE) _ = _
  rw [segBuild_S k hk _ _ (by refine ⟨⟨?_, ?_⟩, ⟨?_, ?_⟩, ?_⟩ <;> decide), O.bind_ok]
  have s0 := segB_E ByteArray.empty
  generalize segB (packetE ByteArray.empty) segE = sb at *
  obtain ⟨s, e0⟩ := sb
  dsimp only at *
  subst s0
  show O.bind (F_ip_Build.S k (packetE s)) _ = _
  have fi : fitIp (packetE s) := ⟨(by decide : (17 : Int) < 2 ^ 63), (by decide : (0 : Int) < 2 ^ 63), (by decide : (0 : Int) < 2 ^ 63), (by decide : (0 : Int) < 2 ^ 63), (by decide : (0 : Nat) ≤ 9223372036854775807), by show s.size ≤ _; omega⟩
  rw [ipBuild_S k (by omega) _ fi, O.bind_ok]
  have t0 := ipE_ok s (by omega)
  obtain ⟨pp, ps, _⟩ := ipP_B (packetE s) t0
  have ps : (ipB (packetE s)).1.size ≤ 60 + s.size := ps
  generalize ipB (packetE s) = tb at *
  obtain ⟨t, e1⟩ := tb
  dsimp only at *
  subst t0
  have c := o.1
  obtain ⟨q1, q2⟩ := flowQ_seg (packetE s) c (by show 4 ≤ s.size; omega)
  have fl : flowP (framedP 2048 t) = (3, ⟨#[10, 0, 0, 1, 10, 0, 0, 2, 0, 1, 0, 2]⟩) := by
    rw [flow_framed 2048 (packetE s) t (.inl ⟨rfl, rfl⟩) (by omega) pp, q1]
    have pe : portP (packetE s) = 3 := by
      unfold portP
      rw [if_neg]
      · rfl
      · rintro (c | c | c)
        · exact c rfl
        · exact c rfl
        · have : s.size < 4 := c
          omega
    have ee : (ibod (packetE s)).extract 0 4 = putT 1 2 ++ putT 2 2 := e
    rw [pe, ee]
    refine Prod.ext rfl ?_
    apply list_eq
    rw [app_list, app_list, app_list]
    rfl
  have fn : flowP (framedP 2054 t) = no0 := by
    have ef := framed_ok 2054 t (by decide) (by omega)
    unfold flowP
    rw [ef]
    rfl
  rw [framed_S k (by omega), O.bind_ok, flowOf_S k (by omega), O.bind_ok, fl, framed_S k (by omega), O.bind_ok, flowOf_S k (by omega), fn, O.bind_ok, less_S k, O.bind_ok]
  have l0 : lessP (3, (⟨#[10, 0, 0, 1, 10, 0, 0, 2, 0, 1, 0, 2]⟩ : ByteArray)) = (1, ByteArray.extract ⟨#[10, 0, 0, 1, 10, 0, 0, 2, 0, 1, 0, 2]⟩ 0 8) := rfl
  rw [l0, O.cond_pos rfl, O.cond_pos rfl]
  have b1 : (decide ((3 : Int) = 3) && (decide ((⟨#[10, 0, 0, 1, 10, 0, 0, 2, 0, 1, 0, 2]⟩ : ByteArray) = ⟨#[10, 0, 0, 1, 10, 0, 0, 2, 0, 1, 0, 2]⟩) && true)) = true := by simp
  have b2 : (decide (no0.1 = 0) && (decide (no0.2 = ByteArray.empty) && true)) = true := by simp
  dsimp only
  rw [b1, O.cond_true, b2, O.cond_true, O.chk_dec (by decide)]
  simp
end Go.Proofs.Ytojomdlccjlioaa
