/- What segment.Parse comes to. -/
import Derived.Test.YtkmhbpiphepjoaaAPS
import Derived.Test.YtkmhbpiphepjoaaAPG
namespace Go.Proofs.Ytkmhbpiphepjoaa
open Go.Aq Go.IntWalk
set_option linter.unusedVariables false
section
variable (k : Nat) (s : ByteArray) (hs : s.size ≤ 1000000) (hk : s.size + 100 ≤ k)
include hs hk
theorem num2 (i : Nat) (hi : i + 2 ≤ s.size) : F_segment_num.S k s (i : Int) (2 : Int) = .ok (be s i 2) := by
  unfold F_segment_num.S; rw [get2 k s hs hk i hi, O.bind_ok, i64_be2]
theorem num4 (i : Nat) (hi : i + 4 ≤ s.size) : F_segment_num.S k s (i : Int) (4 : Int) = .ok (be s i 4) := by
  unfold F_segment_num.S; rw [get4' k s hs hk i hi, O.bind_ok, i64_be4]
/-- How many bytes a header of TCP has. -/
def thl (s : ByteArray) : Nat := (bt s 12 / 16 * 4).toNat
omit hs hk in
theorem thl_eq : (thl s : Int) = bt s 12 / 16 * 4 ∧ thl s ≤ 60 := by
  have := bt_lo s 12; have := bt_hi s 12; unfold thl; omega
def tcpP (s : ByteArray) : Int ⊕ SegT :=
  if s.size < 20 then .inl 80
  else if s.size < thl s then .inl 80
  else if thl s < 20 ∨ bt s 12 % 16 ≠ 0 then .inl 81
  else .inr (be s 0 2, be s 2 2, be s 4 4, be s 8 4, bt s 13, be s 14 2, be s 18 2, s.extract 20 (thl s), s.extract (thl s) s.size, false)
def udpP (v : Int) (s : ByteArray) : Int ⊕ SegT :=
  if s.size < 8 then .inl 80
  else if be s 4 2 ≠ s.size then .inl 81
  else .inr (be s 0 2, be s 2 2, 0, 0, 0, 0, 0, ByteArray.empty, s.extract 8 s.size, decide (be s 6 2 = 0 ∧ v = 4))
omit hs hk in
theorem u32_be4 (i : Nat) : IntKind.u32.wrap (be s i 4) = be s i 4 := by
  have := be4_lo s i; exact u32_in _ (by omega)
theorem tcp_S : F_segment_tcp.S k s = .ok (tcpP s) := by
  obtain ⟨e1, e2⟩ := thl_eq s
  have c1 := bt_lo s 12; have c2 := bt_hi s 12
  have en : IntKind.i64.wrap (4 * IntKind.i64.wrap (shR .u8 (bt s 12) 4)) = (thl s : Int) := by
    rw [shr4_bt, i64_in (bt s 12 / 16) (by omega), i64_in _ (by omega), e1]; omega
  apply O.sat_val
  unfold F_segment_tcp.S
  simp only [en, and15_bt, Int.toNat_natCast, i64_bt]
  refine O.sat_condn (fun h => O.sat_ok (by unfold tcpP; rw [if_pos (by omega)])) fun g1 => ?_
  refine O.sat_chk (by omega) ?_
  refine O.sat_condn (fun h => O.sat_ok (by unfold tcpP; rw [if_neg (by omega), if_pos (by omega)])) fun g2 => ?_
  refine O.sat_cond (fun g3 => ?_) fun g3 => O.sat_ok (by unfold tcpP; rw [if_neg (by omega), if_neg (by omega), if_pos (by omega)])
  refine O.sat_chk (by omega) ?_
  refine O.sat_condn (fun h => O.sat_ok (by unfold tcpP; rw [if_neg (by omega), if_neg (by omega), if_pos (by omega)])) fun g4 => ?_
  repeat refine O.sat_chk (by omega) ?_
  refine O.sat_eq (num2 k s hs hk 0 (by omega)) ?_
  refine O.sat_eq (num2 k s hs hk 2 (by omega)) ?_
  refine O.sat_eq (num4 k s hs hk 4 (by omega)) ?_
  refine O.sat_eq (num4 k s hs hk 8 (by omega)) ?_
  refine O.sat_eq (num2 k s hs hk 14 (by omega)) ?_
  refine O.sat_eq (num2 k s hs hk 18 (by omega)) ?_
  simp only [u32_be4]
  exact O.sat_ok (by unfold tcpP; rw [if_neg (by omega), if_neg (by omega), if_neg (by omega)])
theorem udp_S (p : IpT) : F_segment_udp.S k p s = .ok (udpP p.1 s) := by
  apply O.sat_val
  unfold F_segment_udp.S
  refine O.sat_condn (fun h => O.sat_ok (by unfold udpP; rw [if_pos (by omega)])) fun g1 => ?_
  refine O.sat_eq (num2 k s hs hk 4 (by omega)) ?_
  refine O.sat_condn (fun h => O.sat_ok (by unfold udpP; rw [if_neg (by omega), if_pos (by omega)])) fun g2 => ?_
  refine O.sat_chk (by omega) ?_
  refine O.sat_eq (num2 k s hs hk 0 (by omega)) ?_
  refine O.sat_eq (num2 k s hs hk 2 (by omega)) ?_
  refine O.sat_eq (num2 k s hs hk 6 (by omega)) ?_
  refine O.sat_cond (fun g3 => O.sat_ok ?_) fun g3 => O.sat_ok ?_
  · unfold udpP; rw [if_neg (by omega), if_neg (by omega)]; simp [g3]
  · unfold udpP; rw [if_neg (by omega), if_neg (by omega)]; simp [g3]
end
def bod (p : IpT) : ByteArray := p.2.2.2.2.2.2.2.2.2.2.2
def segQ (p : IpT) : Int ⊕ SegT := if p.2.2.2.1 = 6 then tcpP (bod p) else udpP p.1 (bod p)
/-- A segment, taken apart. -/
def segP (p : IpT) : SegT × Int :=
  if ¬ carP p then (seg0, 81) else match segQ p with
    | .inl e => (seg0, e)
    | .inr g => if g.2.2.2.2.2.2.2.2.2 = false ∧ be (bod p) (plc p) 2 ≠ ssum p (bod p) then (seg0, 82) else (g, 0)
theorem segQ_size {p : IpT} {g : SegT} (h : segQ p = .inr g) : plc p + 2 ≤ (bod p).size := by
  unfold segQ at h
  unfold plc
  split at h
  · rename_i c
    rw [if_pos c]
    unfold tcpP at h
    split at h
    · cases h
    · omega
  · rename_i c
    rw [if_neg c]
    unfold udpP at h
    split at h
    · cases h
    · omega
theorem segParse_S (k : Nat) (p : IpT) (hs : (bod p).size ≤ 1000000) (hk : (bod p).size + 3000000 ≤ k) : F_segment_Parse.S k p = .ok (segP p) := by
  apply O.sat_val
  unfold F_segment_Parse.S
  refine O.sat_sum (smay_S k p) (fun e he => O.sat_yes (O.sat_ok ?_)) fun u hu => ?_
  · split at he
    · cases he
    · rename_i c; cases he; unfold segP; rw [if_pos c]
  · have c : carP p := by split at hu; · assumption
                          · cases hu
    have h1 : p.2.1.size ≤ 1000000 := by unfold carP at c; omega
    have h2 : p.2.2.1.size ≤ 1000000 := by unfold carP at c; omega
    have tail : ∀ g : SegT, segQ p = .inr g → ∀ (y : O (SegT × Int)),
        O.sat (O.cond g.2.2.2.2.2.2.2.2.2 (.ok (g, (0 : Int))) (O.bind (F_segment_place.S k p) fun r5 => O.bind (F_segment_num.S k (bod p) r5 (2 : Int)) fun r7 => O.bind (F_segment_sum.S k p (bod p)) fun r9 =>
          O.cond (!(decide (r7 = (IntKind.i64.wrap r9)))) (.ok (seg0, (82 : Int))) (.ok (g, (0 : Int))))) fun r => r = segP p := by
      intro g hg y
      have hz := segQ_size hg
      have hl := ssum_lo p (bod p)
      refine O.sat_condb (fun hb => O.sat_ok ?_) fun hb => ?_
      · unfold segP; rw [if_neg (fun h => h c), hg]; simp [hb]
      · refine O.sat_eq (place_S k p) ?_
        refine O.sat_eq (num2 k (bod p) hs (by omega) _ hz) ?_
        refine O.sat_eq (sum_S k p (bod p) h1 h2 hs hk hz) ?_
        simp only [i64_in (ssum p (bod p)) (by omega)]
        refine O.sat_condn (fun h => O.sat_ok ?_) fun h => O.sat_ok ?_
        · unfold segP; rw [if_neg (fun h => h c), hg]; simp [hb, h]
        · unfold segP; rw [if_neg (fun h => h c), hg]; simp [hb, h]
    simp only [O.cond_true, O.cond_false]
    refine O.sat_cond (fun h6 => ?_) fun h6 => ?_
    · have hq : segQ p = tcpP (bod p) := if_pos h6
      refine O.sat_sum (tcp_S k (bod p) hs (by omega)) (fun e he => O.sat_ok ?_) fun g hg => ?_
      · unfold segP; rw [if_neg (fun h => h c), hq, he]
      · exact tail g (hq.trans hg) .no
    · have hq : segQ p = udpP p.1 (bod p) := if_neg h6
      refine O.sat_sum (udp_S k (bod p) hs (by omega) p) (fun e he => O.sat_ok ?_) fun g hg => ?_
      · unfold segP; rw [if_neg (fun h => h c), hq, he]
      · exact tail g (hq.trans hg) .no
end Go.Proofs.Ytkmhbpiphepjoaa
