/- What the document's segment.Parse comes to. -/
import Derived.Test.YtkmhbpiphepjoaaAPT
import Derived.Test.YtkmhbpiphepjoaaAPS8
import Derived.Test.YtkmhbpiphepjoaaAPR7
namespace Go.Proofs.Ytkmhbpiphepjoaa
open Go.Aq Go.IntWalk
set_option linter.unusedVariables false
section
variable (k : Nat) (s : ByteArray) (hs : s.size ≤ 1000000) (hk : s.size + 100 ≤ k)
include hs hk
theorem rnum2 (i : Nat) (hi : i + 2 ≤ s.size) : F_aqueductref08_num.S k s (i : Int) (2 : Int) = .ok (be s i 2) := by
  unfold F_aqueductref08_num.S; rw [rget2 k s hs hk i hi, O.bind_ok, i64_be2]
theorem rnum4 (i : Nat) (hi : i + 4 ≤ s.size) : F_aqueductref08_num.S k s (i : Int) (4 : Int) = .ok (be s i 4) := by
  unfold F_aqueductref08_num.S; rw [rget4 k s hs hk i hi, O.bind_ok, i64_be4]
end
theorem tmod2 (a : Int) : Int.tmod a 2 = 0 ↔ a % 2 = 0 := by
  rw [← Int.dvd_iff_tmod_eq_zero, Int.dvd_iff_emod_eq_zero]
theorem rcar_S (k : Nat) (p : IpT) : F_aqueductref08_carries.S k p = .ok (decide (carP p)) := by
  unfold F_aqueductref08_carries.S
  simp only [tmod2, O.cond_dec]
  repeat' split
  all_goals first | exact congrArg O.ok (decide_eq_true (by unfold carP; omega)).symm | exact congrArg O.ok (decide_eq_false (by unfold carP; omega)).symm | (congr 1; apply decide_eq_decide.2; unfold carP; omega)
theorem rsegParse_S (k : Nat) (p : IpT) (hs : (bod p).size ≤ 65535) (hk : (bod p).size + 3000000 ≤ k) : F_aqueductref08_Parse.S k p = .ok (segP p) := by
  have hs' : (bod p).size ≤ 1000000 := by omega
  apply O.sat_val
  unfold F_aqueductref08_Parse.S
  refine O.sat_eq (rcar_S k p) ?_
  refine O.sat_condn (fun c => O.sat_ok (by unfold segP; rw [if_pos c])) fun c => ?_
  have h1 : p.2.1.size ≤ 1000000 := by unfold carP at c; omega
  have h2 : p.2.2.1.size ≤ 1000000 := by unfold carP at c; omega
  have hpr : 0 ≤ p.2.2.2.1 ∧ p.2.2.2.1 ≤ 255 := by unfold carP at c; omega
  have bad : ∀ e, segQ p = .inl e → (seg0, e) = segP p := fun e he => by unfold segP; rw [if_neg (fun h => h c), he]
  have nosum : ∀ g : SegT, segQ p = .inr g → g.2.2.2.2.2.2.2.2.2 = true → (g, 0) = segP p := fun g hg hb => by unfold segP; rw [if_neg (fun h => h c), hg]; simp [hb]
  have tail : ∀ g : SegT, segQ p = .inr g → g.2.2.2.2.2.2.2.2.2 = false → O.sat (O.bind (F_aqueductref08_At.S k p) fun r5 => O.bind (F_aqueductref08_num.S k (bod p) r5 (2 : Int)) fun r7 => O.bind (F_aqueductref08_Sum.S k p (bod p)) fun r9 =>
          O.cond (decide (r7 ≠ (IntKind.i64.wrap r9))) (.ok (seg0, (82 : Int))) (.ok (g, (0 : Int)))) fun r => r = segP p := by
    intro g hg hb
    have hz := segQ_size hg
    have hl := ssum_lo p (bod p)
    refine O.sat_eq (rAt_S k p) ?_
    refine O.sat_eq (rnum2 k (bod p) hs' (by omega) _ hz) ?_
    refine O.sat_eq (rsum_S k p (bod p) h1 h2 hs' hk hz hpr hs) ?_
    simp only [i64_in (ssum p (bod p)) (by omega)]
    refine O.sat_cond (fun h => O.sat_ok ?_) fun h => O.sat_ok ?_
    · unfold segP; rw [if_neg (fun h => h c), hg]; simp [hb, h]
    · unfold segP; rw [if_neg (fun h => h c), hg]; simp [hb]; simpa using h
  refine O.sat_cond (fun h6 => ?_) fun h6 => ?_
  · have hq : segQ p = udpP p.1 (bod p) := if_neg (by omega)
    refine O.sat_cond (fun h => O.sat_ok (bad _ (by rw [hq]; unfold udpP; rw [if_pos (show (bod p).size < 8 by unfold bod; omega)]))) fun g1 => ?_
    have g1 : ¬ (bod p).size < 8 := by unfold bod; omega
    refine O.sat_eq (rnum2 k (bod p) hs' (by omega) 4 (by omega)) ?_
    refine O.sat_cond (fun h => O.sat_ok (bad _ (by rw [hq]; unfold udpP; rw [if_neg g1, if_pos (show be (bod p) 4 2 ≠ ((bod p).size : Int) from h)]))) fun g2 => ?_
    have g2 : ¬ be (bod p) 4 2 ≠ (bod p).size := g2
    refine O.sat_chk (by unfold bod at g1; omega) ?_
    refine O.sat_eq (rnum2 k (bod p) hs' (by omega) 0 (by omega)) ?_
    refine O.sat_eq (rnum2 k (bod p) hs' (by omega) 2 (by omega)) ?_
    have hg : ∀ b : Bool, decide (be (bod p) 6 2 = 0 ∧ p.1 = 4) = b → udpP p.1 (bod p) = .inr (be (bod p) 0 2, be (bod p) 2 2, 0, 0, 0, 0, 0, ByteArray.empty, (bod p).extract 8 (bod p).size, b) := by
      intro b hb
      unfold udpP; rw [if_neg g1, if_neg g2, hb]
    refine O.sat_cond (fun h4 => ?_) fun h4 => O.sat_yes ?_
    · refine O.sat_eq (rnum2 k (bod p) hs' (by omega) 6 (by omega)) ?_
      refine O.sat_condn (fun h => ?_) fun h => O.sat_ok ?_
      · have e : decide (be (bod p) 6 2 = 0) = false := decide_eq_false h
        rw [e]
        exact tail _ (hq.trans (hg false (by simp [h]))) rfl
      · have e : decide (be (bod p) 6 2 = 0) = true := decide_eq_true h
        rw [e]
        exact nosum _ (hq.trans (hg true (by simp [h, h4]))) rfl
    · exact tail _ (hq.trans (hg false (by simp [h4]))) rfl
  · have h6' : p.2.2.2.1 = 6 := by unfold carP at c; omega
    have hq : segQ p = tcpP (bod p) := if_pos h6'
    obtain ⟨e1, e2⟩ := thl_eq (bod p)
    have c1 := bt_lo (bod p) 12; have c2 := bt_hi (bod p) 12
    have en : IntKind.i64.wrap (IntKind.i64.wrap (Int.tdiv (IntKind.i64.wrap (bt (bod p) 12)) 16) * 4) = (thl (bod p) : Int) := by
      rw [i64_bt, quo_in _ _ c1, i64_in (bt (bod p) 12 / 16) (by omega), i64_in _ (by omega), e1]
    have et : Int.tmod (IntKind.i64.wrap (bt (bod p) 12)) 16 = bt (bod p) 12 % 16 := by rw [i64_bt, rem_in _ _ c1]
    show O.sat (O.cond (decide (((bod p).size : Int) < 20)) _ _) _
    refine O.sat_cond (fun h => O.sat_ok (bad _ (by rw [hq]; unfold tcpP; rw [if_pos (by omega)]))) fun g1 => ?_
    refine O.sat_chk (by unfold bod at g1; omega) ?_
    show O.sat (O.cond (decide (((bod p).size : Int) < IntKind.i64.wrap (IntKind.i64.wrap (Int.tdiv (IntKind.i64.wrap (bt (bod p) 12)) 16) * 4))) _ _) _
    rw [en]
    refine O.sat_cond (fun h => O.sat_ok (bad _ (by rw [hq]; unfold tcpP; rw [if_neg (by omega), if_pos (by omega)]))) fun g2 => ?_
    refine O.sat_chk (by unfold bod at g1; omega) ?_
    show O.sat (O.cond (decide (IntKind.i64.wrap (IntKind.i64.wrap (Int.tdiv (IntKind.i64.wrap (bt (bod p) 12)) 16) * 4) < 20)) _ _) _
    rw [en]
    refine O.sat_cond (fun h => O.sat_ok (bad _ (by rw [hq]; unfold tcpP; rw [if_neg (by omega), if_neg (by omega), if_pos (by omega)]))) fun g3 => ?_
    refine O.sat_chk (by unfold bod at g1; omega) ?_
    show O.sat (O.cond (decide (Int.tmod (IntKind.i64.wrap (bt (bod p) 12)) 16 ≠ 0)) _ _) _
    rw [et]
    refine O.sat_cond (fun h => O.sat_ok (bad _ (by rw [hq]; unfold tcpP; rw [if_neg (by omega), if_neg (by omega), if_pos (by omega)]))) fun g4 => ?_
    refine O.sat_chk (by unfold bod at g1; omega) ?_
    refine O.sat_chk (show 0 ≤ (20 : Int) ∧ 20 ≤ IntKind.i64.wrap (IntKind.i64.wrap (Int.tdiv (IntKind.i64.wrap (bt (bod p) 12)) 16) * 4) ∧ IntKind.i64.wrap (IntKind.i64.wrap (Int.tdiv (IntKind.i64.wrap (bt (bod p) 12)) 16) * 4) ≤ ((bod p).size : Int) by rw [en]; omega) ?_
    refine O.sat_chk (show 0 ≤ IntKind.i64.wrap (IntKind.i64.wrap (Int.tdiv (IntKind.i64.wrap (bt (bod p) 12)) 16) * 4) ∧ IntKind.i64.wrap (IntKind.i64.wrap (Int.tdiv (IntKind.i64.wrap (bt (bod p) 12)) 16) * 4) ≤ ((bod p).size : Int) by rw [en]; omega) ?_
    refine O.sat_eq (rnum2 k (bod p) hs' (by omega) 0 (by omega)) ?_
    refine O.sat_eq (rnum2 k (bod p) hs' (by omega) 2 (by omega)) ?_
    refine O.sat_eq (rnum4 k (bod p) hs' (by omega) 4 (by omega)) ?_
    refine O.sat_eq (rnum4 k (bod p) hs' (by omega) 8 (by omega)) ?_
    refine O.sat_eq (rnum2 k (bod p) hs' (by omega) 14 (by omega)) ?_
    refine O.sat_eq (rnum2 k (bod p) hs' (by omega) 18 (by omega)) ?_
    refine O.sat_yes ?_
    refine tail (be (bod p) 0 2, be (bod p) 2 2, IntKind.u32.wrap (be (bod p) 4 4), IntKind.u32.wrap (be (bod p) 8 4), IntKind.i64.wrap (bt (bod p) 13), be (bod p) 14 2, be (bod p) 18 2, (bod p).extract 20 (IntKind.i64.wrap (IntKind.i64.wrap (Int.tdiv (IntKind.i64.wrap (bt (bod p) 12)) 16) * 4)).toNat, (bod p).extract (IntKind.i64.wrap (IntKind.i64.wrap (Int.tdiv (IntKind.i64.wrap (bt (bod p) 12)) 16) * 4)).toNat (bod p).size, false) ?_ rfl
    rw [hq, en]
    unfold tcpP
    rw [if_neg (by omega), if_neg (by omega), if_neg (by omega), u32_be4, u32_be4, i64_bt, Int.toNat_natCast]
end Go.Proofs.Ytkmhbpiphepjoaa
