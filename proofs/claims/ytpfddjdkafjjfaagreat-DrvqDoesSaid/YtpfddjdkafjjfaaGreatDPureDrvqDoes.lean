/- The law DrvqDoes of its plain function. -/
import Derived.Test.YtpfddjdkafjjfaaGreatDP15n
namespace Go.Proofs.YtpfddjdkafjjfaaGreat
open Go.Aq Go.IntWalk
set_option linter.unusedVariables false
theorem max_len : maxLen = 9223372036854775807 := by decide
theorem sub_zero {α : Type} (xs : List α) (n : Int) (h : 0 ≤ n ∧ n ≤ xs.length) : ((sub xs (sumI []) n).length : Int) = n := by
  unfold sub
  rw [List.length_take, List.length_drop]
  simp [sumI]; omega
theorem Acc_any (k : Nat) (l : List (Int × Int × Int × Bool)) (h : l.length ≤ 1048576) : F_api_Access.S k l = .ok l := by
  by_cases h0 : 0 < l.length
  · exact Acc_S k l ⟨h0, h⟩
  · have : l = [] := List.length_eq_zero_iff.1 (by omega)
    subst this
    unfold F_api_Access.S
    rw [O.cond_neg (by simp), O.cond_true, O.cond_false, O.chk_dec (by simp), O.same_eq]; simp
theorem Cln_S (k : Nat) (l : List Int) (h : 0 < l.length ∧ l.length ≤ 1048576) : F_slices_Clone_byte_byte.S k l = .ok l := by
  unfold F_slices_Clone_byte_byte.S
  rw [O.cond_pos (by omega), O.cond_false, O.chk_dec (by omega)]
  rfl
theorem wf_i64 {n : Int} (h : (Lit.int .i64 n).wf = true) : n ≤ 9223372036854775807 := by
  simp [Lit.wf, IntKind.min, IntKind.max, IntKind.bits, IntKind.signed] at h
  omega
/-- The loop, in whole objects. -/
noncomputable def L4 (k : Nat) (a0 : Int × (Int × Int × Int × Int) × List (Int × Int × Int × Int × List (Int × Int × Bool) × ByteArray × (Int × Bool × Int) × Bool)) (j : Nat) (i : Int) (q : TV) (g : TM) (x : TX) (h : TR) : O Bool := F_aqueductlaw15_DrvqDoes.l4 k a0 j i g.2.1 q.1.1 q.1.2.1 q.1.2.2.1 q.1.2.2.2 q.2.1.1 q.2.1.2 q.2.2.1.1 q.2.2.1.2 q.2.2.2.1.1 q.2.2.2.1.2 q.2.2.2.2.1 q.2.2.2.2.2.1 x.1.1 x.1.2.1 x.1.2.2.1 x.1.2.2.2 x.2.1.1 x.2.1.2 x.2.2.1.1 x.2.2.1.2 x.2.2.2.1.1 x.2.2.2.1.2 x.2.2.2.2.1 g.1 g.2.2 q.2.2.2.2.2.2 h.1 h.2.1 x.2.2.2.2.2 h.2.2
structure DI (L : LAY) (len : Nat) (i : Nat) (q : TV) (g : TM) (x : TX) (h : TR) : Prop where
  rx : RX L len q g x h
  since : x.2.2.2.2.1 ≤ 64 * (i : Int)
  log : 2 * (h.2.2.length : Int) ≤ 20 + 66 * (i : Int) + sm q.2.2.2.2.2.2
theorem DI.more {L : LAY} {len i : Nat} {q q' : TV} {g g' : TM} {x x' : TX} {h h' : TR} (d : DI L len i q g x h) (r : RX L len q' g' x' h') (hs : x'.2.2.2.2.1 ≤ x.2.2.2.2.1 + 64) (hl : 2 * (h'.2.2.length : Int) ≤ 2 * (h.2.2.length : Int) + 66 + (sm q'.2.2.2.2.2.2 - sm q.2.2.2.2.2.2)) : DI L len (i + 1) q' g' x' h' :=
  ⟨r, by have := d.since; omega, by have := d.log; omega⟩
set_option maxHeartbeats 4000000 in
theorem does_loop (k : Nat) (hk : 71000 ≤ k) (fx : F_aqueductlaw15_fixed.S k = .ok true) (a0 : Int × (Int × Int × Int × Int) × List (Int × Int × Int × Int × List (Int × Int × Bool) × ByteArray × (Int × Bool × Int) × Bool)) (L : LAY) (hLa : a0.2.1 = L) (len : Nat) (hlen : len ≤ 2048) (hlo : 64 ≤ len) (hL : LayIn L len) (hs128 : L.2.1 ≤ 128) (hsc : ∀ o ∈ a0.2.2, o.2.2.2.2.1.length ≤ 9223372036854775807 ∧ o.2.2.2.2.2.1.size ≤ 9223372036854775807 ∧ o.2.2.2.2.2.2.1.2.2 ≤ 9223372036854775807) (hsl : a0.2.2.length ≤ 9223372036854775807) :
    ∀ (m i j : Nat), i + m = 80 → m < j → ∀ (q : TV) (g : TM) (x : TX) (h : TR), DI L len i q g x h → L4 k a0 j (i : Int) q g x h = .ok true := by
  have s1 := hL.sz
  intro m
  induction m with
  | zero =>
    intro i j hi hj q g x h d
    obtain ⟨j, rfl⟩ : ∃ i, j = i + 1 := ⟨j - 1, by omega⟩
    show F_aqueductlaw15_DrvqDoes.l4_b _ _ _ _ _ _ _ _ _ _ _ _ _ _ _ _ _ _ _ _ _ _ _ _ _ _ _ _ _ _ _ _ _ _ _ = _
    unfold F_aqueductlaw15_DrvqDoes.l4_b
    rw [O.cond_true, O.cond_true]
    by_cases h1 : (i : Int) < a0.2.2.length
    · rw [O.cond_pos h1, O.cond_neg (by omega), fx, O.bind_ok]
    · rw [O.cond_neg h1, fx, O.bind_ok]
  | succ m ih =>
    intro i j hi hj q g x h d
    obtain ⟨j, rfl⟩ : ∃ i, j = i + 1 := ⟨j - 1, by omega⟩
    have e1 : IntKind.i64.wrap ((i : Int) + 1) = ((i + 1 : Nat) : Int) := i64_in _ (by omega)
    have r := d.rx
    have hgl := r.ri.len
    have hhs : h.1.size = len := by rw [r.mem, size_strOf, hgl]
    have hsum := r.ri.sum; have hfr := r.ri.fr; have hids := r.ri.ids
    have hlog := d.log; have hsin := d.since; have hsn := r.sin
    have hsmN : 0 ≤ sm q.2.2.2.2.2.2 := by have := len_sm r.ri.vals; omega
    have eq' : ((q.1.1, q.1.2.1, q.1.2.2.1, q.1.2.2.2), (q.2.1.1, q.2.1.2), (q.2.2.1.1, q.2.2.1.2), (q.2.2.2.1.1, q.2.2.2.1.2), q.2.2.2.2.1, q.2.2.2.2.2.1, q.2.2.2.2.2.2) = q := rfl
    have eg' : (g.1, g.2.1, g.2.2) = g := rfl
    have ex' : ((x.1.1, x.1.2.1, x.1.2.2.1, x.1.2.2.2), (x.2.1.1, x.2.1.2), (x.2.2.1.1, x.2.2.1.2), (x.2.2.2.1.1, x.2.2.2.1.2), x.2.2.2.2.1, x.2.2.2.2.2) = x := rfl
    have eh' : (h.1, h.2.1, h.2.2) = h := rfl
    -- behind a call: the same, and on
    have nxt : ∀ q' g' x' h', DI L len (i + 1) q' g' x' h' → (O.bind (F_aqueductlaw15_same.S k g' q' x' h') fun r => O.cond (!r.1) (.ok false) (L4 k a0 j ((i + 1 : Nat) : Int) r.2.2.1 r.2.1 r.2.2.2.1 r.2.2.2.2)) = .ok true := by
      intro q' g' x' h' d'
      rw [same_S d'.rx s1 k (by omega), O.bind_ok, Bool.not_true, O.cond_false]
      exact ih (i + 1) j (by omega) (by omega) q' g' x' h' d'
    show F_aqueductlaw15_DrvqDoes.l4_b _ _ _ _ _ _ _ _ _ _ _ _ _ _ _ _ _ _ _ _ _ _ _ _ _ _ _ _ _ _ _ _ _ _ _ = _
    unfold F_aqueductlaw15_DrvqDoes.l4_b
    rw [O.cond_true, O.cond_true]
    by_cases h1 : (i : Int) < a0.2.2.length
    · have hcb : 0 ≤ (i : Int) ∧ (i : Int) < (a0.2.2.length : Int) := by omega
      rw [O.cond_pos h1, O.cond_pos (by omega), O.chk_dec hcb, O.chk_dec hcb, e1]
      have hmem : ∀ d, gt d a0.2.2 (i : Int) ∈ a0.2.2 := by
        intro d
        rw [gt_el d _ i (by omega)]
        exact List.getElem_mem _
      have hom := hmem ((0 : Int), (0 : Int), (0 : Int), (0 : Int), [], ByteArray.empty, ((0 : Int), false, (0 : Int)), false)
      generalize gt ((0 : Int), (0 : Int), (0 : Int), (0 : Int), [], ByteArray.empty, ((0 : Int), false, (0 : Int)), false) a0.2.2 (i : Int) = o at hom ⊢
      obtain ⟨o1, o2, o3⟩ := hsc o hom
      clear hmem hom
      rw [eq', eg', ex', eh']
      -- bytes written to both
      have wr : ∀ (a : Int) (s : ByteArray), (O.bind (F_gmem_Memory_Write.S k a s g) fun r240 => O.bind (F_aqueductref04_Memory_May.S k a (ByteArray.size s : Int) h) fun r242 =>
          O.cond (!r242) (O.bind (F_aqueductlaw15_same.S k r240.2 q x h) fun r => O.cond (!r.1) (.ok false) (L4 k a0 j ((i + 1 : Nat) : Int) r.2.2.1 r.2.1 r.2.2.2.1 r.2.2.2.2)) (
          O.bind (F_aqueductref04_Memory_note.S k a (ByteArray.size s : Int) true h) fun r244 =>
          O.chk (decide (0 ≤ a ∧ a ≤ (ByteArray.size r244.1 : Int))) (
          O.chk (decide (((ByteArray.size (ByteArray.extract r244.1 0 a.toNat) + ByteArray.size s : Nat) : Int) ≤ 9223372036854775807)) (
          O.chk (decide (0 ≤ (IntKind.i64.wrap (a + (ByteArray.size s : Int))) ∧ (IntKind.i64.wrap (a + (ByteArray.size s : Int))) ≤ (ByteArray.size r244.1 : Int))) (
          O.chk (decide (((ByteArray.size ((ByteArray.extract r244.1 0 a.toNat) ++ s) + ByteArray.size (ByteArray.extract r244.1 (IntKind.i64.wrap (a + (ByteArray.size s : Int))).toNat (ByteArray.size r244.1)) : Nat) : Int) ≤ 9223372036854775807)) (
          O.bind (F_aqueductlaw15_same.S k r240.2 q x ((((ByteArray.extract r244.1 0 a.toNat) ++ s) ++ (ByteArray.extract r244.1 (IntKind.i64.wrap (a + (ByteArray.size s : Int))).toNat (ByteArray.size r244.1))), r244.2.1, r244.2.2)) fun r => O.cond (!r.1) (.ok false) (L4 k a0 j ((i + 1 : Nat) : Int) r.2.2.1 r.2.1 r.2.2.2.1 r.2.2.2.2))))))) = .ok true := by
        intro a s
        by_cases hm : mayM a s.size len = true
        · obtain ⟨w1, w2⟩ := wr_both k a s hlen r hm
          have hmi := mayM_iff.1 hm
          have x1 := ext_le h.1 0 a.toNat
          have x2 := ext_le h.1 (a + (s.size : Int)).toNat h.1.size
          rw [w1, O.bind_ok, rMay_S k _ _ _ (by omega), O.bind_ok, hhs, hm, Bool.not_true, O.cond_false, show F_aqueductref04_Memory_note.S k a (ByteArray.size s : Int) true h = _ from note_S' k a _ h.2.1 h.1 h.2.2 (by omega), O.bind_ok]
          dsimp only
          rw [i64_in (a + (s.size : Int)) (by omega), O.chk_dec (by omega), O.chk_dec (by omega), O.chk_dec (by omega), O.chk_dec (by rw [app_size]; omega)]
          exact nxt q _ x _ (d.more w2 (by omega) (by have := note1_len h.2.1 h.2.2 a (s.size : Int); show 2 * ((note1 h.2.1 h.2.2 a (s.size : Int)).length : Int) ≤ _; omega))
        · have hm' := Bool.eq_false_iff.2 hm
          rw [Write_S k a s g r.ri.okg, hgl, hm', O.bind_ok, rMay_S k _ _ _ (by omega), O.bind_ok, hhs, hm', Bool.not_false, O.cond_true]
          exact nxt q g x h (d.more r (by omega) (by omega))
      by_cases c0 : o.1 = 0
      · have hmn : 0 ≤ (min (List.length o.2.2.2.2.1 : Int) (70 : Int)) ∧ (min (List.length o.2.2.2.2.1 : Int) (70 : Int)) ≤ (List.length o.2.2.2.2.1 : Int) := by omega
        have hc1 : (decide (0 ≤ (min (List.length o.2.2.2.2.1 : Int) (70 : Int)) ∧ (min (List.length o.2.2.2.2.1 : Int) (70 : Int)) ≤ (List.length o.2.2.2.2.1 : Int)) && (decide (0 ≤ (List.length o.2.2.2.2.1 : Int) ∧ (List.length o.2.2.2.2.1 : Int) ≤ (List.length o.2.2.2.2.1 : Int)))) = true := by simp; omega
        have hsl' := sub_zero o.2.2.2.2.1 (min (List.length o.2.2.2.2.1 : Int) (70 : Int)) (by omega)
        obtain ⟨a, b, ha, hb, hab, hR, hS, hG⟩ := Post_both k (by omega) (sub o.2.2.2.2.1 (sumI []) (min (List.length o.2.2.2.2.1 : Int) (70 : Int))) (by omega) hlen hL r (by omega) (by omega)
        rw [O.cond_pos c0, hc1, O.chk_true, O.chk_dec hmn, ha, O.bind_ok, O.chk_true, O.chk_dec hmn, hb, O.bind_ok, O.cond_neg (by rw [hab]; simp), O.cond_neg (by rw [hab]; simp)]
        exact nxt a.2.1 a.2.2 b.2.1 b.2.2 (d.more hR (by omega) (by omega))
      by_cases c1 : o.1 = 1
      · obtain ⟨a, b, ha, hb, hab, hR, hS, hG, hsm⟩ := Reap_both k (by omega) hlen hL r
        rw [O.cond_neg c0, O.cond_pos c1, ha, O.bind_ok, hb, O.bind_ok, O.cond_neg (by rw [hab]; simp), O.cond_neg (by rw [hab]; simp), O.cond_neg (by rw [hab]; simp), O.cond_neg (by rw [hab]; simp)]
        exact nxt a.2.1 a.2.2 b.2.1 b.2.2 (d.more hR (by rw [hS]; omega) (by rw [hG]; omega))
      by_cases c2 : o.1 = 2
      · obtain ⟨s, hs⟩ := used_ok k (by omega) (o.1, o.2.1, o.2.2.1, o.2.2.2.1, o.2.2.2.2.1, o.2.2.2.2.2.1, o.2.2.2.2.2.2.1, o.2.2.2.2.2.2.2) x.2.2.1.2
        rw [O.cond_neg c0, O.cond_neg c1, O.cond_pos c2, hs, O.bind_ok]
        have hw := wr (IntKind.i64.wrap ((IntKind.i64.wrap (a0.2.1.1 + (IntKind.i64.wrap ((16 : Int) * x.2.2.1.1)))) + (8 : Int))) s
        simp only [O.bind_ok]
        exact hw
      by_cases c3 : o.1 = 3
      · rw [O.cond_neg c0, O.cond_neg c1, O.cond_neg c2, O.cond_pos c3]
        have hw := wr (bAnd .i64 o.2.1 (4095 : Int)) (ByteArray.extract (o.2.2.2.2.2.1) 0 (min (ByteArray.size (o.2.2.2.2.2.1) : Int) (200 : Int)).toNat)
        have hcc : 0 ≤ (min (ByteArray.size (o.2.2.2.2.2.1) : Int) (200 : Int)) ∧ (min (ByteArray.size (o.2.2.2.2.2.1) : Int) (200 : Int)) ≤ (ByteArray.size (o.2.2.2.2.2.1) : Int) := by omega
        rw [O.chk_dec hcc]
        simp only [O.chk_dec hcc]
        exact hw
      by_cases c4 : o.1 = 4
      · have s4 := hL.e
        have he := event_in (Go.Aq.strOf (sub g.1 L.2.2.2 4))
        have e158 : q.1.2.2.2 = L.2.2.2 := by rw [r.ri.lay]
        have e156 : q.1.2.1 = L.2.1 := by rw [r.ri.lay]
        have hsi := r.since
        have hrd := rdM_ok g L.2.2.2 4 r.ri.okg
        have hneed := spotNeed_S k (by omega) (evX g L) q.2.2.2.1 q.2.1 L.2.1 s1 r.tin r.ri.nx he.1
        have hT := rTell_S k (by omega) hlen hL r
        have hRX : RX L len (q.1, q.2.1, q.2.2.1, q.2.1, (0 : Int), q.2.2.2.2.2.1, q.2.2.2.2.2.2) (rdM g L.2.2.2 4) (x.1, x.2.1, x.2.2.1, x.2.1, (0 : Int), x.2.2.2.2.2) h :=
          ⟨⟨r.ri.lay, r.ri.nx, r.ri.bk, r.ri.fr, r.ri.sum, r.ri.vals, r.ri.keys, r.ri.kin, hrd.1, by rw [hrd.2]; exact hgl⟩, r.le64, r.klt, r.xl, r.xn, r.xb, r.xn, r.ri.nx, by show (0 : Int) = min 0 (2 * L.2.1); omega, by show (0 : Int) ≤ 0; omega, r.hs, by rw [hrd.2]; exact r.mem⟩
        have fin := nxt _ _ _ _ (d.more hRX (by show (0 : Int) ≤ _; omega) (by show 2 * (h.2.2.length : Int) ≤ 2 * (h.2.2.length : Int) + 66 + (sm q.2.2.2.2.2.2 - sm q.2.2.2.2.2.2); omega))
        have hq1 : (q.1.1, L.2.1, q.1.2.2.1, L.2.2.2) = q.1 := by rw [← e156, ← e158]
        rw [O.cond_neg c0, O.cond_neg c1, O.cond_neg c2, O.cond_neg c3, O.cond_pos c4, e158, Read_S k _ 4 g r.ri.okg, if_neg (by omega), if_pos (mayM_iff.2 (by rw [hgl]; omega)), O.bind_ok]
        dsimp only
        rw [spotParse_S k (by omega) _ (by rw [size_strOf, sub_len _ _ _ (by rw [hgl]; omega)]; rfl), O.bind_ok]
        dsimp only
        rw [e156, show F_spot_Need.S k (eventP (Go.Aq.strOf (sub g.1 L.2.2.2 4))) (q.2.2.2.1.1, q.2.2.2.1.2) (q.2.1.1, q.2.1.2) L.2.1 = _ from hneed, O.bind_ok]
        rw [show eventP (Go.Aq.strOf (sub g.1 L.2.2.2 4)) = evX g L from rfl] at he ⊢
        have hx1 : x.2.2.2.1 = q.2.2.2.1 := r.xt
        have hx2 : x.2.1 = q.2.1 := r.xn
        by_cases cs : q.2.2.2.2.1 > L.2.1
        · rw [O.cond_pos cs]
          have ht : tellX g L x = decide ((evX g L).2.2 = 0 ∨ (evX g L).2.2 = 2) := by unfold tellX; rw [if_neg (by omega)]
          by_cases cf : (evX g L).2.2 ≠ 1
          · rw [O.cond_pos cf, hT, O.bind_ok]
            have : decide ((evX g L).2.2 ≤ 2) = tellX g L x := by
              rw [ht]; apply decide_eq_decide.2; omega
            rw [O.cond_neg (by rw [this]; simp)]
            rw [hq1]
            exact fin
          · rw [O.cond_neg cf, hT, O.bind_ok]
            have : false = tellX g L x := by
              rw [ht]; symm; apply decide_eq_false; omega
            rw [O.cond_neg (by rw [← this]; simp)]
            rw [hq1]
            exact fin
        · rw [O.cond_neg cs, hT, O.bind_ok]
          have : needP (evX g L) q.2.2.2.1 q.2.1 L.2.1 = tellX g L x := by
            unfold tellX; rw [if_pos (by omega), hx1, hx2]
          rw [O.cond_neg (by rw [this]; simp)]
          rw [hq1]
          exact fin
      by_cases c5 : o.1 = 5
      · have hb1 := spotBuild_S k (by omega) o.2.2.2.2.2.2.1 o3
        have hb2 := rEvBuild_S k o.2.2.2.2.2.2.1
        have s3 := hL.d
        rw [O.cond_neg c0, O.cond_neg c1, O.cond_neg c2, O.cond_neg c3, O.cond_neg c4, O.cond_pos c5, hb1, O.bind_ok]
        by_cases ce : 0 ≤ o.2.2.2.2.2.2.1.1 ∧ o.2.2.2.2.2.2.1.1 ≤ 32767 ∧ 0 ≤ o.2.2.2.2.2.2.1.2.2 ∧ o.2.2.2.2.2.2.1.2.2 ≤ 65535
        · have ea : askP o.2.2.2.2.2.2.1 = (evB o.2.2.2.2.2.2.1, 0) := by unfold askP; rw [if_pos ce]
          have hsz := evB_size o.2.2.2.2.2.2.1
          have e157 : q.1.2.2.1 = L.2.2.1 := by rw [r.ri.lay]
          have e169 : x.1.2.2.1 = L.2.2.1 := by rw [r.xl]
          have hm : mayM L.2.2.1 (evB o.2.2.2.2.2.2.1).size len = true := mayM_iff.2 (by rw [hsz]; omega)
          obtain ⟨w1, w2⟩ := wr_both k L.2.2.1 (evB o.2.2.2.2.2.2.1) hlen r hm
          have x1 := ext_le h.1 0 L.2.2.1.toNat
          have x2 := ext_le h.1 (L.2.2.1 + ((evB o.2.2.2.2.2.2.1).size : Int)).toNat h.1.size
          rw [ea] at hb2 ⊢
          rw [O.cond_neg (by simp), e157, w1, O.bind_ok, hb2, O.bind_ok, O.cond_neg (by simp), e169]
          dsimp only
          rw [rMay_S k _ _ _ (by omega), O.bind_ok, hhs, hm, Bool.not_true, O.cond_false, show F_aqueductref04_Memory_note.S k L.2.2.1 (ByteArray.size (evB o.2.2.2.2.2.2.1) : Int) true h = _ from note_S' k _ _ h.2.1 h.1 h.2.2 (by omega), O.bind_ok]
          dsimp only
          rw [i64_in (L.2.2.1 + _) (by omega), O.chk_dec (by omega), O.chk_dec (by omega), O.chk_dec (by omega), O.chk_dec (by rw [app_size]; omega), O.cond_neg (by simp)]
          exact nxt q _ x _ (d.more w2 (by omega) (by have := note1_len h.2.1 h.2.2 L.2.2.1 ((evB o.2.2.2.2.2.2.1).size : Int); dsimp only; omega))
        · have ea : askP o.2.2.2.2.2.2.1 = (⟨#[]⟩, 1) := by unfold askP; rw [if_neg ce]
          rw [ea] at hb2 ⊢
          rw [O.cond_pos (by simp), hb2, O.bind_ok, O.cond_pos (by simp), O.cond_neg (by simp)]
          exact nxt q g x h (d.more r (by omega) (by omega))
      by_cases c6 : o.1 = 6
      · obtain ⟨a, ha, hac⟩ := Post_any k (by omega) s1.2 [((0 : Int), (1 : Int), false)] q g r.ri
        have hra : RI L len a.2.1 a.2.2 := by
          rcases hac with ⟨_, _, h3⟩ | ⟨_, h3, _⟩
          · rw [h3]; exact r.ri
          · exact h3
        obtain ⟨b, hb, _, hrb, _⟩ := Reap_any k (by omega) (by omega) hL a.2.1 a.2.2 hra
        have hst : F_gmem_Memory_Store.S k (0 : Int) (8 : Int) (1818584692 : Int) b.2.2 = _ := Store_S k (by omega) 0 8 (by omega) 1818584692 (by omega) b.2.2 hrb.okg
        rw [O.cond_neg c0, O.cond_neg c1, O.cond_neg c2, O.cond_neg c3, O.cond_neg c4, O.cond_neg c5, O.cond_pos c6, Cln_S k g.1 (by omega), O.bind_ok, Acc_any k g.2.2 (by have := r.ri.okg.2; omega), O.bind_ok, O.cond_false, O.cond_false, ha, O.bind_ok, hb, O.bind_ok, hst, O.bind_ok, eg']
        exact nxt q g x h (d.more r (by omega) (by omega))
      · rw [O.cond_neg c0, O.cond_neg c1, O.cond_neg c2, O.cond_neg c3, O.cond_neg c4, O.cond_neg c5, O.cond_neg c6]
        exact nxt q g x h (d.more r (by omega) (by omega))
    · rw [O.cond_neg h1, fx, O.bind_ok]
theorem does_none (k : Nat) (fx : F_aqueductlaw15_fixed.S k = .ok true) (a0) (r) (n : Nat) (hn : 0 < n) : F_aqueductlaw15_DrvqDoes.l1 k a0 r n = .ok true := by
  obtain ⟨n, rfl⟩ : ∃ m, n = m + 1 := ⟨n - 1, by omega⟩
  show F_aqueductlaw15_DrvqDoes.l1_b _ _ _ _ = _
  unfold F_aqueductlaw15_DrvqDoes.l1_b
  rw [O.cond_false, fx, O.bind_ok]
theorem replicate_mapF (n : Nat) : List.replicate n (0 : Int) = mapF (fun _ => 0) n := by
  unfold mapF
  rw [List.map_const', List.length_range]
theorem Pure.DrvqDoes : ∀ (a0 : Int × (Int × Int × Int × Int) × (List (Int × Int × Int × Int × (List (Int × Int × Bool)) × ByteArray × (Int × Bool × Int) × Bool))), okF (.cons (.leaf (.int .i64)) (.cons (.agg (.cons (.leaf (.int .i64)) (.cons (.leaf (.int .i64)) (.cons (.leaf (.int .i64)) (.one (.leaf (.int .i64)) []))))) (.one (.tab 36 (.cons (.leaf (.int .i64)) (.cons (.leaf (.int .i64)) (.cons (.leaf (.int .i64)) (.cons (.leaf (.int .i64)) (.cons (.row false 56 [.int .i64, .int .i64, .bool]) (.cons (.leaf .str) (.cons (.agg (.cons (.leaf (.int .i64)) (.cons (.leaf .bool) (.one (.leaf (.int .i64)) [])))) (.one (.leaf .bool) []))))))))) []))) a0 → ∃ k, F_aqueductlaw15_DrvqDoes.S k a0 = .ok true := by
  intro a0 h
  obtain ⟨h1, h2⟩ := h.2.2
  have h1 : a0.2.2.length ≤ maxLen := h1
  rw [max_len] at h1
  have hsc : ∀ o ∈ a0.2.2, o.2.2.2.2.1.length ≤ 9223372036854775807 ∧ o.2.2.2.2.2.1.size ≤ 9223372036854775807 ∧ o.2.2.2.2.2.2.1.2.2 ≤ 9223372036854775807 := by
    intro o ho
    have h3 := h2 o ho
    have h4 : o.2.2.2.2.1.length ≤ maxLen := h3.2.2.2.2.1.1
    have h5 : o.2.2.2.2.2.1.size ≤ maxLen := h3.2.2.2.2.2.1
    rw [max_len] at h4 h5
    exact ⟨h4, h5, wf_i64 h3.2.2.2.2.2.2.1.2.2⟩
  obtain ⟨k, hk, fx⟩ : ∃ k : Nat, 71000 ≤ k ∧ F_aqueductlaw15_fixed.S k = .ok true := ⟨71000 + 60, by omega, fixed15 71000⟩
  refine ⟨k, ?_⟩
  obtain ⟨g, g1, g2, g3, hz⟩ := laid_S k a0
  unfold F_aqueductlaw15_DrvqDoes.S F_aqueductlaw15_DrvqDoes.top
  rcases hz with hz | ⟨hL, Y, hz, hY1, hY2⟩
  · rw [hz, O.sum_inr, O.sum_inl, Bool.not_true, O.cond_false]
    exact does_none k fx a0 _ k (by omega)
  · have s1 := hL.sz; have s2 := hL.r
    rw [hz, O.sum_inr, O.sum_inr, O.sum_inr, O.sum_inr, Bool.not_true, O.cond_false]
    have h0 : RI a0.2.1 g.1.length (q0L a0.2.1) g := ⟨rfl, ⟨by show (0 : Int) ≤ 0; omega, by show (0 : Int) < a0.2.1.2.1; omega⟩, ⟨by show (0 : Int) ≤ 0; omega, by show (0 : Int) < a0.2.1.2.1; omega⟩, by show 0 ≤ a0.2.1.2.1; omega, by show a0.2.1.2.1 + sm [] = _; simp [sm], fun e he => (by cases he), by show (List.map _ []).Nodup; simp, fun e he => (by cases he), g1, rfl⟩
    have hx : RX a0.2.1 g.1.length (q0L a0.2.1) g (x0L a0.2.1) Y :=
      ⟨h0, fun e he => (by cases he), fun e he => (by cases he), rfl, rfl, rfl, rfl, ⟨by show (0 : Int) ≤ 0; omega, by show (0 : Int) < a0.2.1.2.1; omega⟩, by show (0 : Int) = min 0 (2 * a0.2.1.2.1); omega, by show (0 : Int) ≤ 0; omega, by show List.replicate a0.2.1.2.1.toNat (0 : Int) = mapF (fun _ => 0) _; exact replicate_mapF _, hY1⟩
    exact does_loop k hk fx a0 a0.2.1 rfl g.1.length (by omega) (by omega) hL (by omega) hsc (by omega) 80 0 k (by omega) (by omega) (q0L a0.2.1) g (x0L a0.2.1) Y ⟨hx, by show (0 : Int) ≤ _; omega, by show 2 * (Y.2.2.length : Int) ≤ 20 + 66 * ((0 : Nat) : Int) + sm []; simp [sm]; omega⟩
end Go.Proofs.YtpfddjdkafjjfaaGreat
