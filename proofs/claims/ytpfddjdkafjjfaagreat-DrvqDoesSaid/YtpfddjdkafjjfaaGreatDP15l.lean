/- Layer 15, plain: the document's Post. -/
import Derived.Test.YtpfddjdkafjjfaaGreatDP15k
namespace Go.Proofs.YtpfddjdkafjjfaaGreat
open Go.Aq Go.IntWalk
set_option linter.unusedVariables false
theorem rPost_step (k : Nat) (p : List TP) (x : TX) (h : TR) (hh : h.1.size ≤ 1048576) (hp : p.length ≤ 1000) (i j : Nat) (v8 : Bool) (hi : i < p.length) :
    F_aqueductref15_Queue_Post.l1 k p x h (j + 1) v8 (i : Int) = F_aqueductref15_Queue_Post.l1 k p x h j (v8 && pOk p h.1.size i) ((i + 1 : Nat) : Int) := by
  have e1 : IntKind.i64.wrap ((i : Int) + 1) = ((i + 1 : Nat) : Int) := i64_in _ (by omega)
  show F_aqueductref15_Queue_Post.l1_b _ _ _ _ _ _ _ _ = _
  unfold F_aqueductref15_Queue_Post.l1_b
  rw [O.cond_pos (by omega), e1]
  cases v8 with
  | false => rw [O.cond_false, Bool.false_and]
  | true =>
    rw [O.cond_true, Bool.true_and, O.chk_dec (by omega), O.chk_dec (by omega), show gt ((0 : Int), (0 : Int), false) p (i : Int) = paP p i from rfl]
    unfold pOk
    by_cases b1 : (paP p i).2.1 > 0
    · rw [O.cond_pos b1, O.chk_dec (by omega), O.chk_dec (by omega), O.chk_dec (by omega), O.chk_dec (by omega), rMay_S k _ _ _ hh, O.bind_ok, decide_eq_true (show 0 < (paP p i).2.1 by omega)]
      cases b2 : mayM (paP p i).1 (paP p i).2.1 h.1.size with
      | false => rw [O.cond_false]; simp
      | true =>
        rw [O.cond_true]
        by_cases h0 : i = 0
        · subst h0
          rw [O.cond_pos (by rfl)]; simp
        · rw [O.cond_neg (by omega), O.chk_dec (by omega), O.chk_dec (by omega)]
          cases b4 : (paP p i).2.2 with
          | true => rw [O.cond_true]; simp
          | false =>
            have e3 : IntKind.i64.wrap ((i : Int) - 1) = ((i - 1 : Nat) : Int) := by rw [i64_in _ (by omega)]; omega
            rw [O.cond_false, e3, O.chk_dec (by omega), O.chk_dec (by omega), show gt ((0 : Int), (0 : Int), false) p ((i - 1 : Nat) : Int) = paP p (i - 1) from rfl]
            simp [h0]
    · rw [O.cond_neg b1, decide_eq_false (by omega)]; simp
theorem rPost_l1 (k : Nat) (p : List TP) (x : TX) (h : TR) (hh : h.1.size ≤ 1048576) (hp : p.length ≤ 1000) : ∀ (m i j : Nat) (v8 : Bool), i + m = p.length →
    F_aqueductref15_Queue_Post.l1 k p x h (j + m) v8 (i : Int) = F_aqueductref15_Queue_Post.l1 k p x h j (v8 && alF p h.1.size m i) (p.length : Int)
  | 0, i, j, v8, hi => by
    obtain rfl : i = p.length := by omega
    rw [show alF p h.1.size 0 p.length = true from rfl, Bool.and_true]; rfl
  | m + 1, i, j, v8, hi => by
    rw [← Nat.add_assoc, rPost_step k p x h hh hp i (j + m) v8 (by omega), rPost_l1 k p x h hh hp m (i + 1) j _ (by omega), Bool.and_assoc]; rfl
theorem rPost_l2 (k : Nat) (p : List TP) (r13 : Int × TX × TR) (R1) (f : Nat → Int) (n : Nat) (hx : r13.2.1.2.2.2.2.2 = mapF f n) (c : Nat) (hc : c < n) (hn : n ≤ 32768) (h1 : ∀ i, i < c → 0 < f i) (h2 : ¬ 0 < f c) :
    ∀ (m i j : Nat), i + m = c → F_aqueductref15_Queue_Post.l2 k p r13 R1 (j + 1 + m) (i : Int) = F_aqueductref15_Queue_Post.l3 k p r13 (c : Int) R1 (F_aqueductref15_Queue_Post.l2 k p r13 R1 j) k (0 : Int) r13.2.2.2.2 r13.2.2.1 r13.2.2.2.1
  | 0, i, j, hi => by
    obtain rfl : i = c := by omega
    show F_aqueductref15_Queue_Post.l2_b _ _ _ _ _ _ _ = _
    unfold F_aqueductref15_Queue_Post.l2_b
    rw [hx, mapF_len, O.chk_dec (by omega), O.chk_dec (by omega), mapF_gt f n i hc, O.cond_neg h2]
  | m + 1, i, j, hi => by
    have ih := rPost_l2 k p r13 R1 f n hx c hc hn h1 h2 m (i + 1) j (by omega)
    show F_aqueductref15_Queue_Post.l2_b _ _ _ _ _ _ _ = _
    unfold F_aqueductref15_Queue_Post.l2_b
    rw [hx, mapF_len, O.chk_dec (by omega), O.chk_dec (by omega), mapF_gt f n i (by omega), O.cond_pos (h1 i (by omega)), i64_in ((i : Int) + 1) (by omega)]
    exact ih
/-- Parts as they may be posted. -/
structure PIn (p : List TP) : Prop where
  lo : 1 ≤ p.length
  hi : p.length ≤ 64
  each : ∀ i, i < p.length → (0 ≤ (paP p i).1 ∧ (paP p i).1 ≤ 1048576) ∧ 1 ≤ (paP p i).2.1 ∧ (paP p i).2.1 ≤ 1048576
theorem PIn.of {p : List TP} {len : Nat} (hl : len ≤ 1048576) (h1 : 1 ≤ p.length ∧ p.length ≤ 64) (h : alF p len p.length 0 = true) : PIn p := by
  refine ⟨h1.1, h1.2, fun i hi => ?_⟩
  have := alF_at p len p.length 0 i h (by omega) (by omega)
  unfold pOk at this
  simp only [Bool.and_eq_true, decide_eq_true_eq] at this
  have h2 := mayM_iff.1 this.1.2
  have h3 := this.1.1
  omega
theorem rPost_l3 (k : Nat) (hk : 1000 ≤ k) (p : List TP) (hp : PIn p) (L : LAY) (s0 : Int × Bool) (id : Int) (x : TX) (h0 : TR) (fr : Int) (b : List Int) (hb : b.length ≤ 2048) (hL : LayIn L b.length) (hx : x.1 = L) (hxn : x.2.1 = s0) (hs0 : 0 ≤ s0.1 ∧ s0.1 < L.2.1) (hn : (p.length : Int) ≤ L.2.1)
    (hid : 0 ≤ id ∧ id < (x.2.2.2.2.2.length : Int)) (hxl : x.2.2.2.2.2.length ≤ 32768) (ag : Int) (R1 R2) :
    ∀ (m i j : Nat) (lg : List (Int × Int × Int × Bool)), i + m = p.length → m < j → lg.length + m ≤ 3990 →
      ∃ lg', F_aqueductref15_Queue_Post.l3 k p (fr, x, h0) id R1 R2 j (i : Int) lg (Go.Aq.strOf (bD p L s0 id b i)) ag = .ok ((id, (0 : Int)), ((L, nextSp s0 (p.length : Int) L.2.1, x.2.2.1, x.2.2.2.1, IntKind.i64.wrap (x.2.2.2.2.1 + (p.length : Int)), su ([] ++ x.2.2.2.2.2) id (p.length : Int)), (Go.Aq.strOf (bD p L s0 id b p.length), ag, lg'))) ∧ lg'.length ≤ lg.length + m := by
  have hsz := hL.sz
  have hlo := hp.lo; have hhi := hp.hi
  intro m
  induction m with
  | zero =>
    intro i j lg hi hj hlg
    obtain ⟨j, rfl⟩ : ∃ i, j = i + 1 := ⟨j - 1, by omega⟩
    obtain rfl : i = p.length := by omega
    refine ⟨lg, ?_, Nat.le_refl _⟩
    show F_aqueductref15_Queue_Post.l3_b _ _ _ _ _ _ _ _ _ _ _ _ = _
    unfold F_aqueductref15_Queue_Post.l3_b
    dsimp only
    rw [O.cond_neg (by omega), O.twice_eq, hx, hxn, rSpNext_S k s0 p.length L.2.1 hs0 hsz.2 hn (by omega), O.bind_ok, O.chk_dec (by omega), O.chk_dec (by rw [List.nil_append]; omega), O.chk_dec (by rw [List.nil_append]; omega)]
  | succ m ih =>
    intro i j lg hi hj hlg
    obtain ⟨j, rfl⟩ : ∃ i, j = i + 1 := ⟨j - 1, by omega⟩
    have e1 : IntKind.i64.wrap ((i : Int) + 1) = ((i + 1 : Nat) : Int) := i64_in _ (by omega)
    have hin := plP_in L s0 hs0 i (by omega) b.length hL
    have hlen := bD_len p L s0 id b hs0 hL i (by omega)
    have hsz' : (Go.Aq.strOf (bD p L s0 id b i)).size = b.length := by rw [size_strOf, hlen]
    have hds : (dsP p L s0 id i).size = 16 := dscB_size _
    have hea := hp.each i (by omega)
    obtain ⟨lg', hlg', hl'⟩ := ih (i + 1) j (note1 ag lg (plP L s0 i) ((dsP p L s0 id i).size : Int)) (by omega) (by omega) (by have := note1_len ag lg (plP L s0 i) ((dsP p L s0 id i).size : Int); omega)
    refine ⟨lg', ?_, by have := note1_len ag lg (plP L s0 i) ((dsP p L s0 id i).size : Int); omega⟩
    have hpl : IntKind.i64.wrap (L.1 + IntKind.i64.wrap ((16 : Int) * (nextSp s0 (i : Int) L.2.1).1)) = plP L s0 i := by
      have h1 := nextSp_in s0 (i : Int) L.2.1 hs0 (by omega)
      have h2 := hL.r
      rw [i64_in ((16 : Int) * _) (by omega), i64_in _ (by omega)]; rfl
    have hput := strOf_put (bD p L s0 id b i) (plP L s0 i) (dsP p L s0 id i) (by rw [hds, hlen]; omega)
    have x1 := ext_le (Go.Aq.strOf (bD p L s0 id b i)) 0 (plP L s0 i).toNat
    have x2 := ext_le (Go.Aq.strOf (bD p L s0 id b i)) (plP L s0 i + ((dsP p L s0 id i).size : Int)).toNat (Go.Aq.strOf (bD p L s0 id b i)).size
    have j14 : ∀ v : Int, v = (bif (paP p i).2.2 then IntKind.i64.wrap ((bif decide (i + 1 < p.length) then 1 else 0) + 2) else (bif decide (i + 1 < p.length) then 1 else 0)) →
        F_aqueductref15_Queue_Post.j14 k p (fr, x, h0) id (i : Int) lg (Go.Aq.strOf (bD p L s0 id b i)) ag R1 R2 (F_aqueductref15_Queue_Post.l3 k p (fr, x, h0) id R1 R2 j) v = .ok ((id, (0 : Int)), ((L, nextSp s0 (p.length : Int) L.2.1, x.2.2.1, x.2.2.2.1, IntKind.i64.wrap (x.2.2.2.2.1 + (p.length : Int)), su ([] ++ x.2.2.2.2.2) id (p.length : Int)), (Go.Aq.strOf (bD p L s0 id b p.length), ag, lg'))) := by
      intro v hv
      subst hv
      show F_aqueductref15_Queue_Post.j14_b _ _ _ _ _ _ _ _ _ _ _ _ = _
      unfold F_aqueductref15_Queue_Post.j14_b
      dsimp only
      have hbd : F_aqueductref12_Build.S k ((paP p i).1, (paP p i).2.1, id, fgP p L s0 i) = .ok (dsP p L s0 id i, 0) := by
        have hf := flB_in (decide (i + 1 < p.length)) (paP p i).2.2 (nextSp s0 (i : Int) L.2.1).2
        rw [rBuild_S k (by omega) _ (by show 0 ≤ (paP p i).1 ∧ (paP p i).1 < _; omega) (by show 0 ≤ (paP p i).2.1 ∧ (paP p i).2.1 < _; omega), if_pos]
        · rfl
        · show 0 ≤ id ∧ id ≤ 65535 ∧ 0 ≤ fgP p L s0 i ∧ fgP p L s0 i ≤ 65535
          unfold fgP
          omega
      rw [O.twice_eq, hx, hxn, rSpNext_S k s0 i L.2.1 hs0 hsz.2 (by omega) (by omega), O.bind_ok, O.chk_dec (by omega), O.chk_dec (by omega), O.chk_dec (by omega), O.chk_dec (by omega)]
      dsimp only
      rw [rMark_B, O.bind_ok, show gt ((0 : Int), (0 : Int), false) p (i : Int) = paP p i from rfl, u64_in (paP p i).1 (by omega), u32_in (paP p i).2.1 (by omega), show flB (decide (i + 1 < p.length)) (paP p i).2.2 (nextSp s0 (i : Int) L.2.1).2 = fgP p L s0 i from rfl, hbd, O.bind_ok, hpl, rMay_S k _ _ _ (by show (Go.Aq.strOf (bD p L s0 id b i)).size ≤ _; omega), O.bind_ok]
      dsimp only
      rw [hsz', mayM_iff.2 (by rw [hds]; omega), Bool.not_true, O.cond_false, note_S' k _ _ _ _ _ (by omega), O.bind_ok]
      dsimp only
      rw [i64_in (plP L s0 i + _) (by rw [hds]; omega), O.chk_dec (by omega), O.chk_dec (by omega), O.chk_dec (by omega), O.chk_dec (by rw [app_size]; omega), hput, e1]
      exact hlg'
    have j13 : ∀ v : Int, v = (bif decide (i + 1 < p.length) then 1 else 0) → F_aqueductref15_Queue_Post.j13 k p (fr, x, h0) id (i : Int) lg (Go.Aq.strOf (bD p L s0 id b i)) ag R1 R2 (F_aqueductref15_Queue_Post.l3 k p (fr, x, h0) id R1 R2 j) v = .ok ((id, (0 : Int)), ((L, nextSp s0 (p.length : Int) L.2.1, x.2.2.1, x.2.2.2.1, IntKind.i64.wrap (x.2.2.2.2.1 + (p.length : Int)), su ([] ++ x.2.2.2.2.2) id (p.length : Int)), (Go.Aq.strOf (bD p L s0 id b p.length), ag, lg'))) := by
      intro v hv
      show F_aqueductref15_Queue_Post.j13_b _ _ _ _ _ _ _ _ _ _ _ _ _ = _
      unfold F_aqueductref15_Queue_Post.j13_b
      rw [O.chk_dec (by omega), O.chk_dec (by omega), show gt ((0 : Int), (0 : Int), false) p (i : Int) = paP p i from rfl]
      cases hw : (paP p i).2.2 with
      | true => rw [O.cond_true]; exact j14 _ (by rw [hw, hv]; rfl)
      | false => rw [O.cond_false]; exact j14 _ (by rw [hw, hv]; rfl)
    show F_aqueductref15_Queue_Post.l3_b _ _ _ _ _ _ _ _ _ _ _ _ = _
    unfold F_aqueductref15_Queue_Post.l3_b
    rw [O.cond_pos (by omega), i64_in ((p.length : Int) - 1) (by omega)]
    by_cases c : i + 1 < p.length
    · rw [O.cond_pos (by omega)]
      exact j13 1 (by rw [decide_eq_true c]; rfl)
    · rw [O.cond_neg (by omega)]
      exact j13 0 (by rw [decide_eq_false c]; rfl)
/-- The document's Post. -/
theorem rPost_S (k : Nat) (hk : 40000 ≤ k) (p : List TP) (hpl : p.length ≤ 70) {L : LAY} {len : Nat} (hlen : len ≤ 2048) (hL : LayIn L len) {q : TV} {g : TM} {x : TX} {h : TR} (r : RX L len q g x h) (hlog : h.2.2.length ≤ 3900) :
    (mayE p len q.2.2.2.2.2.1 ≠ 0 → F_aqueductref15_Queue_Post.S k p x h = .ok ((0, mayE p len q.2.2.2.2.2.1), (x, h))) ∧
    (mayE p len q.2.2.2.2.2.1 = 0 → ∃ lg', F_aqueductref15_Queue_Post.S k p x h = .ok ((((leastN q.2.2.2.2.2.2 : Nat) : Int), 0), ((L, nextSp q.2.1 (p.length : Int) L.2.1, x.2.2.1, x.2.2.2.1, IntKind.i64.wrap (x.2.2.2.2.1 + (p.length : Int)), su ([] ++ x.2.2.2.2.2) ((leastN q.2.2.2.2.2.2 : Nat) : Int) (p.length : Int)), (Go.Aq.strOf (bD p L q.2.1 ((leastN q.2.2.2.2.2.2 : Nat) : Int) g.1 p.length), h.2.1, lg'))) ∧ lg'.length ≤ h.2.2.length + p.length) := by
  have hsz : h.1.size = len := by rw [r.mem, size_strOf, r.ri.len]
  have s1 := hL.sz
  have hfree := r.free s1 k hk
  have hids := r.ri.ids; have hfr := r.ri.fr
  have ht : ∃ j R1, F_aqueductref15_Queue_Post.S k p x h = O.cond (!(decide (1 ≤ p.length ∧ p.length ≤ 64) && alF p len p.length 0)) (.ok (((0 : Int), (150 : Int)), (x, h))) (O.bind (F_aqueductref15_Queue_Free.S k x h) fun r13 => O.cond (decide ((List.length p : Int) > r13.1)) (.ok (((0 : Int), (151 : Int)), (r13.2.1, r13.2.2))) (F_aqueductref15_Queue_Post.l2 k p r13 R1 (j + 1 + leastN q.2.2.2.2.2.2) (0 : Int))) := by
    obtain ⟨k2, hk2⟩ : ∃ k2, k = k2 + 1 + p.length := ⟨k - p.length - 1, by omega⟩
    have hids' := r.ri.ids
    have hle := held_le q.2.2.2.2.2.2 (leastN q.2.2.2.2.2.2) (least_spec q.2.2.2.2.2.2).1
    have hfr := r.ri.fr
    obtain ⟨k3, hk3⟩ : ∃ k3, k = k3 + 1 + leastN q.2.2.2.2.2.2 := ⟨k - leastN q.2.2.2.2.2.2 - 1, by omega⟩
    refine ⟨k3, F_aqueductref15_Queue_Post.l1 k p x h k2, ?_⟩
    have hv : ∀ v : Bool, v = decide (1 ≤ p.length ∧ p.length ≤ 64) → F_aqueductref15_Queue_Post.l1 k p x h (k2 + 1 + p.length) v 0 = O.cond (!(decide (1 ≤ p.length ∧ p.length ≤ 64) && alF p len p.length 0)) (.ok (((0 : Int), (150 : Int)), (x, h))) (O.bind (F_aqueductref15_Queue_Free.S k x h) fun r13 => O.cond (decide ((List.length p : Int) > r13.1)) (.ok (((0 : Int), (151 : Int)), (r13.2.1, r13.2.2))) (F_aqueductref15_Queue_Post.l2 k p r13 (F_aqueductref15_Queue_Post.l1 k p x h k2) (k3 + 1 + leastN q.2.2.2.2.2.2) (0 : Int))) := by
      intro v hv
      have := rPost_l1 k p x h (by omega) (by omega) p.length 0 (k2 + 1) v (by omega)
      refine this.trans ?_
      show F_aqueductref15_Queue_Post.l1_b _ _ _ _ _ _ _ _ = _
      unfold F_aqueductref15_Queue_Post.l1_b
      rw [O.cond_neg (by omega), hv, hsz, ← hk3]
    unfold F_aqueductref15_Queue_Post.S F_aqueductref15_Queue_Post.top
    by_cases c : (p.length : Int) ≥ 1
    · rw [O.cond_pos c]
      show F_aqueductref15_Queue_Post.l1 k p x h k _ 0 = _
      rw [← hv (decide ((p.length : Int) ≤ 64)) (decide_eq_decide.2 (by omega)), ← hk2]
    · rw [O.cond_neg c]
      show F_aqueductref15_Queue_Post.l1 k p x h k _ 0 = _
      rw [← hv false (decide_eq_false (by omega)).symm, ← hk2]
  obtain ⟨j, R1, ht⟩ := ht
  rw [ht]
  unfold mayE
  by_cases c1 : 1 ≤ p.length ∧ p.length ≤ 64 ∧ alF p len p.length 0 = true
  · rw [if_pos c1, decide_eq_true (show 1 ≤ p.length ∧ p.length ≤ 64 from ⟨c1.1, c1.2.1⟩), c1.2.2, Bool.and_self, Bool.not_true, O.cond_false, hfree, O.bind_ok]
    have hp := PIn.of (len := len) (by omega) ⟨c1.1, c1.2.1⟩ c1.2.2
    by_cases c2 : (p.length : Int) > q.2.2.2.2.2.1
    · rw [if_pos c2]
      exact ⟨fun _ => O.cond_pos c2 _ _, fun h0 => absurd h0 (by decide)⟩
    · rw [if_neg c2]
      refine ⟨fun h0 => absurd rfl h0, fun _ => ?_⟩
      have hls := least_spec q.2.2.2.2.2.2
      have hle := held_le q.2.2.2.2.2.2 (leastN q.2.2.2.2.2.2) hls.1
      have hxl : x.2.2.2.2.2.length = L.2.1.toNat := by rw [r.hs, mapF_len]
      have hglen := r.ri.len
      rw [O.cond_neg c2]
      have hl2 := rPost_l2 k p (q.2.2.2.2.2.1, x, h) R1 _ L.2.1.toNat r.hs (leastN q.2.2.2.2.2.2) (by omega) (by omega) (fun i hi => (mget_iff r.ri.vals _).1 (hls.1 i hi)) (by
        intro h0
        have := (mget_iff r.ri.vals _).2 h0
        rw [hls.2] at this; cases this) (leastN q.2.2.2.2.2.2) 0 j (by omega)
      have := rPost_l3 k (by omega) p hp L q.2.1 ((leastN q.2.2.2.2.2.2 : Nat) : Int) x h q.2.2.2.2.2.1 g.1 (by omega) (by rw [hglen]; exact hL) r.xl r.xn r.ri.nx (by omega) (by rw [hxl]; omega) (by omega) h.2.1 R1 (F_aqueductref15_Queue_Post.l2 k p (q.2.2.2.2.2.1, x, h) R1 j) p.length 0 k h.2.2 (by omega) (by omega) (by omega)
      rw [show bD p L q.2.1 ((leastN q.2.2.2.2.2.2 : Nat) : Int) g.1 0 = g.1 from rfl, ← r.mem] at this
      obtain ⟨lg', h1, h2⟩ := this
      exact ⟨lg', hl2.trans h1, h2⟩
  · rw [if_neg c1]
    refine ⟨fun _ => ?_, fun h0 => absurd h0 (by decide)⟩
    have : (decide (1 ≤ p.length ∧ p.length ≤ 64) && alF p len p.length 0) = false := by
      rw [Bool.and_eq_false_iff]
      by_cases c2 : 1 ≤ p.length ∧ p.length ≤ 64
      · exact .inr (Bool.eq_false_iff.2 fun h => c1 ⟨c2.1, c2.2, h⟩)
      · exact .inl (decide_eq_false c2)
    rw [this, Bool.not_false, O.cond_true]
end Go.Proofs.YtpfddjdkafjjfaaGreat
