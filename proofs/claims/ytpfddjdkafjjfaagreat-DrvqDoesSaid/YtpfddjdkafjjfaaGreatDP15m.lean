/- Layer 15, plain: both Posts, both Reaps, both Tells. -/
import Derived.Test.YtpfddjdkafjjfaaGreatDP15l
namespace Go.Proofs.YtpfddjdkafjjfaaGreat
open Go.Aq Go.IntWalk
set_option linter.unusedVariables false
/-- The program's Post, byte for byte. -/
theorem Post_img (k : Nat) (hk : 70 ≤ k) (p : List TP) (hp : PIn p) {L : LAY} {len : Nat} (hlen : len ≤ 2048) (hL : LayIn L len) (q : TV) (g : TM) (h : RI L len q g) (hm : F_drvq_Queue_may.S k p q g = .ok (0, (q, g))) (hn : (p.length : Int) ≤ L.2.1) :
    ∃ g', F_drvq_Queue_Post.S k p q g = .ok ((((leastN q.2.2.2.2.2.2 : Nat) : Int), 0), (q.1, nextSp q.2.1 (p.length : Int) L.2.1, q.2.2.1, q.2.2.2.1, min (IntKind.i64.wrap (q.2.2.2.2.1 + (p.length : Int))) (IntKind.i64.wrap (2 * q.1.2.1)), IntKind.i64.wrap (q.2.2.2.2.2.1 - (p.length : Int)), mput q.2.2.2.2.2.2 ((leastN q.2.2.2.2.2.2 : Nat) : Int) (p.length : Int)), g') ∧
      okM g' ∧ g'.1 = bD p L q.2.1 ((leastN q.2.2.2.2.2.2 : Nat) : Int) g.1 p.length := by
  have hlo := hp.lo; have hhi := hp.hi; have hids := h.ids; have hfr := h.fr
  have hs1 := hL.sz; have hr := hL.r; have hlay := h.lay; have hs0 := h.nx
  have hLg : LayIn L g.1.length := by rw [h.len]; exact hL
  have hls := least_spec q.2.2.2.2.2.2
  have hle := held_le q.2.2.2.2.2.2 (leastN q.2.2.2.2.2.2) hls.1
  obtain ⟨id, hid⟩ : ∃ id : Int, ((leastN q.2.2.2.2.2.2 : Nat) : Int) = id := ⟨_, rfl⟩
  have hidr : 0 ≤ id ∧ id ≤ 40000 := by omega
  unfold F_drvq_Queue_Post.S F_drvq_Queue_Post.top
  rw [hm, O.bind_ok, O.cond_neg (by simp), O.twice_eq, O.chk_dec (by dsimp only; omega), hid]
  have lp : ∀ (m i j : Nat) (f : Int) (g' : TM), i + m = p.length → m < j → okM g' → g'.1 = bI p L q.2.1 id g.1 i → (0 < i → f = fgP p L q.2.1 0) →
      ∃ g'', F_drvq_Queue_Post.l1 k p (0, q, g) j f (i : Int) (nextSp q.2.1 (i : Int) L.2.1).1 (nextSp q.2.1 (i : Int) L.2.1).2 g'.1 g'.2.2 g'.2.1 = .ok ((id, 0), (q.1, nextSp q.2.1 (p.length : Int) L.2.1, q.2.2.1, q.2.2.2.1, min (IntKind.i64.wrap (q.2.2.2.2.1 + (p.length : Int))) (IntKind.i64.wrap (2 * q.1.2.1)), IntKind.i64.wrap (q.2.2.2.2.2.1 - (p.length : Int)), mput q.2.2.2.2.2.2 id (p.length : Int)), g'') ∧
        okM g'' ∧ g''.1 = bD p L q.2.1 id g.1 p.length := by
    intro m
    induction m with
    | zero =>
      intro i j f g' hi hj hg' hb hf
      obtain ⟨j, rfl⟩ : ∃ i, j = i + 1 := ⟨j - 1, by omega⟩
      obtain rfl : i = p.length := by omega
      have hpl0 := plP_in L q.2.1 hs0 0 (by omega) g.1.length hLg
      have hlI := bI_len p L q.2.1 id g.1 hs0 hLg p.length hn
      have e0 : IntKind.i64.wrap ((IntKind.i64.wrap (q.1.1 + (IntKind.i64.wrap ((16 : Int) * q.2.1.1)))) + (14 : Int)) = plP L q.2.1 0 + 14 := by
        have hg1 := h.len
        rw [hlay, i64_in ((16 : Int) * q.2.1.1) (by omega), i64_in (L.1 + _) (by omega), i64_in _ (by omega)]
        unfold plP
        rw [show ((0 : Nat) : Int) = 0 from rfl, nextSp_zero q.2.1 L.2.1 hs0]
      show ∃ g'', F_drvq_Queue_Post.l1_b _ _ _ _ _ _ _ _ _ _ _ _ = .ok (_, _, g'') ∧ _
      unfold F_drvq_Queue_Post.l1_b
      obtain ⟨r, hr1, hr2, hr3, hr4⟩ := Store_at k (by omega) (plP L q.2.1 0 + 14) 2 (by omega) f (by
        rw [hf (by omega)]
        have := flB_in (decide (0 + 1 < p.length)) (paP p 0).2.2 (nextSp q.2.1 ((0 : Nat) : Int) L.2.1).2
        show 0 ≤ fgP p L q.2.1 0 ∧ fgP p L q.2.1 0 < 65536
        unfold fgP; omega) g' hg' (by rw [hb, hlI]; omega)
      have hr1' : F_gmem_Memory_Store.S k (plP L q.2.1 0 + 14) (2 : Int) (IntKind.u64.wrap f) (g'.1, g'.2.1, g'.2.2) = .ok (0, r) := hr1
      rw [O.cond_neg (by omega)]
      dsimp only
      rw [e0, hr1', O.bind_ok, hid]
      refine ⟨r, rfl, hr2, ?_⟩
      obtain ⟨n, hnn⟩ : ∃ n, p.length = n + 1 := ⟨p.length - 1, by omega⟩
      rw [hr3, hb, hf (by omega), hnn]
      exact (bD_bI p L q.2.1 id g.1 hs0 hLg n (by omega)).symm
    | succ m ih =>
      intro i j f g' hi hj hg' hb hf
      obtain ⟨j, rfl⟩ : ∃ i, j = i + 1 := ⟨j - 1, by omega⟩
      have hlt : i < p.length := by omega
      have hpl := plP_in L q.2.1 hs0 i (by omega) g.1.length hLg
      have hlI := bI_len p L q.2.1 id g.1 hs0 hLg i (by omega)
      have hns := nextSp_in q.2.1 (i : Int) L.2.1 hs0 (by omega)
      have hea := hp.each i hlt
      have nx : F_spot_Next.S k ((nextSp q.2.1 (i : Int) L.2.1).1, (nextSp q.2.1 (i : Int) L.2.1).2) 1 q.1.2.1 = .ok (nextSp q.2.1 ((i + 1 : Nat) : Int) L.2.1, 0) := by
        rw [hlay]
        have := spotNext_S k (nextSp q.2.1 (i : Int) L.2.1) 1 L.2.1 hns hs1.2 (by omega)
        rw [nextSp_add q.2.1 (i : Int) L.2.1 hs0 (by omega)] at this
        exact this
      have e1 : IntKind.i64.wrap ((i : Int) + 1) = ((i + 1 : Nat) : Int) := i64_in _ (by omega)
      have hg1 := h.len
      have a0 : IntKind.i64.wrap (q.1.1 + (IntKind.i64.wrap ((16 : Int) * (nextSp q.2.1 (i : Int) L.2.1).1))) = plP L q.2.1 i := by
        rw [hlay, i64_in ((16 : Int) * _) (by omega), i64_in _ (by omega)]; rfl
      have hfgr : 0 ≤ fgP p L q.2.1 i ∧ fgP p L q.2.1 i < 65536 := flB_in _ _ _
      have j9 : ∀ fl : Int, fl = (bif (paP p i).2.2 then bOr .i64 (bif decide (i + 1 < p.length) then 1 else 0) 2 else (bif decide (i + 1 < p.length) then 1 else 0)) →
          ∃ g'', F_drvq_Queue_Post.j9 k p (0, q, g) f (i : Int) (nextSp q.2.1 (i : Int) L.2.1).1 (nextSp q.2.1 (i : Int) L.2.1).2 g'.1 g'.2.2 g'.2.1 (F_drvq_Queue_Post.l1 k p (0, q, g) j) fl = .ok ((id, 0), (q.1, nextSp q.2.1 (p.length : Int) L.2.1, q.2.2.1, q.2.2.2.1, min (IntKind.i64.wrap (q.2.2.2.2.1 + (p.length : Int))) (IntKind.i64.wrap (2 * q.1.2.1)), IntKind.i64.wrap (q.2.2.2.2.2.1 - (p.length : Int)), mput q.2.2.2.2.2.2 id (p.length : Int)), g'') ∧
            okM g'' ∧ g''.1 = bD p L q.2.1 id g.1 p.length := by
        intro fl hfl
        subst hfl
        show ∃ g'', F_drvq_Queue_Post.j9_b _ _ _ _ _ _ _ _ _ _ _ _ = .ok (_, _, g'') ∧ _
        unfold F_drvq_Queue_Post.j9_b
        dsimp only
        rw [dMark_B, O.bind_ok, a0, hid, show gt ((0 : Int), (0 : Int), false) p (i : Int) = paP p i from rfl, show flB (decide (i + 1 < p.length)) (paP p i).2.2 (nextSp q.2.1 (i : Int) L.2.1).2 = fgP p L q.2.1 i from rfl]
        obtain ⟨a, ha, a1, a2, a3⟩ := Store_at k (by omega) (plP L q.2.1 i) 8 (by omega) (paP p i).1 (by rw [show (256 : Int) ^ 8 = 18446744073709551616 from rfl]; omega) g' hg' (by rw [hb, hlI]; omega)
        have ha' : F_gmem_Memory_Store.S k (plP L q.2.1 i) (8 : Int) (IntKind.u64.wrap (paP p i).1) (g'.1, g'.2.1, g'.2.2) = .ok (0, a) := ha
        have hal : a.1.length = g.1.length := by rw [a3, hb, hlI]
        obtain ⟨b, hbb, b1, b2, b3⟩ := Store_at k (by omega) (plP L q.2.1 i + 8) 4 (by omega) (paP p i).2.1 (by rw [show (256 : Int) ^ 4 = 4294967296 from rfl]; omega) a a1 (by rw [hal]; omega)
        have hb' : F_gmem_Memory_Store.S k (plP L q.2.1 i + 8) (4 : Int) (IntKind.u64.wrap (paP p i).2.1) a = .ok (0, b) := hbb
        obtain ⟨c, hc, c1, c2, c3⟩ := Store_at k (by omega) (plP L q.2.1 i + 12) 2 (by omega) id (by rw [show (256 : Int) ^ 2 = 65536 from rfl]; omega) b b1 (by rw [b3, hal]; omega)
        have hc' : F_gmem_Memory_Store.S k (plP L q.2.1 i + 12) (2 : Int) (IntKind.u64.wrap id) b = .ok (0, c) := hc
        have y1 : (bytesOf (putL (paP p i).1 8)).length = 8 := by rw [bytesOf_len, putL_size]
        have y2 : (bytesOf (putL (paP p i).2.1 4)).length = 4 := by rw [bytesOf_len, putL_size]
        have y3 : (bytesOf (putL id 2)).length = 2 := by rw [bytesOf_len, putL_size]
        have hput : c.1 = putAt (bI p L q.2.1 id g.1 i) (plP L q.2.1 i) (bytesOf (hdP p id i)) := by
          have p1 := put_put g'.1 (bytesOf (putL (paP p i).1 8)) (bytesOf (putL (paP p i).2.1 4)) (plP L q.2.1 i) (by rw [hb, hlI]; omega)
          rw [y1] at p1
          have p2 := put_put g'.1 (bytesOf (putL (paP p i).1 8) ++ bytesOf (putL (paP p i).2.1 4)) (bytesOf (putL id 2)) (plP L q.2.1 i) (by rw [List.length_append, hb, hlI]; omega)
          rw [List.length_append, y1, y2] at p2
          rw [c2, b2, a2, show plP L q.2.1 i + 8 = plP L q.2.1 i + ((8 : Nat) : Int) from rfl, p1, show plP L q.2.1 i + 12 = plP L q.2.1 i + ((8 + 4 : Nat) : Int) from rfl, p2, hb]
          unfold hdP
          rw [bytesOf_app, bytesOf_app]
        rw [ha', O.bind_ok, i64_in (plP L q.2.1 i + 8) (by omega), hb', O.bind_ok, i64_in (plP L q.2.1 i + 12) (by omega), hc', O.bind_ok, e1]
        by_cases h0 : i = 0
        · subst h0
          rw [O.cond_pos (show ((0 : Nat) : Int) = 0 from rfl), nx, O.bind_ok]
          have hbI : c.1 = bI p L q.2.1 id g.1 (0 + 1) := by
            show c.1 = putAt _ _ (bytesOf (if 0 = 0 then _ else _))
            rw [if_pos rfl]; exact hput
          exact ih (0 + 1) j (fgP p L q.2.1 0) c (by omega) (by omega) c1 hbI (fun _ => rfl)
        · obtain ⟨d, hd, d1, d2, d3⟩ := Store_at k (by omega) (plP L q.2.1 i + 14) 2 (by omega) (fgP p L q.2.1 i) (by rw [show (256 : Int) ^ 2 = 65536 from rfl]; omega) c c1 (by rw [c3, b3, hal]; omega)
          have hd' : F_gmem_Memory_Store.S k (plP L q.2.1 i + 14) (2 : Int) (IntKind.u64.wrap (fgP p L q.2.1 i)) c = .ok (0, d) := hd
          rw [O.cond_neg (by omega), i64_in (plP L q.2.1 i + 14) (by omega), hd', O.bind_ok, nx, O.bind_ok]
          have hbI : d.1 = bI p L q.2.1 id g.1 (i + 1) := by
            show d.1 = putAt _ _ (bytesOf (if i = 0 then _ else _))
            rw [if_neg h0, d2, hput, dsP_eq, bytesOf_app]
            have y4 : (bytesOf (putL (fgP p L q.2.1 i) 2)).length = 2 := by rw [bytesOf_len, putL_size]
            have p3 := put_put (bI p L q.2.1 id g.1 i) (bytesOf (hdP p id i)) (bytesOf (putL (fgP p L q.2.1 i) 2)) (plP L q.2.1 i) (by rw [hdP_len, y4, hlI]; omega)
            rw [hdP_len] at p3
            exact p3
          exact ih (i + 1) j f d (by omega) (by omega) d1 hbI (fun _ => hf (by omega))
      have j8 : ∀ fl : Int, fl = (bif decide (i + 1 < p.length) then 1 else 0) → ∃ g'', F_drvq_Queue_Post.j8 k p (0, q, g) f (i : Int) (nextSp q.2.1 (i : Int) L.2.1).1 (nextSp q.2.1 (i : Int) L.2.1).2 g'.1 g'.2.2 g'.2.1 (F_drvq_Queue_Post.l1 k p (0, q, g) j) fl = .ok ((id, 0), (q.1, nextSp q.2.1 (p.length : Int) L.2.1, q.2.2.1, q.2.2.2.1, min (IntKind.i64.wrap (q.2.2.2.2.1 + (p.length : Int))) (IntKind.i64.wrap (2 * q.1.2.1)), IntKind.i64.wrap (q.2.2.2.2.2.1 - (p.length : Int)), mput q.2.2.2.2.2.2 id (p.length : Int)), g'') ∧
            okM g'' ∧ g''.1 = bD p L q.2.1 id g.1 p.length := by
        intro fl hfl
        show ∃ g'', F_drvq_Queue_Post.j8_b _ _ _ _ _ _ _ _ _ _ _ _ _ = .ok (_, _, g'') ∧ _
        unfold F_drvq_Queue_Post.j8_b
        rw [show gt ((0 : Int), (0 : Int), false) p (i : Int) = paP p i from rfl]
        cases hw : (paP p i).2.2 with
        | true => rw [O.cond_true]; exact j9 _ (by rw [hw, hfl]; rfl)
        | false => rw [O.cond_false]; exact j9 _ (by rw [hw, hfl]; rfl)
      show ∃ g'', F_drvq_Queue_Post.l1_b _ _ _ _ _ _ _ _ _ _ _ _ = .ok (_, _, g'') ∧ _
      unfold F_drvq_Queue_Post.l1_b
      rw [O.cond_pos (by omega), O.chk_dec (by omega), O.chk_dec (by omega), i64_in ((p.length : Int) - 1) (by omega)]
      by_cases c : i + 1 < p.length
      · rw [O.cond_pos (by omega)]
        exact j8 1 (by rw [decide_eq_true c]; rfl)
      · rw [O.cond_neg (by omega)]
        exact j8 0 (by rw [decide_eq_false c]; rfl)
  have := lp p.length 0 k 0 g (by omega) (by omega) h.okg rfl (fun h => by omega)
  rw [show ((0 : Nat) : Int) = 0 from rfl, nextSp_zero q.2.1 L.2.1 hs0] at this
  exact this
/-- Both Posts. -/
theorem Post_both (k : Nat) (hk : 40000 ≤ k) (p : List TP) (hpl : p.length ≤ 70) {L : LAY} {len : Nat} (hlen : len ≤ 2048) (hL : LayIn L len) {q : TV} {g : TM} {x : TX} {h : TR} (r : RX L len q g x h) (hlog : h.2.2.length ≤ 3900) (hsin : x.2.2.2.2.1 ≤ 1000000) :
    ∃ a b, F_drvq_Queue_Post.S k p q g = .ok a ∧ F_aqueductref15_Queue_Post.S k p x h = .ok b ∧ a.1 = b.1 ∧ RX L len a.2.1 a.2.2 b.2.1 b.2.2 ∧ b.2.1.2.2.2.2.1 ≤ x.2.2.2.2.1 + 64 ∧ 2 * (b.2.2.2.2.length : Int) ≤ 2 * (h.2.2.length : Int) + 64 + (sm a.2.1.2.2.2.2.2.2 - sm q.2.2.2.2.2.2) := by
  have hm := may_is k (by omega) p q g r.ri.okg
  rw [r.ri.len] at hm
  obtain ⟨p1, p2⟩ := rPost_S k hk p hpl hlen hL r hlog
  have s1 := hL.sz
  by_cases hE : mayE p len q.2.2.2.2.2.1 = 0
  · obtain ⟨lg', hb, hl'⟩ := p2 hE
    rw [hE] at hm
    have hin : 1 ≤ p.length ∧ p.length ≤ 64 ∧ alF p len p.length 0 = true ∧ (p.length : Int) ≤ q.2.2.2.2.2.1 := by
      unfold mayE at hE
      by_cases c : 1 ≤ p.length ∧ p.length ≤ 64 ∧ alF p len p.length 0 = true
      · rw [if_pos c] at hE
        by_cases c2 : (p.length : Int) > q.2.2.2.2.2.1
        · rw [if_pos c2] at hE; exact absurd hE (by decide)
        · exact ⟨c.1, c.2.1, c.2.2, by omega⟩
      · rw [if_neg c] at hE; exact absurd hE (by decide)
    have hfr := r.ri.fr; have hids := r.ri.ids; have hsum := r.ri.sum
    have hp := PIn.of (len := len) (by omega) ⟨hin.1, hin.2.1⟩ hin.2.2.1
    have hsm : (0 : Int) ≤ sm q.2.2.2.2.2.2 := by have := len_sm r.ri.vals; omega
    obtain ⟨g', ha, hg', hg1⟩ := Post_img k (by omega) p hp hlen hL q g r.ri hm (by omega)
    have hls := least_spec q.2.2.2.2.2.2
    have hle := held_le q.2.2.2.2.2.2 (leastN q.2.2.2.2.2.2) hls.1
    have hput := mput_newI (p.length : Int) hls.2
    have hfree : IntKind.i64.wrap (q.2.2.2.2.2.1 - (p.length : Int)) = q.2.2.2.2.2.1 - (p.length : Int) := i64_in _ (by omega)
    have hwS : IntKind.i64.wrap (x.2.2.2.2.1 + (p.length : Int)) = x.2.2.2.2.1 + (p.length : Int) := i64_in _ (by have := r.sin; omega)
    have hsi := r.since; have hsn := r.sin
    have hnx := nextSp_in q.2.1 (p.length : Int) L.2.1 r.ri.nx (by omega)
    have hLg : LayIn L g.1.length := by rw [r.ri.len]; exact hL
    have hlen' := bD_len p L q.2.1 ((leastN q.2.2.2.2.2.2 : Nat) : Int) g.1 r.ri.nx hLg p.length (by omega)
    have hsm' : sm (mput q.2.2.2.2.2.2 ((leastN q.2.2.2.2.2.2 : Nat) : Int) (p.length : Int)) = sm q.2.2.2.2.2.2 + (p.length : Int) := by
      rw [hput, sm_app]; simp only [sm]; omega
    refine ⟨_, _, ha, hb, rfl, ⟨⟨r.ri.lay, hnx, r.ri.bk, ?_, ?_, ?_, ?_, ?_, hg', ?_⟩, ?_, ?_, rfl, rfl, r.xb, r.xt, r.tin, ?_, ?_, ?_, ?_⟩, ?_, ?_⟩
    · show 0 ≤ IntKind.i64.wrap _; rw [hfree]; omega
    · show IntKind.i64.wrap _ + sm (mput _ _ _) = _; rw [hfree, hsm']; omega
    · show ∀ e ∈ mput _ _ _, 1 ≤ e.2
      rw [hput]
      intro e he
      rcases List.mem_append.1 he with he | he
      · exact r.ri.vals e he
      · simp only [List.mem_singleton] at he; subst he; show 1 ≤ (p.length : Int); omega
    · show ((mput _ _ _).map (·.1)).Nodup
      rw [hput, List.map_append, List.nodup_append]
      refine ⟨r.ri.keys, by simp, fun a ha b hb e => ?_⟩
      simp only [List.map_cons, List.map_nil, List.mem_singleton] at hb
      subst hb; subst e
      rw [← mhas_iff] at ha
      rw [hls.2] at ha; cases ha
    · show ∀ e ∈ mput _ _ _, 0 ≤ e.1 ∧ e.1 ≤ 40000
      rw [hput]
      intro e he
      rcases List.mem_append.1 he with he | he
      · exact r.ri.kin e he
      · simp only [List.mem_singleton] at he; subst he; show 0 ≤ ((leastN _ : Nat) : Int) ∧ ((leastN _ : Nat) : Int) ≤ 40000; omega
    · show g'.1.length = len; rw [hg1, hlen']; exact r.ri.len
    · show ∀ e ∈ mput _ _ _, e.2 ≤ 64
      rw [hput]
      intro e he
      rcases List.mem_append.1 he with he | he
      · exact r.le64 e he
      · simp only [List.mem_singleton] at he; subst he; show (p.length : Int) ≤ 64; omega
    · show ∀ e ∈ mput _ _ _, e.1 < L.2.1
      rw [hput]
      intro e he
      rcases List.mem_append.1 he with he | he
      · exact r.klt e he
      · simp only [List.mem_singleton] at he; subst he; show ((leastN _ : Nat) : Int) < L.2.1; omega
    · show min (IntKind.i64.wrap (q.2.2.2.2.1 + (p.length : Int))) (IntKind.i64.wrap (2 * q.1.2.1)) = min (IntKind.i64.wrap (x.2.2.2.2.1 + (p.length : Int))) (2 * L.2.1)
      rw [hwS, r.ri.lay, i64_in (2 * L.2.1) (by omega), i64_in (q.2.2.2.2.1 + _) (by omega)]
      omega
    · show 0 ≤ IntKind.i64.wrap _; rw [hwS]; omega
    · show su ([] ++ x.2.2.2.2.2) ((leastN q.2.2.2.2.2.2 : Nat) : Int) (p.length : Int) = mapF (fun i => mget 0 (mput q.2.2.2.2.2.2 ((leastN q.2.2.2.2.2.2 : Nat) : Int) (p.length : Int)) (i : Int)) L.2.1.toNat
      rw [List.nil_append, r.hs, mapF_su]
      refine mapF_congr fun i hi => ?_
      rw [hput, mget_app _ _ _ _ hls.2]
      by_cases e : i = leastN q.2.2.2.2.2.2
      · rw [if_pos e, if_pos (by omega)]
      · rw [if_neg e, if_neg (by omega)]
    · show Go.Aq.strOf _ = Go.Aq.strOf _; rw [hg1]
    · show IntKind.i64.wrap _ ≤ _; rw [hwS]; omega
    · show 2 * (lg'.length : Int) ≤ _ + (sm (mput _ _ _) - _)
      rw [hsm']; omega
  · have hb := p1 hE
    have ha : F_drvq_Queue_Post.S k p q g = .ok (((0 : Int), mayE p len q.2.2.2.2.2.1), (q, g)) := by
      unfold F_drvq_Queue_Post.S F_drvq_Queue_Post.top
      rw [hm, O.bind_ok, O.cond_pos hE]
    exact ⟨_, _, ha, hb, rfl, r, by dsimp only; omega, by dsimp only; omega⟩
end Go.Proofs.YtpfddjdkafjjfaaGreat
