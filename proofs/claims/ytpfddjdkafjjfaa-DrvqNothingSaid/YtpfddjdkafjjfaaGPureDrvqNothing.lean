/- The law DrvqNothing of its plain function. -/
import Derived.Test.YtpfddjdkafjjfaaGP15d
import Derived.Test.YtpfddjdkafjjfaaGP15f
namespace Go.Proofs.Ytpfddjdkafjjfaa
open Go.Aq Go.IntWalk
set_option linter.unusedVariables false
theorem max_len : maxLen = 9223372036854775807 := by decide
theorem bAnd_le (a : Int) (m : Nat) (hm : m < 1000000) : 0 ≤ bAnd .i64 a (m : Int) ∧ bAnd .i64 a (m : Int) ≤ m := by
  have e : (BitVec.ofInt 64 (m : Int)).toNat = m := natOf_ofInt .i64 m (by show m < 2 ^ 64; omega)
  have h : (BitVec.ofInt 64 a &&& BitVec.ofInt 64 (m : Int)).toNat ≤ m := by
    rw [BitVec.toNat_and, e]; exact Nat.and_le_right
  unfold bAnd
  rw [show IntKind.i64.bits = 64 from rfl, i64_in _ (by omega)]
  omega
theorem gNew_S (k : Nat) : F_gmem_New.S k 1024 = .ok (.inr ((0 : Int), (List.replicate (1024 : Int).toNat (0 : Int)), (0 : Int), [])) := by
  unfold F_gmem_New.S
  rw [O.cond_neg (by decide), O.cond_neg (by decide), O.chk_dec (by decide)]
theorem rNew_S (k : Nat) : F_aqueductref04_New.S k 1024 = .ok (.inr ((0 : Int), (Go.Aq.strOf (List.replicate (1024 : Int).toNat (0 : Int))), (0 : Int), [])) := by
  unfold F_aqueductref04_New.S
  rw [O.cond_neg (by decide), O.cond_neg (by decide), O.chk_dec (by decide)]
theorem mput_newI : ∀ {es : EI} {k : Int} (v : Int), mhas es k = false → mput es k v = es ++ [(k, v)]
  | [], k, v, h => rfl
  | e :: es, k, v, h => by
    have he : ¬ e.1 = k := fun he => by simp [mhas, he] at h
    unfold mput
    rw [if_neg he, mput_newI v (by simpa [mhas, he] using h)]
    rfl
theorem Acc_any (k : Nat) (l : List (Int × Int × Int × Bool)) (h : l.length ≤ 1048576) : F_api_Access.S k l = .ok l := by
  by_cases h0 : 0 < l.length
  · exact Acc_S k l ⟨h0, h⟩
  · have : l = [] := List.length_eq_zero_iff.1 (by omega)
    subst this
    unfold F_api_Access.S
    rw [O.cond_neg (by simp), O.cond_true, O.cond_false, O.chk_dec (by simp), O.same_eq]; simp
theorem Cln_S (k : Nat) (l : List Int) (h : 0 < l.length ∧ l.length ≤ 1048576) : F_slices_Clone_byte_byte.S k l = .ok l := by
  unfold F_slices_Clone_byte_byte.S
  rw [O.cond_pos (by omega), O.cond_false, O.chk_dec (by omega)]
  rfl
theorem dNew_S (k : Nat) (g : TM) (h : okM g) (hl : g.1.length = 1024) : ∃ g', F_aqueductlaw15_drvqNew.S k g = .ok (true, g') := by
  unfold F_aqueductlaw15_drvqNew.S
  have := drvNew_S k 4 (by omega) g h hl
  unfold layQ at this
  rw [this, O.sum_inr, O.cond_true, O.cond_pos rfl]
  exact ⟨_, rfl⟩
structure NotI (n : Int) (c : Nat) (q : TV) (g : TM) : Prop where
  lay : q.1 = layQ n
  back : q.2.2.1 = ((0 : Int), true)
  cn : (c : Int) ≤ n
  next : q.2.1 = if (c : Int) < n then ((c : Int), true) else ((0 : Int), false)
  free : q.2.2.2.2.2.1 = n - (c : Int)
  es : q.2.2.2.2.2.2.length = c
  okg : okM g
  len : g.1.length = 1024
  head : c = 0 ∨ headOk (g.1.take 16)
/-- What a post leaves. -/
theorem post_any (k : Nat) (hk : 70 ≤ k) (n : Int) (hn : 1 ≤ n ∧ n ≤ 8) (c : Nat) (q : TV) (g : TM) (h : NotI n c q g) (N : Int) (wr : Bool) (hN : 1 ≤ N ∧ N ≤ 64) :
    ∃ e q' g' c', F_drvq_Queue_Post.S k [((600 : Int), N, wr)] q g = .ok (e, (q', g')) ∧ NotI n c' q' g' ∧ headOk (g'.1.take 16) := by
  have hcn := h.cn
  by_cases hc : (c : Int) < n
  · have hnx := h.next
    rw [if_pos hc] at hnx
    obtain ⟨g', hp, h1, h2, h3, h4⟩ := Post_one k hk N wr hN q g n h.lay hn.2 h.okg h.len (by rw [h.free]; omega) (by rw [hnx]; exact ⟨by show (0 : Int) ≤ (c : Int); omega, hc⟩) (by rw [h.es]; omega)
    have hd : headOk (g'.1.take 16) := by
      rcases h.head with h0 | h0
      · subst h0
        exact h4 hnx
      · by_cases h5 : c = 0
        · subst h5; exact h4 hnx
        · rw [h3 (by rw [hnx]; show (1 : Int) ≤ (c : Int); omega)]; exact h0
    refine ⟨_, _, g', c + 1, hp, ⟨h.lay, h.back, by omega, ?_, ?_, ?_, h1, h2, .inr hd⟩, hd⟩
    · show nextP q.2.1 n = _
      rw [hnx]
      unfold nextP
      by_cases h6 : (c : Int) + 1 ≥ n
      · rw [if_pos h6, if_neg (by omega)]
        have : (c : Int) + 1 - n = 0 := by omega
        simp [this]
      · rw [if_neg h6, if_pos (by omega)]
        simp
    · show IntKind.i64.wrap (q.2.2.2.2.2.1 - ((1 : Nat) : Int)) = _
      rw [h.free, i64_in _ (by omega)]; omega
    · show (mput q.2.2.2.2.2.2 _ _).length = _
      rw [mput_newI _ (least_spec q.2.2.2.2.2.2).2, List.length_append, h.es]; rfl
  · have hd : headOk (g.1.take 16) := by
      rcases h.head with h0 | h0
      · omega
      · exact h0
    have hp : OkP [((600 : Int), N, wr)] g.1.length := ⟨by simp, by simp, fun x hx => by
      have : x = ((600 : Int), N, wr) := by simpa using hx
      subst this
      have hl := h.len
      exact ⟨hN.1, mayM_iff.2 (by show 0 ≤ (600 : Int) ∧ 0 ≤ N ∧ N ≤ (g.1.length : Int) ∧ (600 : Int) ≤ (g.1.length : Int) - N; omega)⟩, .inr rfl⟩
    exact ⟨_, q, g, c, Post_no k hk _ q g h.okg hp (by rw [h.free]; simp; omega), h, hd⟩
theorem not_loop (k : Nat) (hk : 400 ≤ k) (fx : F_aqueductlaw15_fixed.S k = .ok true) (a1 : List Int) (hlen : a1.length ≤ 9223372036854775807) (n : Int) (hn : 1 ≤ n ∧ n ≤ 8) : ∀ (m i j : Nat), i + m = 20 → m < j → ∀ (c : Nat) (q : TV) (g : TM), NotI n c q g →
      F_aqueductlaw15_DrvqNothing.l2 k a1 j (i : Int) g.2.1 q.1.1 q.1.2.1 q.1.2.2.1 q.1.2.2.2 q.2.1.1 q.2.1.2 q.2.2.1.1 q.2.2.1.2 q.2.2.2.1.1 q.2.2.2.1.2 q.2.2.2.2.1 q.2.2.2.2.2.1 g.1 g.2.2 q.2.2.2.2.2.2 = .ok true := by
    have fin : ∀ (g : TM) (h : okM g) (hl : g.1.length = 1024) (v : Int), (O.bind (F_slices_Clone_byte_byte.S k g.1) fun r65 =>
      O.bind (F_api_Access.S k g.2.2) fun r66 =>
      O.cond false (.ok false) (O.cond true (O.cond (decide (v = v)) (O.bind (F_aqueductlaw15_drvqNew.S k (r65, g.2.1, r66)) fun r67 => O.cond r67.1 (O.bind (F_aqueductlaw15_fixed.S k) fun r68 => .ok r68) (.ok false)) (.ok false)) (.ok false))) = .ok true := by
      intro g h hl v
      obtain ⟨g', hg'⟩ := dNew_S k g h hl
      rw [Cln_S k g.1 (by omega), O.bind_ok, Acc_any k g.2.2 (by have := h.2; omega), O.bind_ok, O.cond_false, O.cond_true, O.cond_pos rfl, show ((g.1, g.2.1, g.2.2) : TM) = g from rfl, hg', O.bind_ok, O.cond_true, fx, O.bind_ok]
    intro m
    induction m with
    | zero =>
      intro i j hi hj c q g hF
      obtain ⟨j, rfl⟩ : ∃ i, j = i + 1 := ⟨j - 1, by omega⟩
      show F_aqueductlaw15_DrvqNothing.l2_b _ _ _ _ _ _ _ _ _ _ _ _ _ _ _ _ _ _ _ _ = _
      unfold F_aqueductlaw15_DrvqNothing.l2_b
      by_cases h1 : (i : Int) < a1.length
      · rw [O.cond_pos h1, O.cond_neg (by omega)]
        exact fin g hF.okg hF.len _
      · rw [O.cond_neg h1]
        exact fin g hF.okg hF.len _
    | succ m ih =>
      intro i j hi hj c q g hF
      obtain ⟨j, rfl⟩ : ∃ i, j = i + 1 := ⟨j - 1, by omega⟩
      show F_aqueductlaw15_DrvqNothing.l2_b _ _ _ _ _ _ _ _ _ _ _ _ _ _ _ _ _ _ _ _ = _
      unfold F_aqueductlaw15_DrvqNothing.l2_b
      by_cases h1 : (i : Int) < a1.length
      · have c1 : (0 : Int) ≤ (i : Int) ∧ (i : Int) < (List.length a1 : Int) ∧ (List.length a1 : Int) ≤ (List.length a1 : Int) := by omega
        have c2 : (0 : Int) ≤ (i : Int) ∧ (i : Int) < (List.length a1 : Int) := by omega
        rw [O.cond_pos h1, O.cond_pos (by omega), O.chk_dec c1, O.chk_dec c2, O.chk_dec c1, O.chk_dec c2]
        have hx : 0 ≤ bAnd .i64 (gt (0 : Int) a1 (i : Int)) (63 : Int) ∧ bAnd .i64 (gt (0 : Int) a1 (i : Int)) (63 : Int) ≤ 63 := bAnd_le _ 63 (by decide)
        have eN : IntKind.i64.wrap ((1 : Int) + (bAnd .i64 (gt (0 : Int) a1 (i : Int)) (63 : Int))) = 1 + bAnd .i64 (gt (0 : Int) a1 (i : Int)) (63 : Int) := i64_in _ (by omega)
        rw [eN]
        obtain ⟨e, q', g', c', hp, hF', hd⟩ := post_any k (by omega) n hn c q g hF (1 + bAnd .i64 (gt (0 : Int) a1 (i : Int)) (63 : Int)) (decide ((bAnd .i64 (gt (0 : Int) a1 (i : Int)) (64 : Int)) ≠ (0 : Int))) (by omega)
        have eq' : ((q.1.1, q.1.2.1, q.1.2.2.1, q.1.2.2.2), (q.2.1.1, q.2.1.2), (q.2.2.1.1, q.2.2.1.2), (q.2.2.2.1.1, q.2.2.2.1.2), q.2.2.2.2.1, q.2.2.2.2.2.1, q.2.2.2.2.2.2) = q := rfl
        have eg' : (g.1, g.2.1, g.2.2) = g := rfl
        rw [eq', eg', hp, O.bind_ok]
        dsimp only
        have hr := Reap_no k (by omega) q' g' n hF'.lay hF'.back hF'.okg hF'.len hd
        have hro := rdM_ok g' 0 16 hF'.okg
        have hF2 : NotI n c' q' (rdM g' 0 16) := ⟨hF'.lay, hF'.back, hF'.cn, hF'.next, hF'.free, hF'.es, hro.1, by rw [hro.2]; exact hF'.len, .inr (by rw [hro.2]; exact hd)⟩
        rw [hr, O.bind_ok]
        dsimp only
        rw [O.cond_false, O.cond_neg (by simp), O.cond_neg (by simp), O.cond_neg (by simp)]
        have hb : (!(decide (q'.2.2.1.1 = (0 : Int)) && (decide (q'.2.2.1.2 = true) && true))) = false := by rw [hF'.back]; rfl
        rw [hb, O.cond_false, i64_in ((i : Int) + 1) (by omega)]
        exact ih (i + 1) j (by omega) (by omega) c' q' (rdM g' 0 16) hF2
      · rw [O.cond_neg h1]
        exact fin g hF.okg hF.len _
theorem not_top (k : Nat) (a0 : Int) (a1 : List Int) (n : Int) (en : IntKind.i64.wrap ((1 : Int) + (bAnd .i64 a0 (7 : Int))) = n) (hn : 1 ≤ n ∧ n ≤ 8) (W : ByteArray) (eW : (Go.Aq.strOf (List.replicate (30 : Int).toNat (0 : Int)) ++ (⟨#[119, 104, 97, 116, 32, 115, 116, 111, 111, 100, 32, 116, 104, 101, 114, 101]⟩ : ByteArray)) = W) (hW : W.size = 46)
    (b : List Int) (eb : List.replicate (1024 : Int).toNat (0 : Int) = b) (hb : b.length = 1024) (D0 : O Bool) (D1) (D2) (D3) :
    F_aqueductlaw15_DrvqNothing.top k a0 a1 D0 D1 D2 D3 = D2 0 (zerQ (wrM (b, (0 : Int), []) 0 W) n).2.1 0 n 512 516 0 true 0 true 0 true 0 n (zerQ (wrM (b, (0 : Int), []) 0 W) n).1 (zerQ (wrM (b, (0 : Int), []) 0 W) n).2.2 [] := by
  have hcs : ((ByteArray.size (Go.Aq.strOf (List.replicate (30 : Int).toNat (0 : Int))) + ByteArray.size (⟨#[119, 104, 97, 116, 32, 115, 116, 111, 111, 100, 32, 116, 104, 101, 114, 101]⟩ : ByteArray) : Nat) : Int) ≤ 9223372036854775807 := by rw [size_strOf, List.length_replicate]; decide
  have h0 : okM (b, (0 : Int), []) := ⟨by show b.length ≤ _; omega, by simp⟩
  have w0 := wrM_ok (b, (0 : Int), []) 0 W h0 (mayM_iff.2 (by show 0 ≤ (0 : Int) ∧ 0 ≤ (W.size : Int) ∧ (W.size : Int) ≤ (b.length : Int) ∧ (0 : Int) ≤ (b.length : Int) - (W.size : Int); omega))
  have hl1 : (wrM (b, (0 : Int), []) 0 W).1.length = 1024 := by rw [w0.2]; exact hb
  have hsb : (Go.Aq.strOf b).size = 1024 := by rw [size_strOf]; exact hb
  have p0 := strOf_put b 0 W (by omega)
  rw [Int.toNat_zero] at p0
  have x1 := ext_le (Go.Aq.strOf b) 0 0
  have x2 := ext_le (Go.Aq.strOf b) ((0 : Int) + (W.size : Int)).toNat (Go.Aq.strOf b).size
  unfold F_aqueductlaw15_DrvqNothing.top
  rw [en, show max (64 : Int) (min (1024 : Int) (2048 : Int)) = 1024 by decide, gNew_S, O.sum_inr, rNew_S, O.sum_inr, O.cond_false, O.cond_false, O.cond_neg (by simp), O.cond_neg (by simp), O.chk_dec (by decide), O.chk_dec hcs, eW, eb]
  dsimp only
  rw [Write_S k 0 W (b, (0 : Int), []) h0, O.bind_ok, if_pos (mayM_iff.2 (by show 0 ≤ (0 : Int) ∧ 0 ≤ (W.size : Int) ∧ (W.size : Int) ≤ (b.length : Int) ∧ (0 : Int) ≤ (b.length : Int) - (W.size : Int); omega)), O.cond_neg (by simp), rMay_S k 0 _ _ (by show (Go.Aq.strOf b).size ≤ _; omega), O.bind_ok, mayM_iff.2 (by show 0 ≤ (0 : Int) ∧ 0 ≤ (W.size : Int) ∧ (W.size : Int) ≤ ((Go.Aq.strOf b).size : Int) ∧ (0 : Int) ≤ ((Go.Aq.strOf b).size : Int) - (W.size : Int); omega), Bool.not_true, O.cond_false, note_S' k _ _ _ _ _ (by simp), O.bind_ok]
  dsimp only
  rw [i64_in ((0 : Int) + _) (by omega), O.chk_dec (by omega), O.chk_dec (by omega), O.chk_dec (by omega), O.chk_dec (by rw [app_size]; omega), p0, O.cond_false]
  obtain ⟨R3, q3, hq3, hR3⟩ := rNew15 k n hn (wrM (b, (0 : Int), []) 0 W) w0.1 hl1 0 (note1 0 [] 0 (W.size : Int)) (by have := note1_len 0 [] 0 (W.size : Int); simp at this ⊢; omega)
  have hz := zerQ_ok (wrM (b, (0 : Int), []) 0 W) n hn w0.1 hl1
  rw [show ((0 : Int), n, (512 : Int), (516 : Int)) = layQ n from rfl, drvNew_S k n hn _ w0.1 hl1, O.sum_inr]
  rw [show putAt b 0 (bytesOf W) = (wrM (b, (0 : Int), []) 0 W).1 from rfl, hq3, O.sum_inr, O.cond_pos rfl, O.cond_pos rfl]
  dsimp only
  rw [hR3, decide_eq_true rfl, Bool.not_true, O.cond_false, O.cond_false]
  exact rfl
theorem Pure.DrvqNothing : ∀ (a0 : Int) (a1 : List Int), (Lit.int .i64 a0).wf = true → okS (.row false 3 [.int .i64]) a1 → ∃ k, F_aqueductlaw15_DrvqNothing.S k a0 a1 = .ok true := by
  intro a0 a1 _ h1
  have hlen : a1.length ≤ maxLen := h1.1
  rw [max_len] at hlen
  obtain ⟨k, hk, fx⟩ : ∃ k : Nat, 400 ≤ k ∧ F_aqueductlaw15_fixed.S k = .ok true := ⟨400 + 60, by omega, fixed15 400⟩
  refine ⟨k, ?_⟩
  have hN : 0 ≤ bAnd .i64 a0 (7 : Int) ∧ bAnd .i64 a0 (7 : Int) ≤ 7 := bAnd_le a0 7 (by decide)
  obtain ⟨n, en⟩ : ∃ n : Int, IntKind.i64.wrap ((1 : Int) + (bAnd .i64 a0 (7 : Int))) = n := ⟨_, rfl⟩
  have hn : 1 ≤ n ∧ n ≤ 8 := by rw [i64_in _ (by omega)] at en; omega
  obtain ⟨W, eW⟩ : ∃ W : ByteArray, (Go.Aq.strOf (List.replicate (30 : Int).toNat (0 : Int)) ++ (⟨#[119, 104, 97, 116, 32, 115, 116, 111, 111, 100, 32, 116, 104, 101, 114, 101]⟩ : ByteArray)) = W := ⟨_, rfl⟩
  have hW : W.size = 46 := by rw [← eW, app_size, size_strOf, List.length_replicate]; rfl
  obtain ⟨b, eb⟩ : ∃ b : List Int, List.replicate (1024 : Int).toNat (0 : Int) = b := ⟨_, rfl⟩
  have hb : b.length = 1024 := by rw [← eb, List.length_replicate]; rfl
  have h0 : okM (b, (0 : Int), []) := ⟨by show b.length ≤ _; omega, by simp⟩
  have w0 := wrM_ok (b, (0 : Int), []) 0 W h0 (mayM_iff.2 (by show 0 ≤ (0 : Int) ∧ 0 ≤ (W.size : Int) ∧ (W.size : Int) ≤ (b.length : Int) ∧ (0 : Int) ≤ (b.length : Int) - (W.size : Int); omega))
  have hz := zerQ_ok (wrM (b, (0 : Int), []) 0 W) n hn w0.1 (by rw [w0.2]; exact hb)
  have ht := not_top k a0 a1 n en hn W eW hW b eb hb
  generalize zerQ (wrM (b, (0 : Int), []) 0 W) n = g at ht hz
  unfold F_aqueductlaw15_DrvqNothing.S
  rw [ht]
  exact not_loop k hk fx a1 hlen n hn 20 0 k (by omega) (by omega) 0 (layQ n, ((0 : Int), true), ((0 : Int), true), ((0 : Int), true), (0 : Int), n, []) g ⟨rfl, rfl, by omega, by rw [if_pos (by omega)]; rfl, by show n = n - ((0 : Nat) : Int); omega, rfl, hz.1, hz.2, .inl rfl⟩
end Go.Proofs.Ytpfddjdkafjjfaa
