/- The law DrvqFull of its plain function. -/
import Derived.Test.YtpfddjdkafjjfaaFP15c
import Derived.Test.YtpfddjdkafjjfaaFP15f
namespace Go.Proofs.Ytpfddjdkafjjfaa
open Go.Aq Go.IntWalk
set_option linter.unusedVariables false
theorem max_len : maxLen = 9223372036854775807 := by decide
theorem bAnd_le (a : Int) (m : Nat) (hm : m < 1000000) : 0 ≤ bAnd .i64 a (m : Int) ∧ bAnd .i64 a (m : Int) ≤ m := by
  have e : (BitVec.ofInt 64 (m : Int)).toNat = m := natOf_ofInt .i64 m (by show m < 2 ^ 64; omega)
  have h : (BitVec.ofInt 64 a &&& BitVec.ofInt 64 (m : Int)).toNat ≤ m := by
    rw [BitVec.toNat_and, e]; exact Nat.and_le_right
  unfold bAnd
  rw [show IntKind.i64.bits = 64 from rfl, i64_in _ (by omega)]
  omega
theorem gNew_S (k : Nat) : F_gmem_New.S k 1024 = .ok (.inr ((0 : Int), (List.replicate (1024 : Int).toNat (0 : Int)), (0 : Int), [])) := by
  unfold F_gmem_New.S
  rw [O.cond_neg (by decide), O.cond_neg (by decide), O.chk_dec (by decide)]
theorem rNew_S (k : Nat) : F_aqueductref04_New.S k 1024 = .ok (.inr ((0 : Int), (Go.Aq.strOf (List.replicate (1024 : Int).toNat (0 : Int))), (0 : Int), [])) := by
  unfold F_aqueductref04_New.S
  rw [O.cond_neg (by decide), O.cond_neg (by decide), O.chk_dec (by decide)]
/-- Parts of one byte each. -/
def pL (kk : Nat) : List TP := (List.range kk).map fun j : Nat => ((600 : Int) + (j : Int), (1 : Int), false)
theorem pL_len (kk : Nat) : (pL kk).length = kk := by simp [pL]
theorem pL_succ (kk : Nat) : pL (kk + 1) = pL kk ++ [((600 : Int) + (kk : Int), (1 : Int), false)] := by simp [pL, List.range_succ]
theorem pL_ok (kk : Nat) (h : 1 ≤ kk ∧ kk ≤ 8) : OkP (pL kk) 1024 := by
  refine ⟨by rw [pL_len]; omega, by rw [pL_len]; omega, fun x hx => ?_, .inl fun x hx => ?_⟩
  · obtain ⟨j, hj, rfl⟩ := List.mem_map.1 hx
    have : j < kk := by simpa using hj
    exact ⟨by simp, mayM_iff.2 (by show 0 ≤ (600 : Int) + (j : Int) ∧ 0 ≤ (1 : Int) ∧ (1 : Int) ≤ ((1024 : Nat) : Int) ∧ (600 : Int) + (j : Int) ≤ ((1024 : Nat) : Int) - 1; omega)⟩
  · obtain ⟨j, hj, rfl⟩ := List.mem_map.1 hx
    rfl
/-- The ids that are out: the first ones. -/
def keysN (es : EI) (ids : Nat) : Prop := es.map (·.1) = (List.range ids).map fun m : Nat => (m : Int)
theorem keysN_len {es : EI} {ids : Nat} (h : keysN es ids) : es.length = ids := by
  have := congrArg List.length h
  simpa using this
theorem keysN_has {es : EI} {ids : Nat} (h : keysN es ids) (m : Nat) : mhas es (m : Int) = decide (m < ids) := by
  rw [Bool.eq_iff_iff, decide_eq_true_eq]
  have e : mhas es (m : Int) = true ↔ (m : Int) ∈ es.map (·.1) := by
    constructor
    · exact has_mem
    · intro hm
      obtain ⟨x, hx, he⟩ := List.mem_map.1 hm
      unfold mhas
      rw [List.any_eq_true]
      exact ⟨x, hx, by simpa using he⟩
  rw [e, h, List.mem_map]
  constructor
  · rintro ⟨x, hx, he⟩
    have : x < ids := by simpa using hx
    omega
  · intro hm
    exact ⟨m, by simpa using hm, rfl⟩
theorem keysN_least {es : EI} {ids : Nat} (h : keysN es ids) : leastN es = ids := least_is (fun m hm => by rw [keysN_has h]; simpa using hm) (by rw [keysN_has h]; simp)
theorem mput_newI : ∀ {es : EI} {k : Int} (v : Int), mhas es k = false → mput es k v = es ++ [(k, v)]
  | [], k, v, h => rfl
  | e :: es, k, v, h => by
    have he : ¬ e.1 = k := fun he => by simp [mhas, he] at h
    unfold mput
    rw [if_neg he, mput_newI v (by simpa [mhas, he] using h)]
    rfl
theorem keysN_put {es : EI} {ids : Nat} (h : keysN es ids) (v : Int) : keysN (mput es ((leastN es : Nat) : Int) v) (ids + 1) := by
  have hl := keysN_least h
  have hh : mhas es ((leastN es : Nat) : Int) = false := (least_spec es).2
  unfold keysN at h ⊢
  rw [mput_newI v hh, List.map_append, h, List.range_succ, List.map_append, hl]
  rfl
theorem keysN_ok {es : EI} {ids : Nat} (h : keysN es ids) (hi : ids ≤ 1000) : heldOk es = true := by
  unfold heldOk
  rw [Bool.and_eq_true, decide_eq_true_eq, List.all_eq_true]
  refine ⟨by rw [keysN_len h]; omega, fun e he => ?_⟩
  have : e.1 ∈ es.map (·.1) := List.mem_map.2 ⟨e, he, rfl⟩
  rw [h] at this
  obtain ⟨m, hm, e1⟩ := List.mem_map.1 this
  have hm : m < ids := by simpa using hm
  rw [← e1]
  simp [Lit.wf, IntKind.min, IntKind.max, IntKind.bits, IntKind.signed]
  omega
theorem keysN_held {es : EI} {ids : Nat} (h : keysN es ids) : (heldL es).length = ids := by
  unfold heldL
  rw [(sortI_perm _).length_eq, List.length_map, keysN_len h]
/-- The loop's state. -/
structure Ful (n : Int) (f : Int) (ids : Nat) (q : TV) (g : TM) : Prop where
  lay : q.1 = layQ n
  at_ : 0 ≤ q.2.1.1 ∧ q.2.1.1 < n
  free : q.2.2.2.2.2.1 = f
  fr : 0 ≤ f ∧ f ≤ n
  keys : keysN q.2.2.2.2.2.2 ids
  okg : okM g
  len : g.1.length = 1024
theorem full_loop (k : Nat) (hk : 400 ≤ k) (fx : F_aqueductlaw15_fixed.S k = .ok true) (a1 : List Int) (hlen : a1.length ≤ 9223372036854775807) (n : Int) (hn : 1 ≤ n ∧ n ≤ 8) : ∀ (m i j : Nat), i + m = 20 → m < j → ∀ (f : Int) (ids : Nat) (q : TV) (g : TM), ids ≤ i → Ful n f ids q g →
      F_aqueductlaw15_DrvqFull.l2 k a1 j f (ids : Int) (i : Int) q.1.1 q.1.2.1 q.1.2.2.1 q.1.2.2.2 q.2.1.1 q.2.1.2 q.2.2.1.1 q.2.2.1.2 q.2.2.2.1.1 q.2.2.2.1.2 q.2.2.2.2.1 q.2.2.2.2.2.1 g.2.1 q.2.2.2.2.2.2 g.1 g.2.2 = .ok true := by
    intro m
    induction m with
    | zero =>
      intro i j hi hj f ids q g hids hF
      obtain ⟨j, rfl⟩ : ∃ i, j = i + 1 := ⟨j - 1, by omega⟩
      show F_aqueductlaw15_DrvqFull.l2_b _ _ _ _ _ _ _ _ _ _ _ _ _ _ _ _ _ _ _ _ _ _ _ = _
      unfold F_aqueductlaw15_DrvqFull.l2_b
      by_cases h1 : (i : Int) < a1.length
      · rw [O.cond_pos h1, O.cond_neg (by omega), fx, O.bind_ok]
      · rw [O.cond_neg h1, fx, O.bind_ok]
    | succ m ih =>
      intro i j hi hj f ids q g hids hF
      obtain ⟨j, rfl⟩ : ∃ i, j = i + 1 := ⟨j - 1, by omega⟩
      show F_aqueductlaw15_DrvqFull.l2_b _ _ _ _ _ _ _ _ _ _ _ _ _ _ _ _ _ _ _ _ _ _ _ = _
      unfold F_aqueductlaw15_DrvqFull.l2_b
      by_cases h1 : (i : Int) < a1.length
      · rw [O.cond_pos h1, O.cond_pos (by omega), O.chk_dec (by omega), O.chk_dec (by omega)]
        have hx : 0 ≤ bAnd .i64 (gt (0 : Int) a1 (i : Int)) (3 : Int) ∧ bAnd .i64 (gt (0 : Int) a1 (i : Int)) (3 : Int) ≤ 3 := bAnd_le _ 3 (by decide)
        obtain ⟨kk, ek⟩ : ∃ kk : Nat, IntKind.i64.wrap ((1 : Int) + (bAnd .i64 (gt (0 : Int) a1 (i : Int)) (3 : Int))) = (kk : Int) := ⟨(1 + bAnd .i64 (gt (0 : Int) a1 (i : Int)) (3 : Int)).toNat, by rw [i64_in _ (by omega)]; omega⟩
        have hkk : 1 ≤ kk ∧ kk ≤ 4 := by rw [i64_in _ (by omega)] at ek; omega
        have hp := pL_ok kk (by omega)
        have hpl := pL_len kk
        have hfr := hF.fr
        have hat := hF.at_
        have l3 : ∀ (m2 t j2 : Nat), t + m2 = kk → m2 < j2 → F_aqueductlaw15_DrvqFull.l3 k a1 f (ids : Int) (i : Int) q.1.1 q.1.2.1 q.1.2.2.1 q.1.2.2.2 q.2.1.1 q.2.1.2 q.2.2.1.1 q.2.2.1.2 q.2.2.2.1.1 q.2.2.2.1.2 q.2.2.2.2.1 q.2.2.2.2.2.1 g.2.1 q.2.2.2.2.2.2 g.1 g.2.2 (F_aqueductlaw15_DrvqFull.l2 k a1 j) j2 (t : Int) (pL t) = .ok true := by
          intro m2
          induction m2 with
          | zero =>
            intro t j2 ht hj2
            obtain ⟨j2, rfl⟩ : ∃ i, j2 = i + 1 := ⟨j2 - 1, by omega⟩
            obtain rfl : t = kk := by omega
            show F_aqueductlaw15_DrvqFull.l3_b _ _ _ _ _ _ _ _ _ _ _ _ _ _ _ _ _ _ _ _ _ _ _ _ _ = _
            unfold F_aqueductlaw15_DrvqFull.l3_b
            rw [ek, O.cond_neg (by omega)]
            have eq' : ((q.1.1, q.1.2.1, q.1.2.2.1, q.1.2.2.2), (q.2.1.1, q.2.1.2), (q.2.2.1.1, q.2.2.1.2), (q.2.2.2.1.1, q.2.2.2.1.2), q.2.2.2.2.1, q.2.2.2.2.2.1, q.2.2.2.2.2.2) = q := rfl
            have eg' : (g.1, g.2.1, g.2.2) = g := rfl
            rw [eq', eg']
            by_cases hf : (t : Int) ≤ f
            · obtain ⟨z, hz, s', g', rfl, z1, z2, z3, z4⟩ := Post_yes k (by omega) (pL t) q g hF.okg (by rw [hF.len]; exact hp) (by rw [hpl, hF.free]; omega) (by rw [hF.lay]; exact ⟨hat.1, hat.2, by show n ≤ _; omega⟩) (by rw [keysN_len hF.keys]; omega)
              rw [hpl] at hz
              rw [hz, O.bind_ok]
              have kp := keysN_put hF.keys (t : Int)
              have hle := keysN_least hF.keys
              dsimp only
              rw [O.cond_neg (by rw [decide_eq_true hf]; simp), O.cond_pos rfl, O.cond_neg (by rw [hle]; simp), O.cond_neg (by simp), O.cond_pos rfl, hF.free, i64_in (f - (t : Int)) (by omega), O.cond_neg (by simp), keysN_ok kp (by omega), O.chk_true, keysN_held kp, i64_in ((ids : Int) + 1) (by omega), O.cond_neg (by omega), i64_in ((i : Int) + 1) (by omega)]
              have hF' : Ful n (f - (t : Int)) (ids + 1) (q.1, s', q.2.2.1, q.2.2.2.1, min (IntKind.i64.wrap (q.2.2.2.2.1 + (t : Int))) (IntKind.i64.wrap (2 * q.1.2.1)), f - (t : Int), mput q.2.2.2.2.2.2 ((leastN q.2.2.2.2.2.2 : Nat) : Int) (t : Int)) g' :=
                ⟨hF.lay, ⟨z1, by have := z2; rw [hF.lay] at this; exact this⟩, rfl, by omega, kp, z3, by rw [z4]; exact hF.len⟩
              exact ih (i + 1) j (by omega) (by omega) (f - (t : Int)) (ids + 1) _ g' (by omega) hF'
            · have hz := Post_no k (by omega) (pL t) q g hF.okg (by rw [hF.len]; exact hp) (by rw [hpl, hF.free]; omega)
              rw [hz, O.bind_ok]
              dsimp only
              rw [O.cond_neg (by rw [decide_eq_false hf]; simp), O.cond_neg (by simp), O.cond_pos (by simp), O.cond_neg (by simp), O.cond_neg (by simp), hF.free, O.cond_neg (by simp), keysN_ok hF.keys (by omega), O.chk_true, keysN_held hF.keys, O.cond_neg (by simp), i64_in ((i : Int) + 1) (by omega)]
              have := ih (i + 1) j (by omega) (by omega) f ids q g (by omega) hF
              rw [hF.free] at this
              exact this
          | succ m2 ih2 =>
            intro t j2 ht hj2
            obtain ⟨j2, rfl⟩ : ∃ i, j2 = i + 1 := ⟨j2 - 1, by omega⟩
            show F_aqueductlaw15_DrvqFull.l3_b _ _ _ _ _ _ _ _ _ _ _ _ _ _ _ _ _ _ _ _ _ _ _ _ _ = _
            unfold F_aqueductlaw15_DrvqFull.l3_b
            have hpt := pL_len t
            rw [ek, O.cond_pos (by omega), O.chk_dec (by rw [hpt]; simp; omega), i64_in ((600 : Int) + (t : Int)) (by omega), ← pL_succ, i64_in ((t : Int) + 1) (by omega)]
            exact ih2 (t + 1) j2 (by omega) (by omega)
        exact l3 kk 0 k (by omega) (by omega)
      · rw [O.cond_neg h1, fx, O.bind_ok]
theorem full_top (k : Nat) (a0 : Int) (a1 : List Int) (n : Int) (en : IntKind.i64.wrap ((1 : Int) + (bAnd .i64 a0 (7 : Int))) = n) (hn : 1 ≤ n ∧ n ≤ 8) (W : ByteArray) (eW : (Go.Aq.strOf (List.replicate (30 : Int).toNat (0 : Int)) ++ (⟨#[119, 104, 97, 116, 32, 115, 116, 111, 111, 100, 32, 116, 104, 101, 114, 101]⟩ : ByteArray)) = W) (hW : W.size = 46)
    (b : List Int) (eb : List.replicate (1024 : Int).toNat (0 : Int) = b) (hb : b.length = 1024) (D0 : O Bool) (D2) :
    F_aqueductlaw15_DrvqFull.top k a0 a1 D0 D2 = D2 n 0 0 0 n 512 516 0 true 0 true 0 true 0 n (zerQ (wrM (b, (0 : Int), []) 0 W) n).2.1 [] (zerQ (wrM (b, (0 : Int), []) 0 W) n).1 (zerQ (wrM (b, (0 : Int), []) 0 W) n).2.2 := by
  have hcs : ((ByteArray.size (Go.Aq.strOf (List.replicate (30 : Int).toNat (0 : Int))) + ByteArray.size (⟨#[119, 104, 97, 116, 32, 115, 116, 111, 111, 100, 32, 116, 104, 101, 114, 101]⟩ : ByteArray) : Nat) : Int) ≤ 9223372036854775807 := by rw [size_strOf, List.length_replicate]; decide
  have h0 : okM (b, (0 : Int), []) := ⟨by show b.length ≤ _; omega, by simp⟩
  have w0 := wrM_ok (b, (0 : Int), []) 0 W h0 (mayM_iff.2 (by show 0 ≤ (0 : Int) ∧ 0 ≤ (W.size : Int) ∧ (W.size : Int) ≤ (b.length : Int) ∧ (0 : Int) ≤ (b.length : Int) - (W.size : Int); omega))
  have hl1 : (wrM (b, (0 : Int), []) 0 W).1.length = 1024 := by rw [w0.2]; exact hb
  have hsb : (Go.Aq.strOf b).size = 1024 := by rw [size_strOf]; exact hb
  have p0 := strOf_put b 0 W (by omega)
  rw [Int.toNat_zero] at p0
  have x1 := ext_le (Go.Aq.strOf b) 0 0
  have x2 := ext_le (Go.Aq.strOf b) ((0 : Int) + (W.size : Int)).toNat (Go.Aq.strOf b).size
  unfold F_aqueductlaw15_DrvqFull.top
  rw [en, show max (64 : Int) (min (1024 : Int) (2048 : Int)) = 1024 by decide, gNew_S, O.sum_inr, rNew_S, O.sum_inr, O.cond_false, O.cond_false, O.cond_neg (by simp), O.cond_neg (by simp), O.chk_dec (by decide), O.chk_dec hcs, eW, eb]
  dsimp only
  rw [Write_S k 0 W (b, (0 : Int), []) h0, O.bind_ok, if_pos (mayM_iff.2 (by show 0 ≤ (0 : Int) ∧ 0 ≤ (W.size : Int) ∧ (W.size : Int) ≤ (b.length : Int) ∧ (0 : Int) ≤ (b.length : Int) - (W.size : Int); omega)), O.cond_neg (by simp), rMay_S k 0 _ _ (by show (Go.Aq.strOf b).size ≤ _; omega), O.bind_ok, mayM_iff.2 (by show 0 ≤ (0 : Int) ∧ 0 ≤ (W.size : Int) ∧ (W.size : Int) ≤ ((Go.Aq.strOf b).size : Int) ∧ (0 : Int) ≤ ((Go.Aq.strOf b).size : Int) - (W.size : Int); omega), Bool.not_true, O.cond_false, note_S' k _ _ _ _ _ (by simp), O.bind_ok]
  dsimp only
  rw [i64_in ((0 : Int) + _) (by omega), O.chk_dec (by omega), O.chk_dec (by omega), O.chk_dec (by omega), O.chk_dec (by rw [app_size]; omega), p0, O.cond_false]
  obtain ⟨R3, q3, hq3, hR3⟩ := rNew15 k n hn (wrM (b, (0 : Int), []) 0 W) w0.1 hl1 0 (note1 0 [] 0 (W.size : Int)) (by have := note1_len 0 [] 0 (W.size : Int); simp at this ⊢; omega)
  have hz := zerQ_ok (wrM (b, (0 : Int), []) 0 W) n hn w0.1 hl1
  rw [show ((0 : Int), n, (512 : Int), (516 : Int)) = layQ n from rfl, drvNew_S k n hn _ w0.1 hl1, O.sum_inr]
  rw [show putAt b 0 (bytesOf W) = (wrM (b, (0 : Int), []) 0 W).1 from rfl, hq3, O.sum_inr, O.cond_pos rfl, O.cond_pos rfl]
  dsimp only
  rw [hR3, decide_eq_true rfl, Bool.not_true, O.cond_false, O.cond_false]
  exact rfl
theorem Pure.DrvqFull : ∀ (a0 : Int) (a1 : List Int), (Lit.int .i64 a0).wf = true → okS (.row false 3 [.int .i64]) a1 → ∃ k, F_aqueductlaw15_DrvqFull.S k a0 a1 = .ok true := by
  intro a0 a1 _ h1
  have hlen : a1.length ≤ maxLen := h1.1
  rw [max_len] at hlen
  obtain ⟨k, hk, fx⟩ : ∃ k : Nat, 400 ≤ k ∧ F_aqueductlaw15_fixed.S k = .ok true := ⟨400 + 60, by omega, fixed15 400⟩
  refine ⟨k, ?_⟩
  have hN : 0 ≤ bAnd .i64 a0 (7 : Int) ∧ bAnd .i64 a0 (7 : Int) ≤ 7 := bAnd_le a0 7 (by decide)
  obtain ⟨n, en⟩ : ∃ n : Int, IntKind.i64.wrap ((1 : Int) + (bAnd .i64 a0 (7 : Int))) = n := ⟨_, rfl⟩
  have hn : 1 ≤ n ∧ n ≤ 8 := by rw [i64_in _ (by omega)] at en; omega
  obtain ⟨W, eW⟩ : ∃ W : ByteArray, (Go.Aq.strOf (List.replicate (30 : Int).toNat (0 : Int)) ++ (⟨#[119, 104, 97, 116, 32, 115, 116, 111, 111, 100, 32, 116, 104, 101, 114, 101]⟩ : ByteArray)) = W := ⟨_, rfl⟩
  have hW : W.size = 46 := by rw [← eW, app_size, size_strOf, List.length_replicate]; rfl
  obtain ⟨b, eb⟩ : ∃ b : List Int, List.replicate (1024 : Int).toNat (0 : Int) = b := ⟨_, rfl⟩
  have hb : b.length = 1024 := by rw [← eb, List.length_replicate]; rfl
  have h0 : okM (b, (0 : Int), []) := ⟨by show b.length ≤ _; omega, by simp⟩
  have w0 := wrM_ok (b, (0 : Int), []) 0 W h0 (mayM_iff.2 (by show 0 ≤ (0 : Int) ∧ 0 ≤ (W.size : Int) ∧ (W.size : Int) ≤ (b.length : Int) ∧ (0 : Int) ≤ (b.length : Int) - (W.size : Int); omega))
  have hz := zerQ_ok (wrM (b, (0 : Int), []) 0 W) n hn w0.1 (by rw [w0.2]; exact hb)
  have ht := full_top k a0 a1 n en hn W eW hW b eb hb
  generalize zerQ (wrM (b, (0 : Int), []) 0 W) n = g at ht hz
  unfold F_aqueductlaw15_DrvqFull.S
  rw [ht]
  exact full_loop k hk fx a1 hlen n hn 20 0 k (by omega) (by omega) n 0 (layQ n, ((0 : Int), true), ((0 : Int), true), ((0 : Int), true), (0 : Int), n, []) g (Nat.zero_le _) ⟨rfl, ⟨by show (0 : Int) ≤ 0; omega, by show (0 : Int) < n; omega⟩, rfl, by omega, rfl, hz.1, hz.2⟩
end Go.Proofs.Ytpfddjdkafjjfaa
