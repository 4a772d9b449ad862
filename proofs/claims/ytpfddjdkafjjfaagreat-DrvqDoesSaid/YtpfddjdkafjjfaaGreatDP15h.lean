/- Layer 15, plain: what Post and Reap leave, whatever they are asked; used. -/
import Derived.Test.YtpfddjdkafjjfaaGreatDP15e
namespace Go.Proofs.YtpfddjdkafjjfaaGreat
open Go.Aq Go.IntWalk
set_option linter.unusedVariables false
/-! ### Ids that are held -/
def sm : EI → Int
  | [] => 0
  | e :: es => e.2 + sm es
theorem sm_app : ∀ (a b : EI), sm (a ++ b) = sm a + sm b
  | [], b => by simp [sm]
  | e :: a, b => by simp [sm, sm_app a b, Int.add_assoc]
theorem len_sm : ∀ {es : EI}, (∀ e ∈ es, 1 ≤ e.2) → (es.length : Int) ≤ sm es
  | [], _ => by simp [sm]
  | e :: es, h => by
    have h1 := h e (by simp)
    have h2 := len_sm (es := es) fun x hx => h x (by simp [hx])
    simp only [sm, List.length_cons]
    omega
theorem mput_newI : ∀ {es : EI} {k : Int} (v : Int), mhas es k = false → mput es k v = es ++ [(k, v)]
  | [], k, v, h => rfl
  | e :: es, k, v, h => by
    have he : ¬ e.1 = k := fun he => by simp [mhas, he] at h
    unfold mput
    rw [if_neg he, mput_newI v (by simpa [mhas, he] using h)]
    rfl
theorem mhas_iff {es : EI} {k : Int} : mhas es k = true ↔ k ∈ es.map (·.1) := by
  constructor
  · exact has_mem
  · intro hm
    obtain ⟨x, hx, he⟩ := List.mem_map.1 hm
    unfold mhas
    rw [List.any_eq_true]
    exact ⟨x, hx, by simpa using he⟩
theorem mdel_facts : ∀ (es : EI) (k : Int), mhas es k = true → (mdel es k).Sublist es ∧ (mdel es k).length + 1 = es.length ∧ sm (mdel es k) + mget 0 es k = sm es ∧ (k, mget 0 es k) ∈ es
  | [], k, h => by simp [mhas] at h
  | e :: es, k, h => by
    by_cases he : e.1 = k
    · have e1 : mdel (e :: es) k = es := by simp [mdel, he]
      have e2 : mget 0 (e :: es) k = e.2 := by simp [mget, he]
      rw [e1, e2]
      refine ⟨List.sublist_cons_self _ _, rfl, by simp only [sm]; omega, ?_⟩
      rw [← he]; simp
    · have h' : mhas es k = true := by simpa [mhas, he] using h
      obtain ⟨a, b, c, d⟩ := mdel_facts es k h'
      have e1 : mdel (e :: es) k = e :: mdel es k := by simp [mdel, he]
      have e2 : mget 0 (e :: es) k = mget 0 es k := by simp [mget, he]
      rw [e1, e2]
      exact ⟨a.cons_cons e, by simp [b], by simp only [sm]; omega, by simp [d]⟩
theorem heldL_len (es : EI) : (heldL es).length = es.length := by
  unfold heldL
  rw [(sortI_perm _).length_eq, List.length_map]
theorem heldL_mem (es : EI) (x : Int) : x ∈ heldL es ↔ mhas es x = true := by
  unfold heldL
  rw [(sortI_perm _).mem_iff, mhas_iff]
/-! ### A queue among its calls -/
structure RI (L : LAY) (len : Nat) (q : TV) (g : TM) : Prop where
  lay : q.1 = L
  nx : 0 ≤ q.2.1.1 ∧ q.2.1.1 < L.2.1
  bk : 0 ≤ q.2.2.1.1 ∧ q.2.2.1.1 < L.2.1
  fr : 0 ≤ q.2.2.2.2.2.1
  sum : q.2.2.2.2.2.1 + sm q.2.2.2.2.2.2 = L.2.1
  vals : ∀ e ∈ q.2.2.2.2.2.2, 1 ≤ e.2
  keys : (q.2.2.2.2.2.2.map (·.1)).Nodup
  kin : ∀ e ∈ q.2.2.2.2.2.2, 0 ≤ e.1 ∧ e.1 ≤ 40000
  okg : okM g
  len : g.1.length = len
theorem RI.ids {L : LAY} {len : Nat} {q : TV} {g : TM} (h : RI L len q g) : (q.2.2.2.2.2.2.length : Int) ≤ L.2.1 - q.2.2.2.2.2.1 := by
  have := len_sm h.vals; have := h.sum; omega
theorem RI.held {L : LAY} {len : Nat} {q : TV} {g : TM} (h : RI L len q g) (hs : L.2.1 ≤ 32768) : heldOk q.2.2.2.2.2.2 = true := by
  have h1 := h.ids; have h2 := h.fr
  unfold heldOk
  rw [Bool.and_eq_true, decide_eq_true_eq, List.all_eq_true]
  refine ⟨by omega, fun e he => ?_⟩
  have := h.kin e he
  simp [Lit.wf, IntKind.min, IntKind.max, IntKind.bits, IntKind.signed]
  omega
theorem may_any (k : Nat) (hk : 70 ≤ k) (p : List TP) (q : TV) (g : TM) (hg : okM g) : ∃ c, F_drvq_Queue_may.S k p q g = .ok (c, (q, g)) ∧ (c ≠ 0 ∨ (c = 0 ∧ 1 ≤ p.length ∧ p.length ≤ 64 ∧ (p.length : Int) ≤ q.2.2.2.2.2.1)) := by
  unfold F_drvq_Queue_may.S F_drvq_Queue_may.top
  by_cases a1 : (p.length : Int) = 0
  · rw [O.cond_pos a1]; exact ⟨_, rfl, .inl (by decide)⟩
  by_cases a2 : (p.length : Int) > 64
  · rw [O.cond_neg a1, O.cond_pos a2]; exact ⟨_, rfl, .inl (by decide)⟩
  rw [O.cond_neg a1, O.cond_neg a2]
  have lp : ∀ (m i j : Nat), i + m = p.length → m < j → ∃ c, F_drvq_Queue_may.l0 k p q g j (i : Int) = .ok (c, (q, g)) ∧ (c ≠ 0 ∨ (c = 0 ∧ 1 ≤ p.length ∧ p.length ≤ 64 ∧ (p.length : Int) ≤ q.2.2.2.2.2.1)) := by
    intro m
    induction m with
    | zero =>
      intro i j hi hj
      obtain ⟨j, rfl⟩ : ∃ i, j = i + 1 := ⟨j - 1, by omega⟩
      show ∃ c, F_drvq_Queue_may.l0_b _ _ _ _ _ _ = .ok (c, (q, g)) ∧ _
      unfold F_drvq_Queue_may.l0_b
      rw [O.cond_neg (by omega), O.cond_dec]
      split
      · exact ⟨_, rfl, .inl (by decide)⟩
      · exact ⟨_, rfl, .inr ⟨rfl, by omega, by omega, by omega⟩⟩
    | succ m ih =>
      intro i j hi hj
      obtain ⟨j, rfl⟩ : ∃ i, j = i + 1 := ⟨j - 1, by omega⟩
      obtain ⟨c, hc, hcc⟩ := ih (i + 1) j (by omega) (by omega)
      have hlt : i < p.length := by omega
      show ∃ c, F_drvq_Queue_may.l0_b _ _ _ _ _ _ = .ok (c, (q, g)) ∧ _
      unfold F_drvq_Queue_may.l0_b
      rw [O.cond_pos (by omega), O.chk_dec (by omega), O.chk_dec (by omega), O.cond_dec]
      split
      · exact ⟨_, rfl, .inl (by decide)⟩
      rw [May_S k _ _ g hg.1, O.bind_ok]
      cases mayM (gt ((0 : Int), (0 : Int), false) p (i : Int)).1 (gt ((0 : Int), (0 : Int), false) p (i : Int)).2.1 g.1.length with
      | false => rw [Bool.not_false, O.cond_true]; exact ⟨_, rfl, .inl (by decide)⟩
      | true =>
        have e1 : IntKind.i64.wrap ((i : Int) + 1) = ((i + 1 : Nat) : Int) := i64_in _ (by omega)
        rw [Bool.not_true, O.cond_false, e1]
        by_cases h0 : i = 0
        · subst h0
          rw [O.cond_neg (by omega)]
          exact ⟨c, hc, hcc⟩
        · have e3 : IntKind.i64.wrap ((i : Int) - 1) = ((i - 1 : Nat) : Int) := by rw [i64_in _ (by omega)]; omega
          rw [O.cond_pos (by omega), e3, O.chk_dec (by omega), O.chk_dec (by omega)]
          cases (gt ((0 : Int), (0 : Int), false) p ((i - 1 : Nat) : Int)).2.2 with
          | false => rw [O.cond_false]; exact ⟨c, hc, hcc⟩
          | true =>
            rw [O.cond_true]
            cases (gt ((0 : Int), (0 : Int), false) p (i : Int)).2.2 with
            | false => rw [Bool.not_false, O.cond_true]; exact ⟨_, rfl, .inl (by decide)⟩
            | true => rw [Bool.not_true, O.cond_false]; exact ⟨c, hc, hcc⟩
  exact lp p.length 0 k (by omega) (by omega)
/-- A posting, where may says yes. -/
theorem Post_may (k : Nat) (hk : 70 ≤ k) (p : List TP) (q : TV) (g : TM) (hg : okM g) (hm : F_drvq_Queue_may.S k p q g = .ok (0, (q, g))) (hlo : 1 ≤ p.length) (hhi : p.length ≤ 64) (hq : 0 ≤ q.2.1.1 ∧ q.2.1.1 < q.1.2.1 ∧ q.1.2.1 ≤ 32768) (he : q.2.2.2.2.2.2.length ≤ 1000000) :
    ∃ z, F_drvq_Queue_Post.S k p q g = .ok z ∧ PostR q p g.1.length z := by
  unfold F_drvq_Queue_Post.S F_drvq_Queue_Post.top
  rw [hm, O.bind_ok, O.cond_neg (by simp), O.twice_eq, O.chk_dec he]
  have lp : ∀ (m i j : Nat) (f : Int) (s : Int × Bool) (g' : TM), i + m = p.length → m < j → 0 ≤ s.1 ∧ s.1 < q.1.2.1 → okM g' → g'.1.length = g.1.length →
      ∃ z, F_drvq_Queue_Post.l1 k p (0, q, g) j f (i : Int) s.1 s.2 g'.1 g'.2.2 g'.2.1 = .ok z ∧ PostR q p g.1.length z := by
    intro m
    induction m with
    | zero =>
      intro i j f s g' hi hj hs hg' hl
      obtain ⟨j, rfl⟩ : ∃ i, j = i + 1 := ⟨j - 1, by omega⟩
      show ∃ z, F_drvq_Queue_Post.l1_b _ _ _ _ _ _ _ _ _ _ _ _ = .ok z ∧ _
      unfold F_drvq_Queue_Post.l1_b
      obtain ⟨r, hr, r1, r2⟩ := Store_sat k (by omega) (IntKind.i64.wrap ((IntKind.i64.wrap (q.1.1 + (IntKind.i64.wrap ((16 : Int) * q.2.1.1)))) + (14 : Int))) 2 (by omega) f g' hg'
      rw [O.cond_neg (by omega)]
      have hr' : F_gmem_Memory_Store.S k (IntKind.i64.wrap ((IntKind.i64.wrap (q.1.1 + (IntKind.i64.wrap ((16 : Int) * q.2.1.1)))) + (14 : Int))) (2 : Int) (IntKind.u64.wrap f) (g'.1, g'.2.1, g'.2.2) = .ok r := hr
      rw [hr', O.bind_ok]
      exact ⟨_, rfl, s, r.2, rfl, hs.1, hs.2, r1, r2.trans hl⟩
    | succ m ih =>
      intro i j f s g' hi hj hs hg' hl
      obtain ⟨j, rfl⟩ : ∃ i, j = i + 1 := ⟨j - 1, by omega⟩
      have hlt : i < p.length := by omega
      have nx := Next_S k s q.1.2.1 (by omega)
      have ni := nextP_in s q.1.2.1 hs
      have j9 : ∀ fl : Int, ∃ z, F_drvq_Queue_Post.j9 k p (0, q, g) f (i : Int) s.1 s.2 g'.1 g'.2.2 g'.2.1 (F_drvq_Queue_Post.l1 k p (0, q, g) j) fl = .ok z ∧ PostR q p g.1.length z := by
        intro fl
        show ∃ z, F_drvq_Queue_Post.j9_b _ _ _ _ _ _ _ _ _ _ _ _ = .ok z ∧ _
        unfold F_drvq_Queue_Post.j9_b
        obtain ⟨f1, hf1⟩ := Mark_ok k fl s.2 false
        obtain ⟨a, ha, a1, a2⟩ := Store_sat k (by omega) (IntKind.i64.wrap (q.1.1 + (IntKind.i64.wrap ((16 : Int) * s.1)))) 8 (by omega) (gt ((0 : Int), (0 : Int), false) p (i : Int)).1 g' hg'
        have ha' : F_gmem_Memory_Store.S k (IntKind.i64.wrap (q.1.1 + (IntKind.i64.wrap ((16 : Int) * s.1)))) (8 : Int) (IntKind.u64.wrap (gt ((0 : Int), (0 : Int), false) p (i : Int)).1) (g'.1, g'.2.1, g'.2.2) = .ok a := ha
        obtain ⟨b, hb, b1, b2⟩ := Store_sat k (by omega) (IntKind.i64.wrap ((IntKind.i64.wrap (q.1.1 + (IntKind.i64.wrap ((16 : Int) * s.1)))) + (8 : Int))) 4 (by omega) (gt ((0 : Int), (0 : Int), false) p (i : Int)).2.1 a.2 a1
        have hb' : F_gmem_Memory_Store.S k (IntKind.i64.wrap ((IntKind.i64.wrap (q.1.1 + (IntKind.i64.wrap ((16 : Int) * s.1)))) + (8 : Int))) (4 : Int) (IntKind.u64.wrap (gt ((0 : Int), (0 : Int), false) p (i : Int)).2.1) a.2 = .ok b := hb
        obtain ⟨c, hc, c1, c2⟩ := Store_sat k (by omega) (IntKind.i64.wrap ((IntKind.i64.wrap (q.1.1 + (IntKind.i64.wrap ((16 : Int) * s.1)))) + (12 : Int))) 2 (by omega) ((leastN q.2.2.2.2.2.2 : Nat) : Int) b.2 b1
        have hc' : F_gmem_Memory_Store.S k (IntKind.i64.wrap ((IntKind.i64.wrap (q.1.1 + (IntKind.i64.wrap ((16 : Int) * s.1)))) + (12 : Int))) (2 : Int) (IntKind.u64.wrap ((leastN q.2.2.2.2.2.2 : Nat) : Int)) b.2 = .ok c := hc
        rw [hf1, O.bind_ok, ha', O.bind_ok, hb', O.bind_ok, hc', O.bind_ok, i64_in ((i : Int) + 1) (by omega)]
        by_cases h0 : (i : Int) = 0
        · rw [O.cond_pos h0, show ((s.1, s.2) : Int × Bool) = s from rfl, nx, O.bind_ok]
          exact ih (i + 1) j f1 (nextP s q.1.2.1) c.2 (by omega) (by omega) ni c1 (by omega)
        · obtain ⟨d, hd, d1, d2⟩ := Store_sat k (by omega) (IntKind.i64.wrap ((IntKind.i64.wrap (q.1.1 + (IntKind.i64.wrap ((16 : Int) * s.1)))) + (14 : Int))) 2 (by omega) f1 c.2 c1
          have hd' : F_gmem_Memory_Store.S k (IntKind.i64.wrap ((IntKind.i64.wrap (q.1.1 + (IntKind.i64.wrap ((16 : Int) * s.1)))) + (14 : Int))) (2 : Int) (IntKind.u64.wrap f1) c.2 = .ok d := hd
          rw [O.cond_neg h0, hd', O.bind_ok, show ((s.1, s.2) : Int × Bool) = s from rfl, nx, O.bind_ok]
          exact ih (i + 1) j f (nextP s q.1.2.1) d.2 (by omega) (by omega) ni d1 (by omega)
      have j8 : ∀ fl : Int, ∃ z, F_drvq_Queue_Post.j8 k p (0, q, g) f (i : Int) s.1 s.2 g'.1 g'.2.2 g'.2.1 (F_drvq_Queue_Post.l1 k p (0, q, g) j) fl = .ok z ∧ PostR q p g.1.length z := by
        intro fl
        show ∃ z, F_drvq_Queue_Post.j8_b _ _ _ _ _ _ _ _ _ _ _ _ _ = .ok z ∧ _
        unfold F_drvq_Queue_Post.j8_b
        cases (gt ((0 : Int), (0 : Int), false) p (i : Int)).2.2 with
        | true => rw [O.cond_true]; exact j9 _
        | false => rw [O.cond_false]; exact j9 _
      show ∃ z, F_drvq_Queue_Post.l1_b _ _ _ _ _ _ _ _ _ _ _ _ = .ok z ∧ _
      unfold F_drvq_Queue_Post.l1_b
      rw [O.cond_pos (by omega), O.chk_dec (by omega), O.chk_dec (by omega), O.cond_dec]
      split
      · exact j8 1
      · exact j8 0
  exact lp p.length 0 k 0 q.2.1 g (by omega) (by omega) ⟨hq.1, hq.2.1⟩ hg rfl

/-- Whatever is posted. -/
theorem Post_any (k : Nat) (hk : 70 ≤ k) {L : LAY} {len : Nat} (hs : L.2.1 ≤ 32768) (p : List TP) (q : TV) (g : TM) (h : RI L len q g) :
    ∃ r, F_drvq_Queue_Post.S k p q g = .ok r ∧ ((r.1.2 ≠ 0 ∧ r.1.1 = 0 ∧ r.2 = (q, g)) ∨
      (r.1.2 = 0 ∧ RI L len r.2.1 r.2.2 ∧ r.2.1.2.2.2.2.2.1 = IntKind.i64.wrap (q.2.2.2.2.2.1 - (p.length : Int)) ∧ p.length ≤ 64 ∧ r.2.1.2.2.2.2.2.2.length = q.2.2.2.2.2.2.length + 1 ∧ 0 ≤ r.1.1 ∧ r.1.1 < L.2.1)) := by
  have h1 := h.ids; have h2 := h.fr; have hlay := h.lay; have hnx := h.nx
  obtain ⟨c, hm, hc⟩ := may_any k hk p q g h.okg
  by_cases hc0 : c = 0
  · subst hc0
    obtain ⟨_, c1, c2, c3⟩ := hc.resolve_left (by simp)
    obtain ⟨z, hz, s', g', rfl, s1, s2, g1, g2⟩ := Post_may k hk p q g h.okg hm c1 c2 (by rw [hlay]; omega) (by omega)
    have hls := least_spec q.2.2.2.2.2.2
    have hle := held_le q.2.2.2.2.2.2 (leastN q.2.2.2.2.2.2) hls.1
    have hput := mput_newI (p.length : Int) hls.2
    have hfree : IntKind.i64.wrap (q.2.2.2.2.2.1 - (p.length : Int)) = q.2.2.2.2.2.1 - (p.length : Int) := i64_in _ (by omega)
    refine ⟨_, hz, .inr ⟨rfl, ⟨hlay, ?_, h.bk, ?_, ?_, ?_, ?_, ?_, g1, g2.trans h.len⟩, rfl, c2, ?_, ?_, ?_⟩⟩
    · rw [hlay] at s2; exact ⟨s1, s2⟩
    · show 0 ≤ IntKind.i64.wrap (q.2.2.2.2.2.1 - (p.length : Int))
      rw [hfree]; omega
    · show IntKind.i64.wrap (q.2.2.2.2.2.1 - (p.length : Int)) + sm (mput _ _ _) = _
      rw [hput, hfree, sm_app]
      have := h.sum
      simp only [sm]; omega
    · show ∀ e ∈ mput _ _ _, 1 ≤ e.2
      rw [hput]
      intro e he
      rcases List.mem_append.1 he with he | he
      · exact h.vals e he
      · simp only [List.mem_singleton] at he; subst he; show 1 ≤ (p.length : Int); omega
    · show ((mput _ _ _).map (·.1)).Nodup
      rw [hput, List.map_append, List.nodup_append]
      refine ⟨h.keys, by simp, fun a ha b hb e => ?_⟩
      simp only [List.map_cons, List.map_nil, List.mem_singleton] at hb
      subst hb; subst e
      rw [← mhas_iff] at ha
      rw [hls.2] at ha; cases ha
    · show ∀ e ∈ mput _ _ _, 0 ≤ e.1 ∧ e.1 ≤ 40000
      rw [hput]
      intro e he
      rcases List.mem_append.1 he with he | he
      · exact h.kin e he
      · simp only [List.mem_singleton] at he; subst he; show 0 ≤ ((leastN _ : Nat) : Int) ∧ ((leastN _ : Nat) : Int) ≤ 40000; omega
    · show (mput _ _ _).length = _
      rw [hput, List.length_append]; rfl
    · show 0 ≤ ((leastN _ : Nat) : Int); omega
    · show ((leastN q.2.2.2.2.2.2 : Nat) : Int) < L.2.1; omega
  · refine ⟨(((0 : Int), c), (q, g)), ?_, .inl ⟨hc0, rfl, rfl⟩⟩
    unfold F_drvq_Queue_Post.S F_drvq_Queue_Post.top
    rw [hm, O.bind_ok, O.cond_pos hc0]
/-! ### Reap -/
theorem Used_any (k : Nat) (x : Int) (w : Bool) : ∃ b, F_desc_Used.S k x w = .ok b := by
  have : ∃ n, F_desc_says.S k x w = .ok n := by
    unfold F_desc_says.S
    simp only [O.cond_dec]
    repeat' split
    all_goals exact ⟨_, rfl⟩
  obtain ⟨n, hn⟩ := this
  unfold F_desc_Used.S
  rw [hn, O.bind_ok]
  exact ⟨_, rfl⟩
theorem Next_g (k : Nat) (s : Int × Bool) (n sz : Int) (h : 0 ≤ s.1 ∧ s.1 < sz ∧ sz ≤ 32768) (hn : 0 ≤ n ∧ n ≤ sz) : ∃ s', F_spot_Next.S k s n sz = .ok (s', 0) ∧ 0 ≤ s'.1 ∧ s'.1 < sz := by
  unfold F_spot_Next.S
  have hc : F_spot_Check.S k s sz = .ok 0 := by
    unfold F_spot_Check.S
    rw [O.cond_neg (by omega), O.cond_neg (by omega), O.cond_neg (by omega), O.cond_neg (by omega)]
  rw [hc, O.bind_ok, O.cond_neg (by simp), O.cond_neg (by omega), O.cond_neg (by omega), i64_in (s.1 + n) (by omega)]
  by_cases h1 : s.1 + n ≥ sz
  · rw [O.cond_pos h1, i64_in _ (by omega)]
    exact ⟨_, rfl, by show 0 ≤ s.1 + n - sz; omega, by show s.1 + n - sz < sz; omega⟩
  · rw [O.cond_neg h1]
    exact ⟨_, rfl, by show 0 ≤ s.1 + n; omega, by show s.1 + n < sz; omega⟩
theorem Reap_any (k : Nat) (hk : 9 ≤ k) {L : LAY} {len : Nat} (hl : len ≤ 1048576) (hL : LayIn L len) (q : TV) (g : TM) (h : RI L len q g) :
    ∃ r, F_drvq_Queue_Reap.S k q g = .ok r ∧ r.2.2.1 = g.1 ∧ RI L len r.2.1 r.2.2 ∧
      ((r.1.2.2.1 = false ∧ r.2.1 = q) ∨ (r.1.2.2.1 = true ∧ r.1.2.2.2 = 0 ∧ mhas q.2.2.2.2.2.2 r.1.1 = true ∧ r.2.1.2.2.2.2.2.2.length + 1 = q.2.2.2.2.2.2.length)) := by
  have hlay := h.lay; have hbk := h.bk; have s1 := hL.sz; have s2 := hL.r; have hlen := h.len; have hokg := h.okg
  have ea : IntKind.i64.wrap (q.1.1 + (IntKind.i64.wrap ((16 : Int) * q.2.2.1.1))) = L.1 + 16 * q.2.2.1.1 := by
    rw [hlay, i64_in ((16 : Int) * q.2.2.1.1) (by omega), i64_in _ (by omega)]
  have hin : 0 ≤ L.1 + 16 * q.2.2.1.1 ∧ L.1 + 16 * q.2.2.1.1 + 16 ≤ (g.1.length : Int) := by rw [hlen]; omega
  have es : (Go.Aq.strOf (sub g.1 (L.1 + 16 * q.2.2.1.1) 16)).size = 16 := by rw [size_strOf, sub_len _ _ _ (by omega)]; rfl
  unfold F_drvq_Queue_Reap.S
  rw [ea, Read_S k _ 16 g hokg, if_neg (by omega), if_pos (mayM_iff.2 (by omega)), O.bind_ok]
  dsimp only
  rw [Parse_S k hk _ es, O.bind_ok]
  dsimp only
  have hro := rdM_ok g (L.1 + 16 * q.2.2.1.1) 16 hokg
  generalize descP (Go.Aq.strOf (sub g.1 (L.1 + 16 * q.2.2.1.1) 16)) = d
  obtain ⟨u, hu⟩ := Used_any k d.2.2.2 q.2.2.1.2
  have hRI : RI L len q (rdM g (L.1 + 16 * q.2.2.1.1) 16) := ⟨h.lay, h.nx, h.bk, h.fr, h.sum, h.vals, h.keys, h.kin, hro.1, by rw [hro.2]; exact hlen⟩
  rw [hu, O.bind_ok]
  cases u with
  | false => rw [Bool.not_false, O.cond_true]; exact ⟨_, rfl, hro.2, hRI, .inl ⟨rfl, rfl⟩⟩
  | true =>
    rw [Bool.not_true, O.cond_false]
    cases hm : mhas q.2.2.2.2.2.2 d.2.2.1 with
    | false => rw [Bool.not_false, O.cond_true]; exact ⟨_, rfl, hro.2, hRI, .inl ⟨rfl, rfl⟩⟩
    | true =>
      rw [Bool.not_true, O.cond_false]
      obtain ⟨f1, f2, f3, f4⟩ := mdel_facts _ _ hm
      have v1 := h.vals _ f4
      have v1 : 1 ≤ mget 0 q.2.2.2.2.2.2 d.2.2.1 := v1
      have v2 : ∀ e ∈ mdel q.2.2.2.2.2.2 d.2.2.1, 1 ≤ e.2 := fun e he => h.vals e (f1.subset he)
      have v3 := len_sm v2
      have hsum := h.sum
      have hfr := h.fr
      obtain ⟨s', hs', n1, n2⟩ := Next_g k q.2.2.1 (mget 0 q.2.2.2.2.2.2 d.2.2.1) L.2.1 (by omega) (by omega)
      rw [hlay, hs', O.bind_ok]
      have hw : IntKind.i64.wrap (q.2.2.2.2.2.1 + mget 0 q.2.2.2.2.2.2 d.2.2.1) = q.2.2.2.2.2.1 + mget 0 q.2.2.2.2.2.2 d.2.2.1 := i64_in _ (by omega)
      refine ⟨_, rfl, hro.2, ⟨rfl, h.nx, ⟨n1, n2⟩, ?_, ?_, v2, ?_, fun e he => h.kin e (f1.subset he), hro.1, by rw [hro.2]; exact hlen⟩, .inr ⟨rfl, rfl, hm, f2⟩⟩
      · show 0 ≤ IntKind.i64.wrap _
        rw [hw]; omega
      · show IntKind.i64.wrap _ + sm (mdel _ _) = L.2.1
        rw [hw]; omega
      · exact List.Nodup.sublist (f1.map _) h.keys
/-! ### What a device writes, as the law has it -/
theorem rPutL_S (k : Nat) (hk : 9 ≤ k) (v : Int) (n : Nat) (hv : 0 ≤ v ∧ v < 18446744073709551616) (hn : 1 ≤ n ∧ n ≤ 8) :
    F_aqueductref01_Put.S k v (n : Int) false = .ok (if v < 256 ^ n then (putL v n, 0) else (⟨#[]⟩, 1)) := by
  have lp : ∀ (m i j : Nat), i + m = n → m < j → ∀ t : ByteArray, t.size = i → F_aqueductref01_Put.l0 k (n : Int) false j (v / 256 ^ i) (putL v i) t (i : Int) = .ok (if v < 256 ^ n then (putL v n, 0) else (⟨#[]⟩, 1)) := by
    intro m
    induction m with
    | zero =>
      intro i j hi hj t ht
      obtain ⟨j, rfl⟩ : ∃ i, j = i + 1 := ⟨j - 1, by omega⟩
      obtain rfl : i = n := by omega
      show F_aqueductref01_Put.l0_b k _ _ _ _ _ _ _ = _
      unfold F_aqueductref01_Put.l0_b
      have hp : (0 : Int) < 256 ^ i := Int.pow_pos (by decide)
      rw [O.cond_neg (by omega)]
      by_cases h : v < 256 ^ i
      · rw [if_pos h, Int.ediv_eq_zero_of_lt hv.1 h, O.cond_neg (by omega), O.cond_false]
      · have h1 : 1 ≤ v / 256 ^ i := by rw [Int.le_ediv_iff_mul_le hp]; omega
        rw [if_neg h, O.cond_pos (by omega)]
    | succ m ih =>
      intro i j hi hj t ht
      obtain ⟨j, rfl⟩ : ∃ i, j = i + 1 := ⟨j - 1, by omega⟩
      show F_aqueductref01_Put.l0_b k _ _ _ _ _ _ _ = _
      unfold F_aqueductref01_Put.l0_b
      have h0 : 0 ≤ v / 256 ^ i := Int.ediv_nonneg hv.1 (Int.pow_nonneg (by decide))
      have h1 : v / 256 ^ i ≤ v := Int.ediv_le_self _ hv.1
      have e : IntKind.u8.wrap (Int.tmod (v / 256 ^ i) 256) = v / 256 ^ i % 256 := by
        rw [rem_in _ _ h0, u8_in _ (by omega)]
      have e2 : IntKind.u64.wrap (Int.tdiv (v / 256 ^ i) 256) = v / 256 ^ (i + 1) := by
        rw [quo_in _ _ h0, u64_in _ (by omega), Int.pow_succ, Int.ediv_ediv_of_nonneg (Int.pow_nonneg (by decide))]
      have hs1 : (Go.Aq.strOf [v / 256 ^ i % 256]).size = 1 := by rw [size_strOf]; rfl
      rw [O.cond_pos (by omega), e, e2, O.chk_dec (by rw [hs1, putL_size]; omega), O.chk_dec (by rw [hs1]; omega), ← putL_succ, i64_in _ (by omega)]
      exact ih (i + 1) j (by omega) (by omega) _ (by rw [app_size, hs1]; omega)
  unfold F_aqueductref01_Put.S F_aqueductref01_Put.top
  rw [O.cond_neg (by omega), O.cond_neg (by omega)]
  have h := lp n 0 k (by omega) (by omega) (⟨#[]⟩) rfl
  simpa [putL, putT, wb, Go.Aq.strOf, revT] using h
theorem used_ok (k : Nat) (hk : 9 ≤ k) (a0) (w : Bool) : ∃ s, F_aqueductlaw15_used.S k a0 w = .ok s := by
  have hM : ∀ b : Bool, ∃ x, F_aqueductref12_Mark.S k 0 b true = .ok x ∧ 0 ≤ x ∧ x ≤ 65535 := by
    intro b
    unfold F_aqueductref12_Mark.S
    cases b <;> simp only [O.cond_true, O.cond_false, Bool.not_true, Bool.not_false] <;> exact ⟨_, rfl, by decide, by decide⟩
  unfold F_aqueductlaw15_used.S
  obtain ⟨x, hx, x1, x2⟩ := hM (decide (w = a0.2.2.2.2.2.2.2))
  rw [hx, O.bind_ok]
  have hi : 0 ≤ bAnd .i64 a0.2.2.1 (65535 : Int) ∧ bAnd .i64 a0.2.2.1 (65535 : Int) ≤ 65535 := by
    have e : (BitVec.ofInt 64 (65535 : Int)).toNat = 65535 := natOf_ofInt .i64 65535 (by decide)
    have h : (BitVec.ofInt 64 a0.2.2.1 &&& BitVec.ofInt 64 (65535 : Int)).toNat ≤ 65535 := by
      rw [BitVec.toNat_and, e]; exact Nat.and_le_right
    unfold bAnd
    rw [show IntKind.i64.bits = 64 from rfl, i64_in _ (by omega)]
    omega
  have hn : 0 ≤ IntKind.u32.wrap a0.2.2.2.1 ∧ IntKind.u32.wrap a0.2.2.2.1 < 4294967296 := by
    unfold IntKind.wrap
    simp [IntKind.bits, IntKind.signed]
    omega
  generalize bAnd .i64 a0.2.2.1 (65535 : Int) = y at hi ⊢
  generalize IntKind.u32.wrap a0.2.2.2.1 = z at hn ⊢
  have hB : ∃ s, F_aqueductref12_Build.S k ((0 : Int), z, y, x) = .ok (s, 0) ∧ s.size = 16 := by
    unfold F_aqueductref12_Build.S
    dsimp only
    have p1 : F_aqueductref01_Put.S k (0 : Int) (8 : Int) false = _ := rPutL_S k hk 0 8 (by omega) (by omega)
    have p2 : F_aqueductref01_Put.S k z (4 : Int) false = _ := rPutL_S k hk z 4 (by omega) (by omega)
    have p3 : F_aqueductref01_Put.S k y (2 : Int) false = _ := rPutL_S k hk y 2 (by omega) (by omega)
    have p4 : F_aqueductref01_Put.S k x (2 : Int) false = _ := rPutL_S k hk x 2 (by omega) (by omega)
    rw [if_pos (by rw [show (256 : Int) ^ 8 = 18446744073709551616 from rfl]; omega)] at p1
    rw [if_pos (by rw [show (256 : Int) ^ 4 = 4294967296 from rfl]; omega)] at p2
    rw [if_pos (by rw [show (256 : Int) ^ 2 = 65536 from rfl]; omega)] at p3 p4
    rw [O.cond_neg (by omega), O.cond_neg (by omega), O.cond_neg (by omega), O.cond_neg (by omega), u64_in z (by omega), u64_in y (by omega), u64_in x (by omega), p1, O.bind_ok, p2, O.bind_ok, p3, O.bind_ok, p4, O.bind_ok, O.chk_dec (by simp only [putL_size]; omega), O.chk_dec (by simp only [app_size, putL_size]; omega), O.chk_dec (by simp only [app_size, putL_size]; omega)]
    exact ⟨_, rfl, by simp only [app_size, putL_size]⟩
  obtain ⟨s, hs, h16⟩ := hB
  rw [hs, O.bind_ok, O.chk_dec (by show 0 ≤ (8 : Int) ∧ (8 : Int) ≤ (s.size : Int); omega)]
  exact ⟨_, rfl⟩
theorem Same_rfl (k : Nat) (a : List Int) (ha : a.length ≤ 40000) (hk : 40002 ≤ k) : F_aqueductref11_Same.S k a a = .ok true := by
  have lp : ∀ (m i j : Nat), i + m = a.length → m < j → F_aqueductref11_Same.l0 k a a j (i : Int) = .ok true := by
    intro m
    induction m with
    | zero =>
      intro i j hi hj
      obtain ⟨j, rfl⟩ : ∃ i, j = i + 1 := ⟨j - 1, by omega⟩
      show F_aqueductref11_Same.l0_b k a a _ _ = _
      unfold F_aqueductref11_Same.l0_b
      rw [O.cond_neg (by omega)]
    | succ m ih =>
      intro i j hi hj
      obtain ⟨j, rfl⟩ : ∃ i, j = i + 1 := ⟨j - 1, by omega⟩
      show F_aqueductref11_Same.l0_b k a a _ _ = _
      unfold F_aqueductref11_Same.l0_b
      rw [O.cond_pos (by omega), O.chk_dec (by omega), O.chk_dec (by omega), O.chk_dec (by omega), O.chk_dec (by omega), O.cond_neg (by simp), i64_in ((i : Int) + 1) (by omega)]
      exact ih (i + 1) j (by omega) (by omega)
  unfold F_aqueductref11_Same.S F_aqueductref11_Same.top
  rw [O.cond_neg (by simp)]
  exact lp _ 0 k (Nat.zero_add _) (by omega)
end Go.Proofs.YtpfddjdkafjjfaaGreat
