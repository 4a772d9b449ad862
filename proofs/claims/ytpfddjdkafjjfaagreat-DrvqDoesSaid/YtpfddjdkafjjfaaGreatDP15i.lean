/- Layer 15, plain: the document's queue beside the program's: what is free, what is held, whether they are the same. -/
import Derived.Test.YtpfddjdkafjjfaaGreatDP15g
namespace Go.Proofs.YtpfddjdkafjjfaaGreat
open Go.Aq Go.IntWalk
set_option linter.unusedVariables false
abbrev TX := LAY × (Int × Bool) × (Int × Bool) × (Int × Bool) × Int × List Int
/-! ### Sums over places -/
def sumF (f : Nat → Int) : Nat → Int
  | 0 => 0
  | n + 1 => sumF f n + f n
theorem sumF_congr {f g : Nat → Int} : ∀ {n : Nat}, (∀ i, i < n → f i = g i) → sumF f n = sumF g n
  | 0, _ => rfl
  | n + 1, h => by simp only [sumF]; rw [sumF_congr fun i hi => h i (by omega), h n (by omega)]
theorem sumF_one (f : Nat → Int) (k : Nat) (v : Int) : ∀ n, k < n → sumF (fun i => if i = k then v else f i) n = sumF f n - f k + v
  | 0, h => by omega
  | n + 1, h => by
    simp only [sumF]
    by_cases hk : k = n
    · subst hk
      rw [if_pos rfl, sumF_congr (g := f) fun i hi => if_neg (by omega)]; omega
    · rw [sumF_one f k v n (by omega), if_neg (by omega)]; omega
theorem sumF_mono {f : Nat → Int} (h : ∀ i, 0 ≤ f i) : ∀ {m n : Nat}, m ≤ n → sumF f m ≤ sumF f n
  | m, 0, hm => by have : m = 0 := by omega
                   subst this; exact Int.le_refl _
  | m, n + 1, hm => by
    by_cases e : m = n + 1
    · subst e; exact Int.le_refl _
    · have := sumF_mono h (m := m) (n := n) (by omega); have := h n; simp only [sumF]; omega
theorem sumF_nonneg {f : Nat → Int} (h : ∀ i, 0 ≤ f i) (n : Nat) : 0 ≤ sumF f n := sumF_mono h (Nat.zero_le n)
/-! ### What an id takes -/
theorem mget_cons (e : Int × Int) (es : EI) (k : Int) : mget 0 (e :: es) k = if e.1 = k then e.2 else mget 0 es k := by
  by_cases h : e.1 = k <;> simp [mget, h]
theorem mget_none : ∀ {es : EI} {k : Int}, mhas es k = false → mget 0 es k = 0
  | [], k, _ => rfl
  | e :: es, k, h => by
    have he : ¬ e.1 = k := fun he => by simp [mhas, he] at h
    rw [mget_cons, if_neg he]
    exact mget_none (by simpa [mhas, he] using h)
theorem mget_pos {es : EI} (hv : ∀ e ∈ es, 1 ≤ e.2) {k : Int} (h : mhas es k = true) : 1 ≤ mget 0 es k := by
  have := (mdel_facts es k h).2.2.2
  exact hv _ this
theorem mget_iff {es : EI} (hv : ∀ e ∈ es, 1 ≤ e.2) (k : Int) : mhas es k = true ↔ 0 < mget 0 es k := by
  constructor
  · intro h; have := mget_pos hv h; omega
  · intro h
    cases hm : mhas es k with
    | true => rfl
    | false => rw [mget_none hm] at h; omega
theorem mget_nonneg {es : EI} (hv : ∀ e ∈ es, 1 ≤ e.2) (k : Int) : 0 ≤ mget 0 es k := by
  cases hm : mhas es k with
  | true => have := mget_pos hv hm; omega
  | false => rw [mget_none hm]; exact Int.le_refl _
theorem mget_app : ∀ (es : EI) (k v j : Int), mhas es k = false → mget 0 (es ++ [(k, v)]) j = if j = k then v else mget 0 es j
  | [], k, v, j, _ => by
    rw [List.nil_append, mget_cons]
    by_cases h : k = j
    · subst h; simp
    · rw [if_neg h, if_neg (fun e => h e.symm)]
  | e :: es, k, v, j, h => by
    have he : ¬ e.1 = k := fun he => by simp [mhas, he] at h
    rw [List.cons_append, mget_cons, mget_cons, mget_app es k v j (by simpa [mhas, he] using h)]
    by_cases h1 : e.1 = j
    · rw [if_pos h1, if_neg (fun e2 => he (h1.trans e2)), if_pos h1]
    · rw [if_neg h1, if_neg h1]
theorem mget_del : ∀ (es : EI) (k j : Int), (es.map (·.1)).Nodup → mget 0 (mdel es k) j = if j = k then 0 else mget 0 es j
  | [], k, j, _ => by simp [mdel, mget]
  | e :: es, k, j, h => by
    rw [List.map_cons, List.nodup_cons] at h
    by_cases he : e.1 = k
    · have e1 : mdel (e :: es) k = es := by simp [mdel, he]
      rw [e1, mget_cons]
      by_cases hj : j = k
      · subst hj
        rw [if_pos rfl]
        refine mget_none ?_
        rw [Bool.eq_false_iff]
        intro hm
        exact h.1 (he ▸ mhas_iff.1 hm)
      · rw [if_neg hj, if_neg (fun e2 => hj (e2.symm.trans he))]
    · have e1 : mdel (e :: es) k = e :: mdel es k := by simp [mdel, he]
      rw [e1, mget_cons, mget_cons, mget_del es k j h.2]
      by_cases h1 : e.1 = j
      · rw [if_pos h1, if_neg (fun e2 => he (h1.trans e2)), if_pos h1]
      · rw [if_neg h1, if_neg h1]
theorem sumF_sm : ∀ (es : EI) (n : Nat), (es.map (·.1)).Nodup → (∀ e ∈ es, 0 ≤ e.1 ∧ e.1 < (n : Int)) → sumF (fun i => mget 0 es (i : Int)) n = sm es
  | [], n, _, _ => by
    have : ∀ m, sumF (fun i => mget 0 ([] : EI) (i : Int)) m = 0 := by
      intro m
      induction m with
      | zero => rfl
      | succ m ih => simp only [sumF]; rw [ih]; rfl
    exact this n
  | e :: es, n, h, hk => by
    rw [List.map_cons, List.nodup_cons] at h
    have he := hk e (by simp)
    have h0 : mget 0 es e.1 = 0 := mget_none (by
      rw [Bool.eq_false_iff]
      intro hm
      exact h.1 (mhas_iff.1 hm))
    rw [sumF_congr (g := fun i => if i = e.1.toNat then e.2 else mget 0 es (i : Int)) fun i hi => by
      show mget 0 (e :: es) (i : Int) = _
      rw [mget_cons]
      by_cases hh : e.1 = (i : Int)
      · rw [if_pos hh, if_pos (by omega)]
      · rw [if_neg hh, if_neg (by omega)], sumF_one (fun i => mget 0 es (i : Int)) e.1.toNat e.2 n (by omega), sumF_sm es n h.2 fun x hx => hk x (by simp [hx])]
    show sm es - mget 0 es ((e.1.toNat : Nat) : Int) + e.2 = e.2 + sm es
    rw [show ((e.1.toNat : Nat) : Int) = e.1 by omega, h0]; omega
/-! ### Lists that rise -/
theorem up_ext : ∀ {a b : List Int}, a.Pairwise (· < ·) → b.Pairwise (· < ·) → (∀ x, x ∈ a ↔ x ∈ b) → a = b
  | [], [], _, _, _ => rfl
  | [], y :: b, _, _, h => by have := (h y).2 (by simp); cases this
  | x :: a, [], _, _, h => by have := (h x).1 (by simp); cases this
  | x :: a, y :: b, ha, hb, h => by
    obtain ⟨a1, a2⟩ := List.pairwise_cons.1 ha
    obtain ⟨b1, b2⟩ := List.pairwise_cons.1 hb
    have hx := (h x).1 (by simp)
    have hy := (h y).2 (by simp)
    have e : x = y := by
      rcases List.mem_cons.1 hx with e | hx
      · exact e
      · rcases List.mem_cons.1 hy with e | hy
        · exact e.symm
        · have := b1 x hx; have := a1 y hy; omega
    subst e
    rw [up_ext a2 b2 fun z => ⟨fun hz => ?_, fun hz => ?_⟩]
    · rcases List.mem_cons.1 ((h z).1 (by simp [hz])) with e | hz'
      · subst e; have := a1 z hz; omega
      · exact hz'
    · rcases List.mem_cons.1 ((h z).2 (by simp [hz])) with e | hz'
      · subst e; have := b1 z hz; omega
      · exact hz'
def hlF (f : Nat → Int) : Nat → List Int
  | 0 => []
  | n + 1 => if 0 < f n then hlF f n ++ [(n : Int)] else hlF f n
theorem hlF_mem (f : Nat → Int) : ∀ (n : Nat) (x : Int), x ∈ hlF f n ↔ ∃ i : Nat, i < n ∧ x = (i : Int) ∧ 0 < f i
  | 0, x => by simp [hlF]
  | n + 1, x => by
    unfold hlF
    have ih := hlF_mem f n x
    split
    · rename_i hp
      rw [List.mem_append, ih, List.mem_singleton]
      constructor
      · rintro (⟨i, h1, h2, h3⟩ | h)
        · exact ⟨i, by omega, h2, h3⟩
        · exact ⟨n, by omega, h, hp⟩
      · rintro ⟨i, h1, h2, h3⟩
        by_cases e : i = n
        · subst e; exact .inr h2
        · exact .inl ⟨i, by omega, h2, h3⟩
    · rename_i hp
      rw [ih]
      constructor
      · rintro ⟨i, h1, h2, h3⟩; exact ⟨i, by omega, h2, h3⟩
      · rintro ⟨i, h1, h2, h3⟩
        by_cases e : i = n
        · subst e; exact absurd h3 hp
        · exact ⟨i, by omega, h2, h3⟩
theorem hlF_up (f : Nat → Int) : ∀ n : Nat, (hlF f n).Pairwise (· < ·)
  | 0 => List.Pairwise.nil
  | n + 1 => by
    unfold hlF
    split
    · rw [List.pairwise_append]
      refine ⟨hlF_up f n, List.pairwise_singleton _ _, fun a ha b hb => ?_⟩
      obtain ⟨i, h1, h2, _⟩ := (hlF_mem f n a).1 ha
      simp only [List.mem_singleton] at hb
      omega
    · exact hlF_up f n
theorem hlF_len (f : Nat → Int) : ∀ n : Nat, (hlF f n).length ≤ n
  | 0 => Nat.le_refl _
  | n + 1 => by
    unfold hlF
    have := hlF_len f n
    split
    · rw [List.length_append, List.length_singleton]; omega
    · omega
theorem heldL_up {es : EI} (h : (es.map (·.1)).Nodup) : (heldL es).Pairwise (· < ·) := by
  unfold heldL
  have h1 := sortI_up (es.map (·.1))
  have h2 : (sortI (es.map (·.1))).Nodup := (sortI_perm _).nodup_iff.2 h
  unfold List.Nodup at h2
  exact (List.pairwise_and_iff.2 ⟨h1, h2⟩).imp fun ⟨a, b⟩ => by omega
theorem heldL_hl {es : EI} {n : Nat} (hn : (es.map (·.1)).Nodup) (hv : ∀ e ∈ es, 1 ≤ e.2) (hk : ∀ e ∈ es, 0 ≤ e.1 ∧ e.1 < (n : Int)) : heldL es = hlF (fun i => mget 0 es (i : Int)) n := by
  refine up_ext (heldL_up hn) (hlF_up _ n) fun x => ?_
  rw [heldL_mem, hlF_mem]
  constructor
  · intro hm
    obtain ⟨e, he, hx⟩ := List.mem_map.1 (mhas_iff.1 hm)
    have := hk e he
    have hx : e.1 = x := hx
    refine ⟨x.toNat, by omega, by omega, ?_⟩
    rw [show ((x.toNat : Nat) : Int) = x by omega]
    exact (mget_iff hv x).1 hm
  · rintro ⟨i, h1, h2, h3⟩
    subst h2
    exact (mget_iff hv _).2 h3
/-! ### The document's queue -/
def mapF (f : Nat → Int) (n : Nat) : List Int := (List.range n).map f
theorem mapF_len (f : Nat → Int) (n : Nat) : (mapF f n).length = n := by simp [mapF]
theorem mapF_gt (f : Nat → Int) (n i : Nat) (h : i < n) : gt (0 : Int) (mapF f n) (i : Int) = f i := by
  rw [gt_el _ _ i (by rw [mapF_len]; exact h)]
  simp [mapF]
theorem mapF_congr {f g : Nat → Int} {n : Nat} (h : ∀ i, i < n → f i = g i) : mapF f n = mapF g n := by
  unfold mapF
  exact List.map_congr_left fun i hi => h i (by simpa using hi)
theorem mapF_su (f : Nat → Int) (n k : Nat) (v : Int) : su (mapF f n) (k : Int) v = mapF (fun i => if i = k then v else f i) n := by
  unfold su
  rw [Int.toNat_natCast]
  apply List.ext_getElem
  · simp [mapF]
  · intro i h1 h2
    rw [List.getElem_set]
    by_cases e : k = i
    · subst e; simp [mapF]
    · rw [if_neg e]
      simp only [mapF, List.getElem_map, List.getElem_range]
      rw [if_neg (fun h => e h.symm)]
theorem Free_S (k : Nat) (x : TX) (h : TR) (f : Nat → Int) (n : Nat) (hx : x.2.2.2.2.2 = mapF f n) (hf : ∀ i, 0 ≤ f i) (hb : sumF f n ≤ x.1.2.1) (hs : x.1.2.1 ≤ 32768) (hn : n ≤ 32768) (hk : n < k) :
    F_aqueductref15_Queue_Free.S k x h = .ok (x.1.2.1 - sumF f n, (x, h)) := by
  have lp : ∀ (m i j : Nat), i + m = n → m < j → F_aqueductref15_Queue_Free.l0 k x h j (x.1.2.1 - sumF f i) (i : Int) = .ok (x.1.2.1 - sumF f n, (x, h)) := by
    intro m
    induction m with
    | zero =>
      intro i j hi hj
      obtain ⟨j, rfl⟩ : ∃ i, j = i + 1 := ⟨j - 1, by omega⟩
      obtain rfl : i = n := by omega
      show F_aqueductref15_Queue_Free.l0_b _ _ _ _ _ _ = _
      unfold F_aqueductref15_Queue_Free.l0_b
      rw [hx, mapF_len, O.cond_neg (by omega)]
    | succ m ih =>
      intro i j hi hj
      obtain ⟨j, rfl⟩ : ∃ i, j = i + 1 := ⟨j - 1, by omega⟩
      show F_aqueductref15_Queue_Free.l0_b _ _ _ _ _ _ = _
      unfold F_aqueductref15_Queue_Free.l0_b
      have h1 := sumF_nonneg hf i
      have h2 := sumF_mono hf (show i ≤ n by omega)
      have h3 := sumF_mono hf (show i + 1 ≤ n by omega)
      have h4 : sumF f (i + 1) = sumF f i + f i := rfl
      have h5 := hf i
      rw [hx, mapF_len, O.cond_pos (by omega), O.chk_dec (by omega), O.chk_dec (by omega), mapF_gt f n i (by omega), i64_in _ (by omega), i64_in ((i : Int) + 1) (by omega)]
      have := ih (i + 1) j (by omega) (by omega)
      rw [h4, show x.1.2.1 - (sumF f i + f i) = x.1.2.1 - sumF f i - f i by omega] at this
      exact this
  unfold F_aqueductref15_Queue_Free.S F_aqueductref15_Queue_Free.top
  have := lp n 0 k (by omega) hk
  rw [show sumF f 0 = 0 from rfl, Int.sub_zero] at this
  exact this
theorem Held_S (k : Nat) (x : TX) (h : TR) (f : Nat → Int) (n : Nat) (hx : x.2.2.2.2.2 = mapF f n) (hn : n ≤ 32768) (hk : n < k) :
    F_aqueductref15_Queue_Held.S k x h = .ok (hlF f n, (x, h)) := by
  have lp : ∀ (m i j : Nat), i + m = n → m < j → F_aqueductref15_Queue_Held.l0 k x h j (i : Int) (hlF f i) = .ok (hlF f n, (x, h)) := by
    intro m
    induction m with
    | zero =>
      intro i j hi hj
      obtain ⟨j, rfl⟩ : ∃ i, j = i + 1 := ⟨j - 1, by omega⟩
      obtain rfl : i = n := by omega
      show F_aqueductref15_Queue_Held.l0_b _ _ _ _ _ _ = _
      unfold F_aqueductref15_Queue_Held.l0_b
      rw [hx, mapF_len, O.cond_neg (by omega)]
    | succ m ih =>
      intro i j hi hj
      obtain ⟨j, rfl⟩ : ∃ i, j = i + 1 := ⟨j - 1, by omega⟩
      show F_aqueductref15_Queue_Held.l0_b _ _ _ _ _ _ = _
      unfold F_aqueductref15_Queue_Held.l0_b
      have hl := hlF_len f i
      have := ih (i + 1) j (by omega) (by omega)
      rw [hx, mapF_len, O.cond_pos (by omega), O.chk_dec (by omega), O.chk_dec (by omega), mapF_gt f n i (by omega), i64_in ((i : Int) + 1) (by omega)]
      by_cases hp : 0 < f i
      · rw [O.cond_pos hp, O.chk_dec (by rw [List.length_singleton]; omega)]
        rw [show hlF f (i + 1) = hlF f i ++ [(i : Int)] from if_pos hp] at this
        exact this
      · rw [O.cond_neg hp]
        rw [show hlF f (i + 1) = hlF f i from if_neg hp] at this
        exact this
  unfold F_aqueductref15_Queue_Held.S F_aqueductref15_Queue_Held.top
  exact lp n 0 k (by omega) hk
/-- Both queues in the same state. -/
structure RX (L : LAY) (len : Nat) (q : TV) (g : TM) (x : TX) (h : TR) : Prop where
  ri : RI L len q g
  le64 : ∀ e ∈ q.2.2.2.2.2.2, e.2 ≤ 64
  klt : ∀ e ∈ q.2.2.2.2.2.2, e.1 < L.2.1
  xl : x.1 = L
  xn : x.2.1 = q.2.1
  xb : x.2.2.1 = q.2.2.1
  xt : x.2.2.2.1 = q.2.2.2.1
  tin : 0 ≤ q.2.2.2.1.1 ∧ q.2.2.2.1.1 < L.2.1
  since : q.2.2.2.2.1 = min x.2.2.2.2.1 (2 * L.2.1)
  sin : 0 ≤ x.2.2.2.2.1
  hs : x.2.2.2.2.2 = mapF (fun i => mget 0 q.2.2.2.2.2.2 (i : Int)) L.2.1.toNat
  mem : h.1 = Go.Aq.strOf g.1
theorem RX.sum {L : LAY} {len : Nat} {q : TV} {g : TM} {x : TX} {h : TR} (r : RX L len q g x h) (hs : 1 ≤ L.2.1) : sumF (fun i => mget 0 q.2.2.2.2.2.2 (i : Int)) L.2.1.toNat = L.2.1 - q.2.2.2.2.2.1 := by
  rw [sumF_sm _ _ r.ri.keys fun e he => ⟨(r.ri.kin e he).1, by have := r.klt e he; omega⟩]
  have := r.ri.sum; omega
theorem RX.free {L : LAY} {len : Nat} {q : TV} {g : TM} {x : TX} {h : TR} (r : RX L len q g x h) (hs : 1 ≤ L.2.1 ∧ L.2.1 ≤ 32768) (k : Nat) (hk : 40000 ≤ k) : F_aqueductref15_Queue_Free.S k x h = .ok (q.2.2.2.2.2.1, (x, h)) := by
  have hsum := r.sum hs.1
  have hfr := r.ri.fr
  have := Free_S k x h _ _ r.hs (fun i => mget_nonneg r.ri.vals _) (by rw [r.xl, hsum]; omega) (by rw [r.xl]; exact hs.2) (by omega) (by omega)
  rw [this, r.xl, hsum]
  congr 2; omega
theorem same_S {L : LAY} {len : Nat} {q : TV} {g : TM} {x : TX} {h : TR} (r : RX L len q g x h) (hs : 1 ≤ L.2.1 ∧ L.2.1 ≤ 32768) (k : Nat) (hk : 41000 ≤ k) : F_aqueductlaw15_same.S k g q x h = .ok (true, (g, q, x, h)) := by
  unfold F_aqueductlaw15_same.S
  have hH := heldL_hl (n := L.2.1.toNat) r.ri.keys r.ri.vals (fun e he => ⟨(r.ri.kin e he).1, by have := r.klt e he; omega⟩)
  have hl := heldL_len q.2.2.2.2.2.2
  have hids := r.ri.ids; have hfr := r.ri.fr
  have hb : (decide (q.2.2.1.1 = x.2.2.1.1) && (decide (q.2.2.1.2 = x.2.2.1.2) && true)) = true := by rw [r.xb]; simp
  rw [O.cond_pos r.mem.symm, r.free hs k (by omega), O.bind_ok, O.cond_pos rfl, r.ri.held hs.2, O.chk_true]
  dsimp only
  rw [Held_S k x h _ _ r.hs (by omega) (by omega), O.bind_ok]
  dsimp only
  rw [← hH, Same_rfl k _ (by omega) (by omega), O.bind_ok, O.cond_true, O.twice_eq, hb]
end Go.Proofs.YtpfddjdkafjjfaaGreat
