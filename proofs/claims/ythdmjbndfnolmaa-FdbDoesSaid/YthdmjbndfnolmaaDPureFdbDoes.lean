/- The law FdbDoes of its plain function. -/
import Derived.Test.YthdmjbndfnolmaaDPFd
namespace Go.Proofs.Ythdmjbndfnolmaa
open Go.Aq Go.IntWalk
set_option linter.unusedVariables false
theorem does_l4 (k : Nat) (a2 : List (Int × Int × Int × ByteArray)) (v63 : Int) (r103 : Bool × HT) (r104 : List VT × GT) (R : Int → Int → Int → Int → Int → List (KT × VT) → List VT → O Bool) : ∀ (n i j : Nat) (l : List VT), i + n = l.length → n < j → l.length ≤ 1000 → F_aqueductlaw18_FdbDoes.l4 k a2 v63 r103 r104 R j (i : Int) l = R (IntKind.i64.wrap (v63 + 1)) r104.2.1 r104.2.2.1 r103.2.1 r103.2.2.1 r104.2.2.2 r103.2.2.2 := by
  intro n
  induction n with
  | zero =>
    intro i j l hi hj hl
    obtain ⟨j, rfl⟩ : ∃ i, j = i + 1 := ⟨j - 1, by omega⟩
    show F_aqueductlaw18_FdbDoes.l4_b _ _ _ _ _ _ _ _ _ = _
    unfold F_aqueductlaw18_FdbDoes.l4_b
    rw [O.cond_neg (by omega)]
  | succ n ih =>
    intro i j l hi hj hl
    obtain ⟨j, rfl⟩ : ∃ i, j = i + 1 := ⟨j - 1, by omega⟩
    show F_aqueductlaw18_FdbDoes.l4_b _ _ _ _ _ _ _ _ _ = _
    unfold F_aqueductlaw18_FdbDoes.l4_b
    rw [O.cond_pos (by omega), O.chk_dec (by omega), O.chk_dec (by omega), i64_in ((i : Int) + 1) (by omega)]
    exact ih (i + 1) j _ (by simp [su]; omega) (by omega) (by simp [su]; omega)

theorem does_l5 (k : Nat) (a2 : List (Int × Int × Int × ByteArray)) (v63 : Int) (r108 : Int × HT) (r109 : List VT × GT) (R : Int → Int → Int → Int → Int → List (KT × VT) → List VT → O Bool) : ∀ (n i j : Nat) (l : List VT), i + n = l.length → n < j → l.length ≤ 1000 → F_aqueductlaw18_FdbDoes.l5 k a2 v63 r108 r109 R j (i : Int) l = R (IntKind.i64.wrap (v63 + 1)) r109.2.1 r109.2.2.1 r108.2.1 r108.2.2.1 r109.2.2.2 r108.2.2.2 := by
  intro n
  induction n with
  | zero =>
    intro i j l hi hj hl
    obtain ⟨j, rfl⟩ : ∃ i, j = i + 1 := ⟨j - 1, by omega⟩
    show F_aqueductlaw18_FdbDoes.l5_b _ _ _ _ _ _ _ _ _ = _
    unfold F_aqueductlaw18_FdbDoes.l5_b
    rw [O.cond_neg (by omega)]
  | succ n ih =>
    intro i j l hi hj hl
    obtain ⟨j, rfl⟩ : ∃ i, j = i + 1 := ⟨j - 1, by omega⟩
    show F_aqueductlaw18_FdbDoes.l5_b _ _ _ _ _ _ _ _ _ = _
    unfold F_aqueductlaw18_FdbDoes.l5_b
    rw [O.cond_pos (by omega), O.chk_dec (by omega), O.chk_dec (by omega), i64_in ((i : Int) + 1) (by omega)]
    exact ih (i + 1) j _ (by simp [su]; omega) (by omega) (by simp [su]; omega)

theorem does_l6 (k : Nat) (a2 : List (Int × Int × Int × ByteArray)) (v63 : Int) (r108 : Int × HT) (r109 : List VT × GT) (R : Int → Int → Int → Int → Int → List (KT × VT) → List VT → O Bool) : ∀ (n i j : Nat) (l : List VT), i + n = l.length → n < j → l.length ≤ 1000 → F_aqueductlaw18_FdbDoes.l6 k a2 v63 r108 r109 R j (i : Int) l = R (IntKind.i64.wrap (v63 + 1)) r109.2.1 r109.2.2.1 r108.2.1 r108.2.2.1 r109.2.2.2 r108.2.2.2 := by
  intro n
  induction n with
  | zero =>
    intro i j l hi hj hl
    obtain ⟨j, rfl⟩ : ∃ i, j = i + 1 := ⟨j - 1, by omega⟩
    show F_aqueductlaw18_FdbDoes.l6_b _ _ _ _ _ _ _ _ _ = _
    unfold F_aqueductlaw18_FdbDoes.l6_b
    rw [O.cond_neg (by omega)]
  | succ n ih =>
    intro i j l hi hj hl
    obtain ⟨j, rfl⟩ : ∃ i, j = i + 1 := ⟨j - 1, by omega⟩
    show F_aqueductlaw18_FdbDoes.l6_b _ _ _ _ _ _ _ _ _ = _
    unfold F_aqueductlaw18_FdbDoes.l6_b
    rw [O.cond_pos (by omega), O.chk_dec (by omega), O.chk_dec (by omega), i64_in ((i : Int) + 1) (by omega)]
    exact ih (i + 1) j _ (by simp [su]; omega) (by omega) (by simp [su]; omega)

theorem does_l7 (k : Nat) (a2 : List (Int × Int × Int × ByteArray)) (v63 : Int) (r108 : Int × HT) (r109 : List VT × GT) (R : Int → Int → Int → Int → Int → List (KT × VT) → List VT → O Bool) : ∀ (n i j : Nat) (l : List VT), i + n = l.length → n < j → l.length ≤ 1000 → F_aqueductlaw18_FdbDoes.l7 k a2 v63 r108 r109 R j (i : Int) l = R (IntKind.i64.wrap (v63 + 1)) r109.2.1 r109.2.2.1 r108.2.1 r108.2.2.1 r109.2.2.2 r108.2.2.2 := by
  intro n
  induction n with
  | zero =>
    intro i j l hi hj hl
    obtain ⟨j, rfl⟩ : ∃ i, j = i + 1 := ⟨j - 1, by omega⟩
    show F_aqueductlaw18_FdbDoes.l7_b _ _ _ _ _ _ _ _ _ = _
    unfold F_aqueductlaw18_FdbDoes.l7_b
    rw [O.cond_neg (by omega)]
  | succ n ih =>
    intro i j l hi hj hl
    obtain ⟨j, rfl⟩ : ∃ i, j = i + 1 := ⟨j - 1, by omega⟩
    show F_aqueductlaw18_FdbDoes.l7_b _ _ _ _ _ _ _ _ _ = _
    unfold F_aqueductlaw18_FdbDoes.l7_b
    rw [O.cond_pos (by omega), O.chk_dec (by omega), O.chk_dec (by omega), i64_in ((i : Int) + 1) (by omega)]
    exact ih (i + 1) j _ (by simp [su]; omega) (by omega) (by simp [su]; omega)

theorem does_l8 (k : Nat) (a2 : List (Int × Int × Int × ByteArray)) (v63 : Int) (v66 v67 : Int) (v69 : List VT) (r126 : List VT × GT) (R : Int → Int → Int → Int → Int → List (KT × VT) → List VT → O Bool) : ∀ (n i j : Nat) (l : List VT), i + n = l.length → n < j → l.length ≤ 1000 → F_aqueductlaw18_FdbDoes.l8 k a2 v63 v66 v67 v69 r126 R j (i : Int) l = R (IntKind.i64.wrap (v63 + 1)) r126.2.1 r126.2.2.1 v66 v67 r126.2.2.2 v69 := by
  intro n
  induction n with
  | zero =>
    intro i j l hi hj hl
    obtain ⟨j, rfl⟩ : ∃ i, j = i + 1 := ⟨j - 1, by omega⟩
    show F_aqueductlaw18_FdbDoes.l8_b _ _ _ _ _ _ _ _ _ _ _ = _
    unfold F_aqueductlaw18_FdbDoes.l8_b
    rw [O.cond_neg (by omega)]
  | succ n ih =>
    intro i j l hi hj hl
    obtain ⟨j, rfl⟩ : ∃ i, j = i + 1 := ⟨j - 1, by omega⟩
    show F_aqueductlaw18_FdbDoes.l8_b _ _ _ _ _ _ _ _ _ _ _ = _
    unfold F_aqueductlaw18_FdbDoes.l8_b
    rw [O.cond_pos (by omega), O.chk_dec (by omega), O.chk_dec (by omega), i64_in ((i : Int) + 1) (by omega)]
    exact ih (i + 1) j _ (by simp [su]; omega) (by omega) (by simp [su]; omega)

theorem does_l9 (k : Nat) (a2 : List (Int × Int × Int × ByteArray)) (v63 : Int) (v66 v67 : Int) (v69 : List VT) (r126 : List VT × GT) (R : Int → Int → Int → Int → Int → List (KT × VT) → List VT → O Bool) : ∀ (n i j : Nat) (l : List VT), i + n = l.length → n < j → l.length ≤ 1000 → F_aqueductlaw18_FdbDoes.l9 k a2 v63 v66 v67 v69 r126 R j (i : Int) l = R (IntKind.i64.wrap (v63 + 1)) r126.2.1 r126.2.2.1 v66 v67 r126.2.2.2 v69 := by
  intro n
  induction n with
  | zero =>
    intro i j l hi hj hl
    obtain ⟨j, rfl⟩ : ∃ i, j = i + 1 := ⟨j - 1, by omega⟩
    show F_aqueductlaw18_FdbDoes.l9_b _ _ _ _ _ _ _ _ _ _ _ = _
    unfold F_aqueductlaw18_FdbDoes.l9_b
    rw [O.cond_neg (by omega)]
  | succ n ih =>
    intro i j l hi hj hl
    obtain ⟨j, rfl⟩ : ∃ i, j = i + 1 := ⟨j - 1, by omega⟩
    show F_aqueductlaw18_FdbDoes.l9_b _ _ _ _ _ _ _ _ _ _ _ = _
    unfold F_aqueductlaw18_FdbDoes.l9_b
    rw [O.cond_pos (by omega), O.chk_dec (by omega), O.chk_dec (by omega), i64_in ((i : Int) + 1) (by omega)]
    exact ih (i + 1) j _ (by simp [su]; omega) (by omega) (by simp [su]; omega)
theorem nodup_key {K V : Type} : ∀ {es : List (K × V)} {a b : K × V}, (es.map (·.1)).Nodup → a ∈ es → b ∈ es → a.1 = b.1 → a = b
  | [], a, b, _, ha, _, _ => by cases ha
  | e :: es, a, b, hn, ha, hb, h => by
    rw [List.map_cons, List.nodup_cons] at hn
    rcases List.mem_cons.1 ha with ha1 | ha1
    · rcases List.mem_cons.1 hb with hb1 | hb1
      · rw [ha1, hb1]
      · exact absurd (List.mem_map.2 ⟨b, hb1, by rw [← h, ha1]⟩) hn.1
    · rcases List.mem_cons.1 hb with hb1 | hb1
      · exact absurd (List.mem_map.2 ⟨a, ha1, by rw [h, hb1]⟩) hn.1
      · exact nodup_key hn.2 ha1 hb1 h
theorem mget_none {K V : Type} [DecidableEq K] (d : V) {es : List (K × V)} {k : K} (h : mhas es k = false) : mget d es k = d := by
  unfold mget
  rw [List.find?_eq_none.2]
  intro e he hx
  exact mhas_not.1 h (List.mem_map.2 ⟨e, he, by simpa using hx⟩)
/-- The program's table and the document's. -/
structure Both (g : GT) (h : HT) : Prop where
  inv : Inv g
  up : Up h.2.2
  perm : h.2.2.Perm (vals g)
  room : g.1 = h.1
  ticks : g.2.1 = h.2.1
  small : g.1 ≤ 60
theorem Both.rows {g : GT} {h : HT} (b : Both g h) : isort (vals g) = h.2.2 := isort_is b.perm b.up
theorem Both.len {g : GT} {h : HT} (b : Both g h) : h.2.2.length = g.2.2.length := by rw [b.perm.length_eq]; simp [vals]
theorem Both.keys {g : GT} {h : HT} (b : Both g h) (k : KT) : k ∈ h.2.2.map keyV ↔ mhas g.2.2 k = true := by
  rw [mhas_iff, ← b.inv.keys]
  exact (b.perm.map keyV).mem_iff
theorem vals_put : ∀ (es : List (KT × VT)) (x : VT), (es.map (·.1)).Nodup → (∀ e ∈ es, keyV e.2 = e.1) → ((mput es (keyV x) x).map (·.2)).Perm (x :: (es.map (·.2)).filter (notK x))
  | [], x, _, _ => List.Perm.refl _
  | e :: es, x, hn, hk => by
    rw [List.map_cons, List.nodup_cons] at hn
    have he := hk e (by simp)
    unfold mput
    by_cases h : e.1 = keyV x
    · rw [if_pos h, List.map_cons, List.map_cons, List.filter_cons_of_neg (by simp [notK, he, h])]
      have : (es.map (·.2)).filter (notK x) = es.map (·.2) := by
        rw [List.filter_eq_self]
        intro y hy
        obtain ⟨e', he', rfl⟩ := List.mem_map.1 hy
        have : keyV e'.2 ≠ keyV x := by
          rw [hk e' (by simp [he']), ← h]
          intro hh
          exact hn.1 (hh ▸ List.mem_map.2 ⟨e', he', rfl⟩)
        simp [notK, this]
      rw [this]
    · rw [if_neg h, List.map_cons, List.map_cons, List.filter_cons_of_pos (by simp [notK, he, h])]
      exact ((vals_put es x hn.2 (fun e' he' => hk e' (by simp [he']))).cons e.2).trans (List.Perm.swap x e.2 _)
theorem Both.learn {g : GT} {h : HT} (b : Both g h) (v : Int) (m : ByteArray) (p : Int) : (learnG v m p g).1 = (learnH v m p h).1 ∧ Both (learnG v m p g).2 (learnH v m p h).2 := by
  have hi := inv_learn b.inv v m p
  have hkk := b.keys (v, m)
  have hl := b.len
  have hr := b.room
  unfold learnG learnH at *
  by_cases ho : okLearn v m p = true
  · rw [if_pos ho] at hi ⊢
    rw [if_pos ho]
    by_cases hc : mhas g.2.2 (v, m) = false ∧ g.1 ≤ (g.2.2.length : Int)
    · rw [if_pos hc, if_pos ⟨hasK_not.2 fun hm => by rw [hkk.1 hm] at hc; exact absurd hc.1 (by simp), by omega⟩]
      exact ⟨rfl, b⟩
    · rw [if_neg hc] at hi ⊢
      rw [if_neg (fun hh => hc ⟨by
        cases hx : mhas g.2.2 (v, m) with
        | false => rfl
        | true => exact absurd (hkk.2 hx) (hasK_not.1 hh.1), by omega⟩)]
      refine ⟨rfl, hi, rput_up _ b.up, ?_, b.room, b.ticks, b.small⟩
      refine (rput_perm _ _).trans (((b.perm.filter _).cons _).trans ?_)
      exact (vals_put g.2.2 (v, m, p, (0 : Int)) b.inv.nodup b.inv.key).symm
  · rw [if_neg ho, if_neg ho]
    exact ⟨rfl, b⟩
theorem vals_tick (t : Int) : ∀ es : List (KT × VT), (tickE t es).map (·.2) = (es.map (·.2)).filterMap (bumpV t)
  | [] => rfl
  | e :: es => by
    have ih := vals_tick t es
    unfold tickE bumpE at ih ⊢
    rw [List.map_cons, List.filterMap_cons, List.filterMap_cons]
    unfold bumpV at ih ⊢
    by_cases h : t ≤ (upV e.2).2.2.2
    · rw [if_pos h, if_pos h]; exact ih
    · rw [if_neg h, if_neg h]; simp only [List.map_cons]; rw [ih]
theorem Both.tick {g : GT} {h : HT} (b : Both g h) : Both (tickG g) (h.1, h.2.1, h.2.2.filterMap (bumpV h.2.1)) := by
  refine ⟨inv_tick b.inv, ?_, ?_, b.room, b.ticks, b.small⟩
  · show Up (h.2.2.filterMap (bumpV h.2.1))
    unfold Up
    rw [List.pairwise_filterMap]
    refine List.Pairwise.imp ?_ b.up
    intro x y hxy x' hx y' hy
    unfold bumpV at hx hy
    split at hx
    · cases hx
    · split at hy
      · cases hy
      · cases hx; cases hy
        rw [ltV_key (x := upV x) (y := upV y) (x' := x) (y' := y) rfl rfl]; exact hxy
  · show (h.2.2.filterMap (bumpV h.2.1)).Perm ((tickE g.2.1 g.2.2).map (·.2))
    rw [vals_tick, b.ticks]
    exact b.perm.filterMap _
theorem Pure.FdbDoes : ∀ (a0 : Int) (a1 : Int) (a2 : List (Int × Int × Int × ByteArray)), (Lit.int .i64 a0).wf = true → (Lit.int .i64 a1).wf = true → okS (.row false 42 [.int .i64, .int .i64, .int .i64, .str]) a2 → ∃ k, F_aqueductlaw18_FdbDoes.S k a0 a1 a2 = .ok true := by
  intro a0 a1 a2 _ _ h0
  have hlen : a2.length ≤ maxLen := h0.1
  rw [max_len] at hlen
  refine ⟨200, ?_⟩
  have fx : F_aqueductlaw18_fixed.S 200 = .ok true := fixed18 200 (by omega)
  have lp : ∀ (m i j : Nat), i + m = 100 → m < j → ∀ (g : GT) (h : HT), Both g h → F_aqueductlaw18_FdbDoes.l3 200 a2 j (i : Int) g.1 g.2.1 h.1 h.2.1 g.2.2 h.2.2 = .ok true := by
    intro m
    induction m with
    | zero =>
      intro i j hi hj g h b
      obtain ⟨j, rfl⟩ : ∃ i, j = i + 1 := ⟨j - 1, by omega⟩
      show F_aqueductlaw18_FdbDoes.l3_b _ _ _ _ _ _ _ _ _ _ _ _ _ _ _ _ = _
      unfold F_aqueductlaw18_FdbDoes.l3_b
      by_cases h1 : (i : Int) < a2.length
      · rw [O.cond_pos h1, O.cond_neg (by omega), fx, O.bind_ok]
      · rw [O.cond_neg h1, fx, O.bind_ok]
    | succ m ih =>
      intro i j hi hj g h b
      obtain ⟨j, rfl⟩ : ∃ i, j = i + 1 := ⟨j - 1, by omega⟩
      show F_aqueductlaw18_FdbDoes.l3_b _ _ _ _ _ _ _ _ _ _ _ _ _ _ _ _ = _
      unfold F_aqueductlaw18_FdbDoes.l3_b
      by_cases h1 : (i : Int) < a2.length
      · rw [O.cond_pos h1, O.cond_pos (by omega), O.chk_dec (by omega), O.chk_dec (by omega)]
        generalize gt ((0 : Int), (0 : Int), (0 : Int), ByteArray.empty) a2 (i : Int) = x
        have next : ∀ (g' : GT) (h' : HT), Both g' h' → F_aqueductlaw18_FdbDoes.l3 200 a2 j (IntKind.i64.wrap ((i : Int) + 1)) g'.1 g'.2.1 h'.1 h'.2.1 g'.2.2 h'.2.2 = .ok true := fun g' h' b' => by
          rw [i64_in _ (by omega)]
          exact ih (i + 1) j (by omega) (by omega) g' h' b'
        have sm : ∀ (g' : GT) (h' : HT), Both g' h' → h'.2.2.length ≤ 60 := fun g' h' b' => by have := b'.len; have := b'.inv.len; have := b'.small; omega
        have same : ∀ (g' : GT) (h' : HT), Both g' h' → F_aqueductref18_Same.S 200 (isort (vals g')) h'.2.2 = .ok true := fun g' h' b' => by
          have := sm g' h' b'
          rw [b'.rows, Same_S 200 _ _ (by omega) (by omega)]; simp
        rw [show ((g.1, g.2.1, g.2.2) : GT) = g from rfl, show ((h.1, h.2.1, h.2.2) : HT) = h from rfl]
        have hs := sm g h b
        by_cases k0 : x.1 = 0
        · obtain ⟨l1, b1⟩ := b.learn x.2.1 x.2.2.2 x.2.2.1
          have hs1 := sm _ _ b1
          rw [O.cond_pos k0, Learn_S, O.bind_ok, rLearn_S 200 _ _ _ h (by omega) (by omega), O.bind_ok, O.cond_neg (by rw [l1]; simp), Rows_S 200 b1.inv, O.bind_ok, same _ _ b1, O.bind_ok, Bool.not_true, O.cond_false]
          exact (does_l4 200 a2 (i : Int) _ _ _ _ 0 200 _ (Nat.zero_add _) (by show (isort (vals _)).length < 200; rw [b1.rows]; omega) (by show (isort (vals _)).length ≤ 1000; rw [b1.rows]; omega)).trans (next _ _ b1)
        rw [O.cond_neg k0]
        by_cases k1 : x.1 = 1
        · rw [O.cond_pos k1]
          obtain ⟨r, hr, hc⟩ := at_S 200 x.2.1 x.2.2.2 h (by omega) (by omega)
          rw [hr, O.bind_ok]
          have hkk := b.keys (x.2.1, x.2.2.2)
          have hx := b.rows
          rcases hc with ⟨rfl, hc⟩ | ⟨n, rfl, hn, hc⟩
          · have hm : mhas g.2.2 (x.2.1, x.2.2.2) = false := by
              cases hh : mhas g.2.2 (x.2.1, x.2.2.2) with
              | false => rfl
              | true => exact absurd (hkk.2 hh) hc
            rw [O.cond_pos (by omega), hm, mget_none _ hm, O.cond_neg (by simp), O.cond_neg (by simp), Rows_S 200 b.inv, O.bind_ok, same _ _ b, O.bind_ok, Bool.not_true, O.cond_false]
            exact (does_l5 200 a2 (i : Int) (-1, h) _ _ _ 0 200 _ (Nat.zero_add _) (by show (isort (vals _)).length < 200; rw [b.rows]; omega) (by show (isort (vals _)).length ≤ 1000; rw [b.rows]; omega)).trans (next _ _ b)
          · have hm : mhas g.2.2 (x.2.1, x.2.2.2) = true := hkk.1 (List.mem_map.2 ⟨_, List.getElem_mem hn, hc⟩)
            have hg : mget ((0 : Int), ByteArray.empty, (0 : Int), (0 : Int)) g.2.2 (x.2.1, x.2.2.2) = h.2.2[n] := by
              have m1 := mget_mem ((0 : Int), ByteArray.empty, (0 : Int), (0 : Int)) hm
              have m2 : h.2.2[n] ∈ vals g := b.perm.mem_iff.1 (List.getElem_mem hn)
              obtain ⟨e, he, e2⟩ := List.mem_map.1 m2
              have k1 : e.1 = (x.2.1, x.2.2.2) := by rw [← b.inv.key e he, e2, hc]
              have nd := b.inv.nodup
              have : e = ((x.2.1, x.2.2.2), mget ((0 : Int), ByteArray.empty, (0 : Int), (0 : Int)) g.2.2 (x.2.1, x.2.2.2)) := nodup_key nd he m1 k1
              rw [← e2, this]
            rw [O.cond_neg (by omega), O.chk_dec (show (0 : Int) ≤ (n : Int) ∧ (n : Int) < (List.length h.2.2 : Int) ∧ (List.length h.2.2 : Int) ≤ (List.length h.2.2 : Int) by omega), O.chk_dec (show (0 : Int) ≤ (n : Int) ∧ (n : Int) < (List.length h.2.2 : Int) by omega), hm, hg, gt_at _ h.2.2 n hn, O.cond_neg (by simp), O.cond_neg (by simp), Rows_S 200 b.inv, O.bind_ok, same _ _ b, O.bind_ok, Bool.not_true, O.cond_false]
            exact (does_l6 200 a2 (i : Int) ((n : Int), h) _ _ _ 0 200 _ (Nat.zero_add _) (by show (isort (vals _)).length < 200; rw [b.rows]; omega) (by show (isort (vals _)).length ≤ 1000; rw [b.rows]; omega)).trans (next _ _ b)
        rw [O.cond_neg k1]
        by_cases k2 : x.1 = 2
        · have b1 := b.tick
          have hs1 := sm _ _ b1
          have e1 := b.len
          have e2 := b1.len
          rw [O.cond_pos k2, Tick_S, O.bind_ok, rTick_S 200 h (by omega) (by omega), O.bind_ok, O.cond_neg (by
            have e3 : (h.2.2.filterMap (bumpV h.2.1)).length = (tickE g.2.1 g.2.2).length := e2
            show ¬ (IntKind.i64.wrap _ ≠ IntKind.i64.wrap _)
            rw [e1, e3]; simp), Rows_S 200 b1.inv, O.bind_ok, same _ _ b1, O.bind_ok, Bool.not_true, O.cond_false]
          exact (does_l7 200 a2 (i : Int) (_, h.1, h.2.1, h.2.2.filterMap (bumpV h.2.1)) _ _ _ 0 200 _ (Nat.zero_add _) (by show (isort (vals _)).length < 200; rw [b1.rows]; exact Nat.lt_of_le_of_lt hs1 (by omega)) (by show (isort (vals _)).length ≤ 1000; rw [b1.rows]; exact Nat.le_trans hs1 (by omega))).trans (next _ _ b1)
        rw [O.cond_neg k2]
        by_cases k3 : x.1 = 3
        · rw [O.cond_pos k3, O.cond_false, own_S, O.bind_ok, Learn_S, O.bind_ok, Tick_S, O.bind_ok, Rows_S 200 b.inv, O.bind_ok, same _ _ b, O.bind_ok, Bool.not_true, O.cond_false]
          exact (does_l8 200 a2 (i : Int) h.1 h.2.1 h.2.2 _ _ _ 0 200 _ (Nat.zero_add _) (by show (isort (vals _)).length < 200; rw [b.rows]; omega) (by show (isort (vals _)).length ≤ 1000; rw [b.rows]; omega)).trans (next _ _ b)
        · rw [O.cond_neg k3, Rows_S 200 b.inv, O.bind_ok, same _ _ b, O.bind_ok, Bool.not_true, O.cond_false]
          exact (does_l9 200 a2 (i : Int) h.1 h.2.1 h.2.2 _ _ _ 0 200 _ (Nat.zero_add _) (by show (isort (vals _)).length < 200; rw [b.rows]; omega) (by show (isort (vals _)).length ≤ 1000; rw [b.rows]; omega)).trans (next _ _ b)
      · rw [O.cond_neg h1, fx, O.bind_ok]
  unfold F_aqueductlaw18_FdbDoes.S F_aqueductlaw18_FdbDoes.top
  have hN : 1 ≤ max (1 : Int) (min a0 (60 : Int)) ∧ max (1 : Int) (min a0 (60 : Int)) ≤ 60 := by omega
  have hT : 1 ≤ max (1 : Int) (min a1 (65535 : Int)) ∧ max (1 : Int) (min a1 (65535 : Int)) ≤ 65535 := by omega
  generalize max (1 : Int) (min a0 (60 : Int)) = n at hN ⊢
  generalize max (1 : Int) (min a1 (65535 : Int)) = t at hT ⊢
  rw [New_ok 200 n t (by omega), O.sum_inr, rNew_ok 200 n t (by omega), O.sum_inr, O.cond_false, O.cond_false, O.cond_neg (by simp), O.cond_neg (by simp)]
  exact lp 100 0 200 (by omega) (by omega) (n, t, []) (n, t, []) ⟨inv_new n t (by omega) (by omega), List.Pairwise.nil, List.Perm.refl _, rfl, rfl, hN.2⟩
end Go.Proofs.Ythdmjbndfnolmaa
