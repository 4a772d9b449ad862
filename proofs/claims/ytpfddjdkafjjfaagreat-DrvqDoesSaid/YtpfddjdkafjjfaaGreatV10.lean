/- The evaluator is right: regions that draw their order. -/
import Derived.Test.YtpfddjdkafjjfaaGreatV9
import Derived.Orders
namespace Go.Aq
open Go.RowKit (Below)
set_option linter.unusedVariables false

section orders
variable {P : Program} {ops : Array Oper} {Q : Exit → Act → World → Prop} {G : Array Bool → World → Prop}

/-- What comes up is listed only behind what it waits for. -/
def Closed (ops : Array Oper) (listed : Array Bool) : Prop :=
  ∀ e o, ops[e]? = some o → listed.getD e false = true → ∀ ed ∈ o.after, Region.binds .any ed = true → listed.getD ed.on false = true
theorem Closed.set {listed : Array Bool} (h : Closed ops listed) {i : Nat} (hi : i ∈ Region.ready .any ops listed) : Closed ops (listed.setIfInBounds i true) := by
  intro e o ho hl ed hed hb
  obtain ⟨_, oi, hoi, hall⟩ := mem_ready.1 hi
  by_cases hei : i = e
  · subst hei
    rw [hoi] at ho; cases ho
    exact getD_set_true (hall ed hed hb)
  · rw [getD_set_ne false hei] at hl
    exact getD_set_true (h e o ho hl ed hed hb)

/-- Whichever order is drawn from here on; behind each operation G holds. -/
def wpAnyG (P : Program) (ops : Array Oper) (Q : Exit → Act → World → Prop) (G : Array Bool → World → Prop) : Nat → Array Bool → Act → World → Prop
  | 0, listed, a, w => Region.ready .any ops listed = [] ∧ Q .normal a w
  | fuel + 1, listed, a, w =>
    (Region.ready .any ops listed = [] → Q .normal a w) ∧
    ∀ i ∈ Region.ready .any ops listed, wpOp P ops Q i (fun a' w' => G (listed.setIfInBounds i true) w' ∧ wpAnyG P ops Q G fuel (listed.setIfInBounds i true) a' w') a w
theorem wpAny_of_G : ∀ (fuel : Nat) (listed : Array Bool) (a : Act) (w : World), wpAnyG P ops Q G fuel listed a w → wpAny P .any ops Q fuel listed a w
  | 0, _, _, _, h => h
  | fuel + 1, _, _, _, h => ⟨h.1, fun i hi => wpOp_mono (fun a' w' h' => wpAny_of_G fuel _ a' w' h'.2) (h.2 i hi)⟩

/-- As long as operation i isn't listed it yields v, wherever G holds. -/
def YieldsG (P : Program) (ops : Array Oper) (G : Array Bool → World → Prop) (i : Nat) (o : Oper) (v : Value) (a : Act) : Prop :=
  (Region.wanted o (yielded ops a.tmps) = true ∧ ∀ listed w, Closed ops listed → listed.getD i true = false → G listed w → (execOp a.eval o).run P w = .ok (.value v) w) ∨
  (Region.wanted o (yielded ops a.tmps) = false ∧ v = undef)
theorem YieldsG.wpOp {i : Nat} {o : Oper} {v : Value} {a : Act} (hi : ops[i]? = some o) (hy : YieldsG P ops G i o v a) {listed : Array Bool} {w : World} (hc : Closed ops listed) (hl : listed.getD i true = false) (hG : G listed w)
    {K : Act → World → Prop} (h : K (a.put o.dst v) w) : wpOp P ops Q i K a w := by
  unfold Go.wpOp
  simp only [hi]
  rcases hy with ⟨hw, hv⟩ | ⟨hw, rfl⟩
  · simp only [hw, if_true, Oper.wp, hv listed w hc hl hG, Oper.upon]; exact .inl h
  · simp only [hw, Bool.false_eq_true, if_false]; exact h
theorem YieldsG.of_same {i : Nat} {o : Oper} {v : Value} {a a' : Act} (hy : YieldsG P ops G i o v a) (he : execOp a'.eval o = execOp a.eval o)
    (hw : Region.wanted o (yielded ops a'.tmps) = Region.wanted o (yielded ops a.tmps)) : YieldsG P ops G i o v a' := by
  unfold YieldsG at *
  rw [he, hw]
  exact hy
theorem wpOp_putG {i j : Nat} {oi oj : Oper} {v : Value} (hj : ops[j]? = some oj) (hap : oi.apart ops oj = true)
    (hsi : ∀ cs b, oi.op ≠ .select cs b) (hsj : ∀ cs b, oj.op ≠ .select cs b)
    (hQ : ∀ c a w, Q (.panic c) (a.put oi.dst v) w → Q (.panic c) a w) {K : Act → World → Prop} {a : Act} {w : World}
    (hy : YieldsG P ops G i oi v a) (h : wpOp P ops Q j K (a.put oi.dst v) w) :
    wpOp P ops Q j (fun a' w' => YieldsG P ops G i oi v a' ∧ K (a'.put oi.dst v) w') a w := by
  obtain ⟨h1, h2, h3⟩ := Oper.apart_spec hap
  have keep : ∀ (a : Act), YieldsG P ops G i oi v a → ∀ u, YieldsG P ops G i oi v (a.put oj.dst u) := fun a hy u =>
    hy.of_same (execOp_put oi hsi a oj.dst u h3) (wanted_put oi a oj.dst u h3)
  have keepD : ∀ d, YieldsG P ops G i oi v { a with defers := d :: a.defers } := fun d => hy.of_same rfl rfl
  unfold wpOp at *
  simp only [hj] at *
  rw [wanted_put oj a oi.dst v h1] at h
  by_cases hw : Region.wanted oj (yielded ops a.tmps) = true
  · rw [if_pos hw] at h ⊢
    rcases h with h | ⟨hasks, hlets⟩
    · refine .inl ?_
      unfold Oper.wp at *
      rw [execOp_put oj hsj a oi.dst v h1] at h
      generalize (execOp a.eval oj).run P w = r at *
      cases r with
      | ok nx w' =>
        cases nx <;> simp only [Oper.upon] at h ⊢
        case value u => exact ⟨keep a hy u, by rw [← Act.put_comm a v u h2]; exact h⟩
        case skip => exact ⟨keep a hy _, by rw [← Act.put_comm a v undef h2]; exact h⟩
        case defer d =>
          refine ⟨keep _ (keepD d) _, ?_⟩
          rw [← Act.put_comm _ v undef h2, ← Act.put_defers]
          exact h
        case enter f args =>
          refine Calls.mono h fun e w'' he => ?_
          cases e with
          | returned u => exact ⟨keep a hy u, by rw [← Act.put_comm a v u h2]; exact he⟩
          | panicked c => exact hQ _ _ _ he
          | outgrown => exact he
        case row row args => exact Rows.mono h fun u w'' he => ⟨keep a hy u, by rw [← Act.put_comm a v u h2]; exact he⟩
      | halt x w' =>
        cases x <;> simp only [Oper.upon] at h ⊢
        case panic u => exact hQ _ _ _ h
    · exact .inr ⟨by unfold Oper.asks at *; rw [execOp_put oj hsj a oi.dst v h1] at hasks; exact hasks, hlets⟩
  · rw [if_neg hw] at h ⊢
    exact ⟨keep a hy _, by rw [← Act.put_comm a v undef h2]; exact h⟩

/-- A quiet operation that may come up may be taken first. -/
theorem wpAnyG_first {i : Nat} {oi : Oper} {v : Value} (hi : ops[i]? = some oi) (hsel : ∀ (j : Nat) (o : Oper) cs b, ops[j]? = some o → o.op ≠ .select cs b)
    (hQ : ∀ c a w, Q (.panic c) (a.put oi.dst v) w → Q (.panic c) a w)
    (hGi : ∀ listed w, G listed w ↔ G (listed.setIfInBounds i true) w) :
    ∀ (fuel : Nat) (listed : Array Bool) (a : Act) (w : World),
      (∀ j oj, ops[j]? = some oj → j ≠ i → listed.getD j true = false → (∀ e ∈ oj.after, Region.binds .any e = true → e.on ≠ i) → oi.apart ops oj = true) →
      i ∈ Region.ready .any ops listed → Closed ops listed → YieldsG P ops G i oi v a → G listed w →
      wpAnyG P ops Q G fuel (listed.setIfInBounds i true) (a.put oi.dst v) w → wpAnyG P ops Q G (fuel + 1) listed a w := by
  intro fuel
  induction fuel with
  | zero =>
    intro listed a w _ hr hc hy hG H
    refine ⟨fun h => (by rw [h] at hr; cases hr), fun j hj => ?_⟩
    by_cases hji : j = i
    · subst hji
      exact hy.wpOp hi hc (mem_ready.1 hr).1 hG ⟨(hGi listed w).1 hG, H⟩
    · have := ready_mono hj hji
      rw [H.1] at this
      cases this
  | succ fuel ih =>
    intro listed a w hfree hr hc hy hG H
    refine ⟨fun h => (by rw [h] at hr; cases hr), fun j hj => ?_⟩
    by_cases hji : j = i
    · subst hji
      exact hy.wpOp hi hc (mem_ready.1 hr).1 hG ⟨(hGi listed w).1 hG, H⟩
    · have h1 := H.2 j (ready_mono hj hji)
      obtain ⟨hjun, oj, hoj, hall⟩ := mem_ready.1 hj
      have hnot : ∀ e ∈ oj.after, Region.binds .any e = true → e.on ≠ i := fun e he hb heq => by
        have h1 := hall e he hb
        have h0 := (mem_ready.1 hr).1
        rw [heq] at h1
        rcases Nat.lt_or_ge i listed.size with h' | h'
        · simp [h'] at h0 h1; rw [h0] at h1; cases h1
        · simp [Array.getElem?_eq_none h'] at h1
      have h2 := wpOp_putG hoj (hfree j oj hoj hji hjun hnot) (fun cs b => hsel i oi cs b hi) (fun cs b => hsel j oj cs b hoj) hQ hy h1
      have hfree' : ∀ k ok, ops[k]? = some ok → k ≠ i → (listed.setIfInBounds j true).getD k true = false →
          (∀ e ∈ ok.after, Region.binds .any e = true → e.on ≠ i) → oi.apart ops ok = true := fun k ok hk hki hun hno => by
        refine hfree k ok hk hki ?_ hno
        by_cases hjk : j = k
        · subst hjk; exact hjun
        · rw [getD_set_ne true hjk] at hun; exact hun
      refine wpOp_mono (fun a' w' h3 => ?_) h2
      have hG' : G (listed.setIfInBounds j true) w' := by
        refine (hGi _ _).2 ?_
        rw [Array.setIfInBounds_comm _ _ hji]
        exact h3.2.1
      refine ⟨hG', ih (listed.setIfInBounds j true) a' w' hfree' (ready_mono hr (Ne.symm hji)) (hc.set hj) h3.1 hG' ?_⟩
      rw [Array.setIfInBounds_comm _ _ hji]
      exact h3.2.2
theorem wpAnyG_all {rs : List Nat} {fuel : Nat} {listed : Array Bool} {a : Act} {w : World} (hr : Region.ready .any ops listed = rs) (hne : rs ≠ [])
    (h : ∀ i ∈ rs, wpOp P ops Q i (fun a' w' => G (listed.setIfInBounds i true) w' ∧ wpAnyG P ops Q G fuel (listed.setIfInBounds i true) a' w') a w) : wpAnyG P ops Q G (fuel + 1) listed a w :=
  ⟨fun h0 => absurd (hr ▸ h0) hne, hr ▸ h⟩
theorem wpAnyG_weaken {G' : Array Bool → World → Prop} (hG : ∀ l u, G l u → G' l u) : ∀ (fuel : Nat) (listed : Array Bool) (a : Act) (w : World), wpAnyG P ops Q G fuel listed a w → wpAnyG P ops Q G' fuel listed a w
  | 0, _, _, _, h => h
  | fuel + 1, _, _, _, h => ⟨h.1, fun i hi => wpOp_mono (fun a' w' h' => ⟨hG _ _ h'.1, wpAnyG_weaken hG fuel _ a' w' h'.2⟩) (h.2 i hi)⟩
theorem wpAnyG_done {listed : Array Bool} {a : Act} {w : World} (hr : Region.ready .any ops listed = []) (h : Q .normal a w) : ∀ fuel, wpAnyG P ops Q G fuel listed a w
  | 0 => ⟨hr, h⟩
  | _ + 1 => ⟨fun _ => h, by rw [hr]; simp⟩
end orders

/-! ### The looks of a region -/
theorem slotsOf_eq (l : List Operand) : slotsOf l = l.filterMap fun | .tmp t => some t | _ => none := by
  induction l with
  | nil => rfl
  | cons x xs ih => cases x <;> simp [slotsOf, ih]
theorem looksAt_eq (ops : Array Oper) (o : Oper) : looksAt ops o = o.looksAt ops := by
  unfold looksAt Oper.looksAt
  rw [slotsOf_eq]
  rfl
theorem beq_ne {a b : Nat} (h : (!(Nat.beq a b)) = true) : a ≠ b := by
  rintro rfl
  rw [Nat.beq_refl] at h
  cases h
theorem apartOk_apart {ops : Array Oper} {x y : Oper} (h : apartOk ops x y = true) : x.apart ops y = true := by
  unfold apartOk at h
  unfold Oper.apart
  rw [looksAt_eq, looksAt_eq] at h
  have hh : ∀ (d : Nat) (l : List Nat), (!(has d l)) = true → (!l.contains d) = true := by
    intro d l h
    rw [Bool.not_eq_true', Bool.eq_false_iff] at h ⊢
    intro h'
    exact h (has_mem.2 (by simpa using h'))
  cases hx : x.dst with
  | none =>
    cases hy : y.dst with
    | none => simp
    | some e =>
      rw [hx, hy] at h
      simp only [Bool.true_and] at h ⊢
      exact hh _ _ h
  | some d =>
    cases hy : y.dst with
    | none =>
      rw [hx, hy] at h
      simp only [Bool.and_true] at h ⊢
      simp only [Bool.and_eq_true]
      exact ⟨hh _ _ h, by simp⟩
    | some e =>
      rw [hx, hy] at h
      simp only [Bool.and_eq_true] at h ⊢
      exact ⟨⟨hh _ _ h.1.1, by have := beq_ne h.1.2; simpa using this⟩, hh _ _ h.2⟩
theorem freeNow_spec {ops : Array Oper} {listed : Array Bool} {i : Nat} {oi : Oper} (hi : ops[i]? = some oi) (h : freeNow ops listed i = true) (j : Nat) (oj : Oper)
    (hj : ops[j]? = some oj) (hne : j ≠ i) (hun : listed.getD j true = false) (hno : ∀ e ∈ oj.after, Region.binds .any e = true → e.on ≠ i) : oi.apart ops oj = true := by
  simp only [freeNow, hi, List.all_eq_true, List.mem_range] at h
  have h1 := h j (Array.getElem?_eq_some_iff.1 hj).1
  simp only [hj, hun, Bool.or_false, Bool.or_eq_true] at h1
  rcases h1 with h1 | h1 | h1
  · exact absurd (Nat.eq_of_beq_eq_true h1) hne
  · obtain ⟨e, he, hb⟩ := Array.any_eq_true'.1 h1
    simp only [Bool.and_eq_true] at hb
    exact absurd (Nat.eq_of_beq_eq_true hb.2) (hno e he hb.1)
  · exact apartOk_apart h1
theorem noSelect_at {ops : List Oper} (h : noSelect ops = true) : ∀ (j : Nat) (o : Oper) cs b, ops[j]? = some o → o.op ≠ .select cs b := by
  induction ops with
  | nil => intro j o cs b ho; simp at ho
  | cons x xs ih =>
    intro j o cs b ho
    simp only [noSelect, Bool.and_eq_true] at h
    cases j with
    | zero =>
      simp only [List.getElem?_cons_zero, Option.some.injEq] at ho
      subst ho
      intro heq
      rw [heq] at h
      exact absurd h.1 (by simp)
    | succ j => simp only [List.getElem?_cons_succ] at ho; exact ih h.2 j o cs b ho

mutual
theorem ren_same {n : Nat} : ∀ v : SV, (∀ j ∈ namesOf v, j < n) → renS (rn n []) v = v
  | .int _ _, _ | .bool _, _ | .str _, _ | .nilp, _ | .nilsl, _ | .nilf, _ | .nili, _ | .nilm, _ => by simp [renS]
  | .ptr j off, h => by simp [renS, rn, show Nat.blt j n = true from Nat.ble_eq_true_of_le (h j (by simp [namesOf]))]
  | .ept j sz i off, h => by simp [renS, rn, show Nat.blt j n = true from Nat.ble_eq_true_of_le (h j (by simp [namesOf]))]
  | .mp j, h => by simp [renS, rn, show Nat.blt j n = true from Nat.ble_eq_true_of_le (h j (by simp [namesOf]))]
  | .osl j, h => by simp [renS, rn, show Nat.blt j n = true from Nat.ble_eq_true_of_le (h j (by simp [namesOf]))]
  | .sl j sz ch m, h => by simp [renS, rn, show Nat.blt j n = true from Nat.ble_eq_true_of_le (h j (by simp [namesOf]))]
  | .csl j m, h => by simp [renS, rn, show Nat.blt j n = true from Nat.ble_eq_true_of_le (h j (by simp [namesOf]))]
  | .clo f cs, h => by simp only [renS]; rw [renL_same cs (by simpa [namesOf] using h)]
  | .iface t v, h => by simp only [renS]; rw [ren_same v (by simpa [namesOf] using h)]
  | .agg cs, h => by simp only [renS]; rw [renL_same cs (by simpa [namesOf] using h)]
  | .tup cs, h => by simp only [renS]; rw [renL_same cs (by simpa [namesOf] using h)]
theorem renL_same {n : Nat} : ∀ vs : List SV, (∀ j ∈ namesL vs, j < n) → renL (rn n []) vs = vs
  | [], _ => by simp [renL]
  | v :: vs, h => by
    simp only [renL]
    rw [ren_same v (fun j hj => h j (by simp [namesL, hj])), renL_same vs (fun j hj => h j (by simp [namesL, hj]))]
end
theorem svLt_names {n : Nat} : ∀ {v : SV}, (∀ j ∈ namesOf v, j < n) → svLt n v = true := by
  intro v h
  have := (den_ren (fun _ => .pointer none) n [] v (fun j hj => .inl (h j hj))).2
  have e : ∀ v, (∀ j ∈ namesOf v, j < n) → renS (rn n []) v = v := fun v h => (ren_same v h)
  rw [e v h] at this
  simpa using this
theorem acts_quiet {Z : List Nat} {tab : Tab} {ops : Array Oper} {listed : Array Bool} {i : Nat} {o : Oper} (hi : ops[i]? = some o) (hq : isEff Z tab o = false) : acts Z tab ops (listed.setIfInBounds i true) = acts Z tab ops listed := by
  unfold acts
  congr 1
  funext e
  by_cases hie : i = e
  · subst hie
    rw [hi]
    simp [hq]
  · rw [getD_set_ne false hie]
theorem pend_quiet {Z : List Nat} {tab : Tab} {ops : Array Oper} {listed : Array Bool} {i : Nat} {o : Oper} (hi : ops[i]? = some o) (hq : isEff Z tab o = false) : pend Z tab ops (listed.setIfInBounds i true) = pend Z tab ops listed := by
  unfold pend gone; rw [acts_quiet hi hq]
theorem pendX_quiet {L : List Nat} {Z : List Nat} {tab : Tab} {ops : Array Oper} {listed : Array Bool} {i : Nat} {o : Oper} (hi : ops[i]? = some o) (hq : isEff Z tab o = false) : pendX L Z tab ops (listed.setIfInBounds i true) = pendX L Z tab ops listed := by
  unfold pendX gone; rw [acts_quiet hi hq]
theorem pendIn_mono {L L' : List Nat} {Z : List Nat} {tab : Tab} {ops : Array Oper} {G G' : List Nat} (hL : ∀ x, x ∈ L' → x ∈ L) (hG : ∀ x, x ∈ G' → x ∈ G) (h : pendIn L Z tab ops G = true) : pendIn L' Z tab ops G' = true := by
  unfold pendIn at h ⊢
  rw [List.any_eq_true] at h ⊢
  obtain ⟨l, hl, h⟩ := h
  simp only [Bool.and_eq_true, Bool.not_eq_true', Bool.eq_false_iff] at h ⊢
  exact ⟨l, hl, ⟨fun c => h.1.1 (has_mem.2 (hL l (has_mem.1 c))), h.1.2⟩, fun c => h.2 (has_mem.2 (hG l (has_mem.1 c)))⟩
theorem pendX_pend {L : List Nat} {Z : List Nat} {tab : Tab} {ops : Array Oper} {listed : Array Bool} (h : pendX L Z tab ops listed = true) : pend Z tab ops listed = true :=
  pendIn_mono (fun x hx => by cases hx) (fun x hx => hx) h
theorem anc1_mem {ops : Array Oper} {i : Nat} {A : List Nat} {x : Nat} : x ∈ anc1 ops i A ↔ x ∈ A ∨ (i ∈ A ∧ ∃ o, ops[i]? = some o ∧ x ∈ onsOf o) := by
  unfold anc1
  cases hA : has i A with
  | true =>
    have hm := has_mem.1 hA
    cases ho : ops[i]? with
    | none => simp
    | some o => simp only [List.mem_append]; constructor
                · rintro (h | h)
                  · exact .inr ⟨hm, o, rfl, h⟩
                  · exact .inl h
                · rintro (h | ⟨_, o', e, h⟩)
                  · exact .inr h
                  · cases e; exact .inl h
  | false =>
    have hm : ¬ i ∈ A := fun h => by rw [has_mem.2 h] at hA; cases hA
    simp [hm]
theorem ancs_mono {ops : Array Oper} : ∀ (n : Nat) {A B : List Nat}, (∀ x, x ∈ A → x ∈ B) → ∀ x, x ∈ ancs ops n A → x ∈ ancs ops n B
  | 0, _, _, h, x, hx => h x hx
  | n + 1, A, B, h, x, hx => by
    refine ancs_mono n ?_ x hx
    intro y hy
    rw [anc1_mem] at hy ⊢
    rcases hy with hy | ⟨h1, h2⟩
    · exact .inl (h y hy)
    · exact .inr ⟨h n h1, h2⟩
theorem acts_mono {Z : List Nat} {tab : Tab} {ops : Array Oper} {listed : Array Bool} {i : Nat} : ∀ x, x ∈ acts Z tab ops listed → x ∈ acts Z tab ops (listed.setIfInBounds i true) := by
  intro x hx
  unfold acts at hx ⊢
  rw [List.mem_filter] at hx ⊢
  refine ⟨hx.1, ?_⟩
  simp only [Bool.and_eq_true] at hx ⊢
  exact ⟨getD_set_true hx.2.1, hx.2.2⟩
/-- As long as a load may be to come it may have been ahead. -/
theorem pend_back {Z : List Nat} {tab : Tab} {ops : Array Oper} {listed : Array Bool} {i : Nat} (hp : pend Z tab ops (listed.setIfInBounds i true) = true) : pend Z tab ops listed = true :=
  pendIn_mono (fun x hx => hx) (ancs_mono _ acts_mono) hp
theorem pendX_back {L : List Nat} {Z : List Nat} {tab : Tab} {ops : Array Oper} {listed : Array Bool} {i : Nat} (hp : pendX L Z tab ops (listed.setIfInBounds i true) = true) : pendX L Z tab ops listed = true :=
  pendIn_mono (fun x hx => hx) (ancs_mono _ acts_mono) hp
theorem ancs_listed {ops : Array Oper} {listed : Array Bool} (hc : Closed ops listed) : ∀ (n : Nat) {A : List Nat}, (∀ x, x ∈ A → listed.getD x false = true) → ∀ x, x ∈ ancs ops n A → listed.getD x false = true
  | 0, _, h, x, hx => h x hx
  | n + 1, A, h, x, hx => by
    refine ancs_listed hc n ?_ x hx
    intro y hy
    rw [anc1_mem] at hy
    rcases hy with hy | ⟨h1, o, ho, hy⟩
    · exact h y hy
    · unfold onsOf at hy
      rw [List.mem_map] at hy
      obtain ⟨ed, hed, rfl⟩ := hy
      rw [List.mem_filter] at hed
      exact hc n o ho (h n h1) ed (Array.mem_toList_iff.1 hed.1) hed.2
theorem pendIn_of_load {L : List Nat} {Z : List Nat} {tab : Tab} {ops : Array Oper} {listed : Array Bool} {i : Nat} {o : Oper} (hi : ops[i]? = some o) (hl : isLd Z tab o = true) (hc : Closed ops listed) (hun : listed.getD i true = false) (hL : has i L = false) : pendIn L Z tab ops (gone Z tab ops listed) = true := by
  unfold pendIn
  rw [List.any_eq_true]
  refine ⟨i, List.mem_range.2 (Array.getElem?_eq_some_iff.1 hi).1, ?_⟩
  rw [hi]
  simp only [hl, hL, Bool.not_false, Bool.true_and, Bool.and_eq_true, Bool.not_eq_true', Bool.eq_false_iff, true_and]
  intro hg
  have := ancs_listed hc ops.size (A := acts Z tab ops listed) (fun x hx => by
    unfold acts at hx
    rw [List.mem_filter, Bool.and_eq_true] at hx
    exact hx.2.1) i (has_mem.1 hg)
  rcases Nat.lt_or_ge i listed.size with h' | h'
  · simp [h'] at hun this; rw [hun] at this; cases this
  · simp [Array.getElem?_eq_none h'] at this
theorem pend_of_load {Z : List Nat} {tab : Tab} {ops : Array Oper} {listed : Array Bool} {i : Nat} {o : Oper} (hi : ops[i]? = some o) (hl : isLd Z tab o = true) (hc : Closed ops listed) (hun : listed.getD i true = false) : pend Z tab ops listed = true := pendIn_of_load hi hl hc hun rfl
theorem pendX_of_load {L : List Nat} {Z : List Nat} {tab : Tab} {ops : Array Oper} {listed : Array Bool} {i : Nat} {o : Oper} (hi : ops[i]? = some o) (hl : isLd Z tab o = true) (hc : Closed ops listed) (hun : listed.getD i true = false) (hL : has i L = false) : pendX L Z tab ops listed = true := pendIn_of_load hi hl hc hun hL

theorem lkp_envOut {ops : List Oper} {env : Env} {t : Nat} {v : SV} (h : lkp t (envOut ops env) = some v) : lkp t env = some v ∧ ∀ o ∈ ops, o.dst ≠ some t := by
  have hd : ∀ {env : Env}, lkp t (envOut ops env) = some v → ∀ o ∈ ops, o.dst ≠ some t := by
    intro env
    induction env with
    | nil => intro h; simp [envOut, lkp] at h
    | cons x xs ih =>
      obtain ⟨s, u⟩ := x
      intro h
      simp only [envOut] at h
      by_cases hc : (ops.any (isDst s)) = true
      · rw [hc, cond_true] at h; exact ih h
      · rw [Bool.not_eq_true] at hc
        rw [hc, cond_false, lkp_cons] at h
        split at h
        · rename_i e; subst e
          intro o ho hos
          rw [← Bool.not_eq_true] at hc
          exact hc (List.any_eq_true.2 ⟨o, ho, by unfold isDst; rw [hos]; exact Nat.beq_refl _⟩)
        · exact ih h
  refine ⟨?_, hd h⟩
  induction env with
  | nil => simp [envOut, lkp] at h
  | cons x xs ih =>
    obtain ⟨s, u⟩ := x
    have h0 := h
    simp only [envOut] at h
    rw [lkp_cons]
    by_cases hc : (ops.any (isDst s)) = true
    · rw [hc, cond_true] at h
      have hne : ¬ s = t := by
        rintro rfl
        obtain ⟨o, ho, hos⟩ := List.any_eq_true.1 hc
        unfold isDst at hos
        split at hos
        · rename_i d hdd
          have := Nat.eq_of_beq_eq_true hos
          subst this
          exact hd h0 o ho hdd
        · cases hos
      rw [if_neg hne]
      exact ih h
    · rw [Bool.not_eq_true] at hc
      rw [hc, cond_false, lkp_cons] at h
      split
      · rename_i e; rw [if_pos e] at h; exact h
      · rename_i e; rw [if_neg e] at h; exact ih h

section
variable {P : Program} {Z : List Nat} {tab : Tab} {T : Type} {cal : Cal T} {S : Nat → Prop} {w0 : World} {E : Entry} {n : Nat}

theorem Post.mono {K K' : Ex → Fr → St → O T} {res : O T} (h : ∀ e ν fr st a w, Good S w0 E n ν fr st a w → K e fr st = res → K' e fr st = res) :
    ∀ e a w, Post S w0 E n K res e a w → Post S w0 E n K' res e a w := by
  intro e a w hp
  cases e with
  | normal => obtain ⟨ν, fr, st, hg, hk⟩ := hp; exact ⟨ν, fr, st, hg, h _ _ _ _ _ _ hg hk⟩
  | exit id => obtain ⟨ν, fr, st, hg, hk⟩ := hp; exact ⟨ν, fr, st, hg, h _ _ _ _ _ _ hg hk⟩
  | ret => obtain ⟨ν, fr, st, hg, hk⟩ := hp; exact ⟨ν, fr, st, hg, h _ _ _ _ _ _ hg hk⟩
  | panic ch => obtain ⟨ν, fr, st, e, hg, hc, hk⟩ := hp; exact ⟨ν, fr, st, e, hg, hc, h _ _ _ _ _ _ hg hk⟩
  | goto l => exact hp
  | outgrown => exact hp


/-- As Post; but where it ends in a panic only the slots that the region doesn't write are told. -/
def PostD (S : Nat → Prop) (w0 : World) (E : Entry) (n : Nat) (d0 : Bool) (envP : Env) (K : Fr → St → O T) (Kp : PV → Fr → St → O T) (res : O T) : Exit → Act → World → Prop
  | .normal, a, w => ∃ ν fr st, Good S w0 E n ν fr (st.wash (d0 || st.dirty)) a w ∧ K fr st = res
  | .panic ch, a, w => ∃ ν fr st e, Good S w0 E n ν fr (st.wash (d0 || st.dirty)) a w ∧ fr.env = envP ∧ ch = panOf e ∧ Kp e fr st = res
  | _, _, _ => False

/-- What holds as long as a load may be to come: what was known lies as it lay; as long as one of some loads may be: what those look at. -/
def GD (Z : List Nat) (tab : Tab) (ops : Array Oper) (L W : List Nat) (νs : Nat → Value) (sts : St) (ws : World) (listed : Array Bool) (w : World) : Prop :=
  (pendX L Z tab ops listed = true → ∀ b, b < ws.heap.size → w.heap[b]? = ws.heap[b]?) ∧
  (pend Z tab ops listed = true → ∀ j, has j W = true → j < sts.nx → ∀ b, νs j = .pointer (some ⟨b, 0, none⟩) → b < ws.heap.size → w.heap[b]? = ws.heap[b]?)
theorem GD.refl {Z : List Nat} {tab : Tab} {ops : Array Oper} {L W : List Nat} {νs : Nat → Value} {sts : St} {ws : World} {listed : Array Bool} : GD Z tab ops L W νs sts ws listed ws := ⟨fun _ _ _ => rfl, fun _ _ _ _ _ _ _ => rfl⟩
theorem has_iff {t : Nat} : ∀ {l : List Nat}, has t l = true ↔ t ∈ l
  | [] => by simp [has]
  | s :: r => by simp only [has, Bool.or_eq_true, List.mem_cons, has_iff]; constructor <;> rintro (h | h) <;> first | exact .inl (Nat.eq_of_beq_eq_true h).symm | exact .inr h | exact .inl (by subst h; exact Nat.beq_refl _)
theorem evA_store {sl : List Nat} {T : Type} {tab : Tab} {cal : Cal T} {W : List Nat} {o : Op} {env : Env} {st : St} (h : storeOk W o env st = true) {K : SV → St → O T} {Kp : PV → St → O T} (hne : evA tab cal sl o env st K Kp ≠ .no) :
    ∃ j o1, has j W = false ∧ W.all (cellsAt st.H) = true ∧ ∀ K' Kp', evA tab cal sl o env st K' Kp' = K' (.tup []) (st.put j o1) := by
  unfold storeOk at h
  split at h
  · rename_i t a x
    split at h
    · rename_i j off ha
      simp only [Bool.and_eq_true, Bool.not_eq_true'] at h
      simp only [evA, ha] at hne ⊢
      cases hk : lkp t tab with
      | none => rw [hk] at hne; exact absurd rfl hne
      | some k =>
        cases hx : ofOpd env x with
        | none => rw [hk, hx] at hne; exact absurd rfl hne
        | some v =>
          rw [hk, hx] at hne
          simp only at hne ⊢
          cases hj : lkp j st.H with
          | none => rw [hj] at hne; exact absurd rfl hne
          | some oj =>
            rw [hj] at hne
            cases oj with
            | row own e ls xs => exact absurd rfl hne
            | map t ka va kl vl es => exact absurd rfl hne
            | tab _ _ _ => exact absurd rfl hne
            | cells T' vs =>
              simp only at hne ⊢
              by_cases hc : (Nat.beq v.cellsOf.length k.size && Nat.ble (off + k.size) vs.length && v.cellsOf.all isLeaf) = true
              · refine ⟨j, .cells T' (setPart off v.cellsOf vs), h.1, h.2, fun K' Kp' => ?_⟩
                rw [hc, ifb_true]
              · rw [Bool.not_eq_true] at hc; rw [hc] at hne; exact absurd rfl hne
    · cases h
  · cases h

theorem evStep_sound (hT : tabChk P tab = true) (hC : CalOk P cal) (d0 : Bool) {ops : Array Oper} {L W : List Nat} (hsel : noSelect ops.toList = true)
    {envP : Env} (hP : ∀ t v, lkp t envP = some v → ∀ o ∈ ops.toList, o.dst ≠ some t) {K : Fr → St → O T} {Kp : PV → Fr → St → O T} {res : O T} (hne : res ≠ .no) (i f : Nat) (listed : Array Bool) {R : List Nat → St → Fr → St → O T}
    (HR : ∀ (νs : Nat → Value) (sts : St) (ws : World), RelW S w0 νs sts ws → ∀ (sl : List Nat) (ν : Nat → Value) (fr : Fr) (st : St) (a : Act) (w : World), Good S w0 E n ν fr (st.wash (d0 || st.dirty)) a w → EnvOk ν n st.nx ⟨envP, fr.dfs, fr.base, []⟩ a → Step νs sts ws ν st w →
      GD Z tab ops L W νs sts ws (listed.setIfInBounds i true) w → R sl sts fr st = res → wpAnyG P ops (PostD S w0 E n d0 envP K Kp res) (GD Z tab ops L W νs sts ws) f (listed.setIfInBounds i true) a w)
    (νs : Nat → Value) (sts : St) (ws : World) (hRs : RelW S w0 νs sts ws) (sl : List Nat) (ν : Nat → Value) (fr : Fr) (st : St) (a : Act) (w : World) (hg : Good S w0 E n ν fr (st.wash (d0 || st.dirty)) a w) (hE' : EnvOk ν n st.nx ⟨envP, fr.dfs, fr.base, []⟩ a) (hst : Step νs sts ws ν st w)
    (hc : Closed ops listed) (hG : GD Z tab ops L W νs sts ws listed w) (hri : i ∈ Region.ready .any ops listed) {o : Oper} (hoi : ops[i]? = some o) (hfree : isEff Z tab o = false → freeNow ops listed i = true)
    (h : evStep Z tab cal L W n ops sts envP i listed sl fr st R Kp = res) :
    (isEff Z tab o = false ∧ wpAnyG P ops (PostD S w0 E n d0 envP K Kp res) (GD Z tab ops L W νs sts ws) (f + 1) listed a w) ∨
    (isEff Z tab o = true ∧ wpOp P ops (PostD S w0 E n d0 envP K Kp res) i (fun a' w' => GD Z tab ops L W νs sts ws (listed.setIfInBounds i true) w' ∧ wpAnyG P ops (PostD S w0 E n d0 envP K Kp res) (GD Z tab ops L W νs sts ws) f (listed.setIfInBounds i true) a' w') a w) := by
  unfold evStep at h
  rw [hoi] at h
  simp only at h
  have hmem : o ∈ ops.toList := by
    have := Array.getElem?_toList (xs := ops) (i := i)
    rw [hoi] at this
    exact List.mem_of_getElem? this
  by_cases hd : okDst n o.dst = true
  case neg => rw [Bool.not_eq_true] at hd; rw [hd] at h; exact absurd h.symm hne
  rw [hd, ifb_true] at h
  have hdst : ∀ t, o.dst = some t → t < n := by
    intro t ht
    rw [ht] at hd
    exact Nat.le_of_ble_eq_true hd
  -- the state behind a value
  have putP : ∀ (ν' : Nat → Value) (st' : St) (a' : Act) (v : Value), EnvOk ν' n st'.nx ⟨envP, fr.dfs, fr.base, []⟩ a' → EnvOk ν' n st'.nx ⟨envP, fr.dfs, fr.base, []⟩ (a'.put o.dst v) := by
    intro ν' st' a' v hE
    cases hod : o.dst with
    | none => exact hE
    | some d =>
      refine ⟨by simp [Act.put, hE.size], fun t u hu => ?_, hE.dfs, hE.dlt⟩
      have := hE.get t u hu
      refine ⟨?_, this.2⟩
      have hdt : d ≠ t := fun e => hP t u hu o hmem (e ▸ hod)
      simp [Act.put, hdt, this.1]
  have quiet : isEff Z tab o = false → ∀ sl fr' v, Good S w0 E n ν fr' (st.wash (d0 || st.dirty)) a w → fr'.dfs = fr.dfs → fr'.base = fr.base → svLt st.nx v = true → YieldsG P ops (GD Z tab ops L W νs sts ws) i o (den ν v) a →
      R sl sts (fr'.put o.dst v) st = res →
      (isEff Z tab o = false ∧ wpAnyG P ops (PostD S w0 E n d0 envP K Kp res) (GD Z tab ops L W νs sts ws) (f + 1) listed a w) ∨ (isEff Z tab o = true ∧ wpOp P ops (PostD S w0 E n d0 envP K Kp res) i (fun a' w' => GD Z tab ops L W νs sts ws (listed.setIfInBounds i true) w' ∧ wpAnyG P ops (PostD S w0 E n d0 envP K Kp res) (GD Z tab ops L W νs sts ws) f (listed.setIfInBounds i true) a' w') a w) := by
    intro hq sl fr' v hg' hdf hba hv hy hk
    refine .inl ⟨hq, ?_⟩
    have hr := hri
    have hGi : ∀ listed w, GD Z tab ops L W νs sts ws listed w ↔ GD Z tab ops L W νs sts ws (listed.setIfInBounds i true) w := by
      intro listed w
      unfold GD
      rw [pend_quiet hoi hq, pendX_quiet hoi hq]
    refine wpAnyG_first hoi (fun j o cs b hj => noSelect_at hsel j o cs b (by rw [Array.getElem?_toList]; exact hj)) ?_ hGi f listed a w (freeNow_spec hoi (hfree hq)) hr hc hy hG ?_
    · intro ch a' w' hp
      obtain ⟨ν', fr'', st', e, hg'', hen, hch, hk'⟩ := hp
      refine ⟨ν', fr'', st', e, ⟨hg''.rel, ⟨?_, ?_, ?_, hg''.env.dlt⟩, hg''.frb, hg''.step⟩, hen, hch, hk'⟩
      · have := hg''.env.size
        cases hod : o.dst <;> rw [hod] at this <;> simpa [Act.put] using this
      · intro t u hu
        have hget := hg''.env.get t u hu
        refine ⟨?_, hget.2⟩
        rw [hen] at hu
        cases hod : o.dst with
        | none => rw [hod] at hget; exact hget.1
        | some d =>
          have hdt : d ≠ t := fun e => hP t u hu o hmem (e ▸ hod)
          rw [hod] at hget
          simpa [Act.put, Array.getElem?_setIfInBounds, hdt] using hget.1
      · have := hg''.env.dfs
        cases hod : o.dst <;> rw [hod] at this <;> exact this
    · refine HR νs sts ws hRs _ ν _ st _ w (hg'.put hdst hv) ?_ hst ((hGi _ _).1 hG) hk
      have := putP ν st a (den ν v) hE'
      have e1 : (fr'.put o.dst v).dfs = fr.dfs := by cases o.dst <;> exact hdf
      have e2 : (fr'.put o.dst v).base = fr.base := by cases o.dst <;> exact hba
      rw [e1, e2]
      exact this
  have run : ∀ (sl0 : List Nat) (sl : SV → List Nat) fr', Good S w0 E n ν fr' (st.wash (d0 || st.dirty)) a w → fr'.dfs = fr.dfs → fr'.base = fr.base → Region.wanted o (yielded ops a.tmps) = true →
      doD Z tab cal sl0 L W ops sts envP i o listed fr' st (fun v sts st => R (sl v) sts (fr'.put o.dst v) st) Kp = res →
      (isEff Z tab o = false ∧ wpAnyG P ops (PostD S w0 E n d0 envP K Kp res) (GD Z tab ops L W νs sts ws) (f + 1) listed a w) ∨ (isEff Z tab o = true ∧ wpOp P ops (PostD S w0 E n d0 envP K Kp res) i (fun a' w' => GD Z tab ops L W νs sts ws (listed.setIfInBounds i true) w' ∧ wpAnyG P ops (PostD S w0 E n d0 envP K Kp res) (GD Z tab ops L W νs sts ws) f (listed.setIfInBounds i true) a' w') a w) := by
    intro sl0 sl fr' hg' hdf hba hw hk
    unfold doD at hk
    by_cases hq : isQ tab o.op = true
    · rw [hq, ifb_true] at hk
      obtain ⟨v, hk', hv, hrun⟩ := evQ_run (P := P) hT (H := st.H) hg'.rel.facts hg'.env o hk hne
      exact quiet (by simp [isEff, hq]) _ fr' v hg' hdf hba hv (.inl ⟨hw, fun _ w' _ _ _ => hrun w'⟩) hk'
    · rw [Bool.not_eq_true] at hq
      rw [hq, ifb_false] at hk
      by_cases hz : isLd Z tab o = true
      · have hl : isLoad tab o.op = true := by unfold isLd at hz; rw [Bool.and_eq_true] at hz; exact hz.1
        rw [hz, ifb_true] at hk
        obtain ⟨j, v, o', hk0, hv, hj, hrun⟩ := evLoad_run (P := P) (ν := νs) (st := sts) (w := ws) (fr := fr') (a := a) hT (fun x v hx hin => by
          rw [(ofOpd_den hg'.env hx).1]
          exact (den_congr hst.agree v (svLt_names fun j hj => by obtain ⟨q, hq⟩ := hin j hj; exact (hRs.lt j q hq).1)).symm) hRs o hl hk hne
        by_cases hLW : (!(has i L) || (has j W && cellsAt sts.H j)) = true
        · simp only at hk0
          rw [hLW, ifb_true] at hk0
          refine quiet (by simp [isEff, hz]) _ fr' v hg' hdf hba (svLt_mono hst.nx v hv) (.inl ⟨hw, fun listed' w' hc' hun hG' => ?_⟩) hk0
          have := hrun w' (fun b hb hon => by
            by_cases hL : has i L = true
            · rw [hL, Bool.not_true, Bool.false_or, Bool.and_eq_true] at hLW
              obtain ⟨h1, h2⟩ := hLW
              unfold cellsAt at h2
              rw [hj] at h2
              cases o' with
              | row own e ls xs => cases h2
              | map t ka va kl vl es => cases h2
              | tab _ _ _ => cases h2
              | cells T' vs =>
                obtain ⟨b', hb', _⟩ := hRs.sat j _ hj
                rw [hb'] at hon
                simp only [onOf, blk, Option.some.injEq] at hon
                subst hon
                exact hG'.2 (pend_of_load hoi hz hc' hun) j h1 (hRs.lt j _ hj).1 _ hb' hb
            · rw [Bool.not_eq_true] at hL
              exact hG'.1 (pendX_of_load hoi hz hc' hun hL) b hb)
          rw [den_congr hst.agree v hv] at this
          exact this
        · rw [Bool.not_eq_true] at hLW
          simp only at hk0
          rw [hLW] at hk0
          exact absurd hk0.symm hne
      · rw [Bool.not_eq_true] at hz
        rw [hz, ifb_false] at hk
        have heff : isEff Z tab o = true := by simp [isEff, hq, hz]
        by_cases hl : isLoad tab o.op = true
        · rw [hl, ifb_true] at hk
          obtain ⟨j, v, o', hk0, hv, hj, hrun⟩ := evLoad_run (P := P) (ν := ν) (st := st) (w := w) (fr := fr') (a := a) hT (fun x v hx hin => (ofOpd_den hg'.env hx).1) (hg'.rel.wash st.dirty) o hl hk hne
          refine .inr ⟨heff, ?_⟩
          unfold Go.wpOp
          rw [hoi]
          simp only [hw, if_true]
          refine .inl ?_
          have hG1 : GD Z tab ops L W νs sts ws (listed.setIfInBounds i true) w := ⟨fun hp => hG.1 (pendX_back hp), fun hp => hG.2 (pend_back hp)⟩
          refine wp_value (hrun w (fun b _ _ => rfl)) ⟨hG1, ?_⟩
          refine HR νs sts ws hRs _ ν _ st _ w (hg'.put hdst hv) ?_ hst hG1 hk0
          have := putP ν st a (den ν v) hE'
          have e1 : (fr'.put o.dst v).dfs = fr.dfs := by cases o.dst <;> exact hdf
          have e2 : (fr'.put o.dst v).base = fr.base := by cases o.dst <;> exact hba
          rw [e1, e2]
          exact this
        rw [Bool.not_eq_true] at hl
        rw [hl, ifb_false] at hk
        refine .inr ⟨heff, ?_⟩
        unfold Go.wpOp
        rw [hoi]
        simp only [hw, if_true]
        refine .inl ?_
        have step : ∀ ν' st' v w', RelW S w0 ν' st' w' → Step ν st w ν' st' w' → svLt st'.nx v = true →
            ifb (pend Z tab ops (listed.setIfInBounds i true)) (ifb st'.dirty (ifb (!(pendX L Z tab ops (listed.setIfInBounds i true)) && storeOk W o.op fr'.env st) (R (sl v) sts (fr'.put o.dst v) st') .no)
              (R (sl v) st' (fr'.put o.dst v) st')) (R (sl v) sts (fr'.put o.dst v) st') = res →
            (st'.dirty = true → storeOk W o.op fr'.env st = true → ∃ j o1, has j W = false ∧ W.all (cellsAt st.H) = true ∧ st' = st.put j o1) →
            GD Z tab ops L W νs sts ws (listed.setIfInBounds i true) w' ∧ wpAnyG P ops (PostD S w0 E n d0 envP K Kp res) (GD Z tab ops L W νs sts ws) f (listed.setIfInBounds i true) (a.put o.dst (den ν' v)) w' := by
          intro ν' st' v w' hR hs hv hk' hput
          have hst' := hst.trans hs
          have hcont : GD Z tab ops L W νs sts ws (listed.setIfInBounds i true) w' ∧ ∃ νs1 sts1 ws1, RelW S w0 νs1 sts1 ws1 ∧ Step νs1 sts1 ws1 ν' st' w' ∧ GD Z tab ops L W νs1 sts1 ws1 (listed.setIfInBounds i true) w' ∧
              (∀ l u, GD Z tab ops L W νs1 sts1 ws1 l u → GD Z tab ops L W νs sts ws l u) ∧ R (sl v) sts1 (fr'.put o.dst v) st' = res := by
            by_cases hp : pend Z tab ops (listed.setIfInBounds i true) = true
            · rw [hp, ifb_true] at hk'
              cases hv' : st'.dirty with
              | false =>
                rw [hv', ifb_false] at hk'
                refine ⟨⟨fun _ => hst'.same hv', fun _ j _ _ b _ hb => hst'.same hv' b hb⟩, ν', st', w', hR, Step.refl _ _ _, GD.refl, fun l u h => ⟨fun hp b hb => ?_, fun hp j hjW hjn b hνb hb => ?_⟩, hk'⟩
                · rw [h.1 hp b (Nat.lt_of_lt_of_le hb hst'.size)]
                  exact hst'.same hv' b hb
                · rw [h.2 hp j hjW (Nat.lt_of_lt_of_le hjn hst'.nx) b (by rw [← hst'.agree j hjn]; exact hνb) (Nat.lt_of_lt_of_le hb hst'.size)]
                  exact hst'.same hv' b hb
              | true =>
                rw [hv', ifb_true] at hk'
                by_cases hok : (!(pendX L Z tab ops (listed.setIfInBounds i true)) && storeOk W o.op fr'.env st) = true
                · rw [hok, ifb_true] at hk'
                  simp only [Bool.and_eq_true, Bool.not_eq_true'] at hok
                  obtain ⟨j1, o1, hj1, hall, rfl⟩ := hput hv' hok.2
                  have hG' : GD Z tab ops L W νs sts ws (listed.setIfInBounds i true) w' := by
                    refine ⟨fun h => (by rw [hok.1] at h; cases h), fun hp j hjW hjn b hνb hb => ?_⟩
                    rw [← hG.2 (pend_back hp) j hjW hjn b hνb hb]
                    have hcl := List.all_eq_true.1 hall j (has_iff.1 hjW)
                    unfold cellsAt at hcl
                    cases hlj : lkp j st.H with
                    | none => rw [hlj] at hcl; cases hcl
                    | some oj =>
                      rw [hlj] at hcl
                      cases oj with
                      | row own e ls xs => cases hcl
                      | map t ka va kl vl es => cases hcl
                      | tab _ _ _ => cases hcl
                      | cells T' vs =>
                        have hne1 : ¬ j1 = j := by rintro rfl; rw [hjW] at hj1; cases hj1
                        have hlj' : lkp j (st.put j1 o1).H = some (.cells T' vs) := by
                          show lkp j ((j1, o1) :: st.H) = _
                          rw [lkp_cons, if_neg hne1]; exact hlj
                        obtain ⟨b1, hb1, hc1⟩ := hg'.rel.sat j _ hlj
                        obtain ⟨b2, hb2, hc2⟩ := hR.sat j _ hlj'
                        have hjlt := (hg'.rel.lt j _ hlj)
                        have e1 : b1 = b := by
                          have := hst.agree j hjn
                          rw [hνb, hb1] at this
                          cases this; rfl
                        have e2 : b2 = b1 := by
                          have := hs.agree j hjlt.1
                          rw [hb1, hb2] at this
                          cases this; rfl
                        subst e1 e2
                        rw [hc1, hc2, denL_congr hs.agree vs hjlt.2]
                  exact ⟨hG', νs, sts, ws, hRs, hst', hG', fun _ _ h => h, hk'⟩
                · rw [Bool.not_eq_true] at hok; rw [hok] at hk'; exact absurd hk'.symm hne
            · rw [Bool.not_eq_true] at hp
              rw [hp] at hk'
              have hpx : pendX L Z tab ops (listed.setIfInBounds i true) = false := by
                cases hx : pendX L Z tab ops (listed.setIfInBounds i true) with
                | false => rfl
                | true => rw [pendX_pend hx] at hp; cases hp
              have hG' : GD Z tab ops L W νs sts ws (listed.setIfInBounds i true) w' := ⟨fun h => (by rw [hpx] at h; cases h), fun h => (by rw [hp] at h; cases h)⟩
              exact ⟨hG', νs, sts, ws, hRs, hst', hG', fun _ _ h => h, hk'⟩
          obtain ⟨hc1, νs1, sts1, ws1, hR1, hs1, hG1, hmo, hk1⟩ := hcont
          refine ⟨hc1, wpAnyG_weaken hmo _ _ _ _ (HR νs1 sts1 ws1 hR1 _ ν' _ st' _ w' ((hg'.next (hR.wash _) (hs.wash d0)).put hdst hv) ?_ hs1 hG1 hk1)⟩
          have := putP ν' st' a (den ν' v) (hE'.mono hs.nx hs.agree)
          have e1 : (fr'.put o.dst v).dfs = fr.dfs := by cases o.dst <;> exact hdf
          have e2 : (fr'.put o.dst v).base = fr.base := by cases o.dst <;> exact hba
          rw [e1, e2]
          exact this
        have pstep : ∀ ν' st' e w', RelW S w0 ν' st' w' → Step ν st w ν' st' w' → Kp e ⟨envP, fr'.dfs, fr'.base, []⟩ st' = res → PostD S w0 E n d0 envP K Kp res (.panic (panOf e)) a w' := by
          intro ν' st' e w' hR hs hk'
          have hgn := hg'.next (hR.wash (d0 || st'.dirty)) (hs.wash d0)
          refine ⟨ν', ⟨envP, fr'.dfs, fr'.base, []⟩, st', e, ⟨hgn.rel, ?_, hgn.frb, hgn.step⟩, rfl, rfl, hk'⟩
          rw [hdf, hba]
          exact hE'.mono hs.nx hs.agree
        by_cases hst : storeOk W o.op fr'.env st = true
        · obtain ⟨j1, o1, hj1, hall, heq⟩ := evA_store hst (by rw [hk]; exact hne)
          have hk2 := hk
          rw [heq] at hk2
          let K2 : SV → St → O T := fun v st' => @ite _ (st' = st.put j1 o1) (Classical.propDecidable _) (ifb (pend Z tab ops (listed.setIfInBounds i true)) (ifb st'.dirty (ifb (!(pendX L Z tab ops (listed.setIfInBounds i true)) && storeOk W o.op fr'.env st) (R (sl v) sts (fr'.put o.dst v) st') .no)
              (R (sl v) st' (fr'.put o.dst v) st')) (R (sl v) sts (fr'.put o.dst v) st')) .no
          have hk3 : evA tab cal sl0 o.op fr'.env st K2 (fun e st' => Kp e ⟨envP, fr'.dfs, fr'.base, []⟩ st') = res := by
            rw [heq]
            show K2 (.tup []) (st.put j1 o1) = res
            simp only [K2, if_pos]
            exact hk2
          refine evA_sound (st := st) hT hC (hg'.rel.wash st.dirty) hg'.env o hk3 hne ?_ ?_
          · intro ν' st' v w' hR hs hv hk'
            by_cases e : st' = st.put j1 o1
            · simp only [K2, if_pos e] at hk'
              exact step ν' st' v w' hR hs hv hk' (fun _ _ => ⟨j1, o1, hj1, hall, e⟩)
            · simp only [K2, if_neg e] at hk'
              exact absurd hk'.symm hne
          · intro ν' st' e w' hR hs hk'
            exact pstep ν' st' e w' hR hs hk'
        · refine evA_sound (st := st) hT hC (hg'.rel.wash st.dirty) hg'.env o hk hne ?_ ?_
          · intro ν' st' v w' hR hs hv hk'
            exact step ν' st' v w' hR hs hv hk' (fun _ h => absurd h hst)
          · intro ν' st' e w' hR hs hk'
            exact pstep ν' st' e w' hR hs hk'
  have skip : ∀ sl fr', Good S w0 E n ν fr' (st.wash (d0 || st.dirty)) a w → fr'.dfs = fr.dfs → fr'.base = fr.base → Region.wanted o (yielded ops a.tmps) = false → R sl sts (fr'.put o.dst (.tup [])) st = res →
      (isEff Z tab o = false ∧ wpAnyG P ops (PostD S w0 E n d0 envP K Kp res) (GD Z tab ops L W νs sts ws) (f + 1) listed a w) ∨ (isEff Z tab o = true ∧ wpOp P ops (PostD S w0 E n d0 envP K Kp res) i (fun a' w' => GD Z tab ops L W νs sts ws (listed.setIfInBounds i true) w' ∧ wpAnyG P ops (PostD S w0 E n d0 envP K Kp res) (GD Z tab ops L W νs sts ws) f (listed.setIfInBounds i true) a' w') a w) := by
    intro sl fr' hg' hdf hba hwf hk
    have hu : den ν (.tup []) = undef := by simp [den, denL, undef]
    have hl : svLt st.nx (.tup []) = true := by simp [svLt, belowL]
    by_cases heff : isEff Z tab o = true
    · refine .inr ⟨heff, ?_⟩
      unfold Go.wpOp
      rw [hoi]
      simp only [hwf, Bool.false_eq_true, if_false]
      have hG1 : GD Z tab ops L W νs sts ws (listed.setIfInBounds i true) w := by
        exact ⟨fun hp => hG.1 (pendX_back hp), fun hp => hG.2 (pend_back hp)⟩
      refine ⟨hG1, ?_⟩
      have hgp := hg'.put hdst hl
      rw [hu] at hgp
      refine HR νs sts ws hRs _ ν _ st _ w hgp ?_ hst hG1 hk
      have e1 : (fr'.put o.dst (.tup [])).dfs = fr.dfs := by cases o.dst <;> exact hdf
      have e2 : (fr'.put o.dst (.tup [])).base = fr.base := by cases o.dst <;> exact hba
      rw [e1, e2]
      exact putP ν st a undef hE'
    · rw [Bool.not_eq_true] at heff
      exact quiet heff _ _ (.tup []) hg' hdf hba hl (.inr ⟨hwf, hu⟩) hk
  split at h
  · rename_i hgd
    exact run _ (fun v => settle sl (fr.put o.dst v).env o) fr hg rfl rfl (wanted_none hgd) h
  · rename_i j want hgd
    split at h
    · rename_i d hdj
      split at h
      · rename_i b hb
        have hbt := hg.env.get d _ hb
        have hy := yielded_of hdj hbt.1
        have hg' : Good S w0 E n ν (fr.put (some d) (.bool b)) (st.wash (d0 || st.dirty)) a w := by
          refine ⟨hg.rel, ⟨hg.env.size, ?_, hg.env.dfs, hg.env.dlt⟩, hg.frb, hg.step⟩
          intro t u hu
          simp only [Fr.put, lkp_cons] at hu
          split at hu
          · rename_i e; subst e; cases hu; exact hbt
          · exact hg.env.get t u hu
        have hw := wanted_some hgd hy
        rw [O.test_eq] at h
        cases b <;> cases want <;> simp only at h
        · exact run _ (fun v => settle (d :: sl) ((fr.put (some d) (.bool false)).put o.dst v).env o) _ hg' rfl rfl (by rw [hw]; rfl) h
        · exact skip _ _ hg' rfl rfl (by rw [hw]; rfl) h
        · exact skip _ _ hg' rfl rfl (by rw [hw]; rfl) h
        · exact run _ (fun v => settle (d :: sl) ((fr.put (some d) (.bool true)).put o.dst v).env o) _ hg' rfl rfl (by rw [hw]; rfl) h
      · rename_i hb
        have hbt := hg.env.get d _ hb
        exact skip _ fr hg rfl rfl (wanted_not hgd (yielded_tup hdj hbt.1)) h
      · exact absurd h.symm hne
    · exact absurd h.symm hne

theorem O.same_ne' {α : Type} {x y res : O α} (h : O.same x y = res) (hne : res ≠ .no) : x = res ∧ y = res := O.same_ne h hne
theorem otherOf_spec {Z : List Nat} {tab : Tab} {ops : Array Oper} {i j : Nat} {listed : Array Bool} (h : otherOf Z tab ops i listed = some j) : ∃ a b, readyNow ops listed = [a, b] ∧ ((a = i ∧ j = b) ∨ (b = i ∧ j = a)) := by
  unfold otherOf at h
  split at h
  · split at h
    · rename_i a b hr
      refine ⟨a, b, hr, ?_⟩
      by_cases h1 : Nat.beq a i = true
      · rw [h1, cond_true] at h; cases h; exact .inl ⟨Nat.eq_of_beq_eq_true h1, rfl⟩
      · rw [Bool.not_eq_true] at h1
        rw [h1, cond_false] at h
        by_cases h2 : Nat.beq b i = true
        · rw [h2, cond_true] at h; cases h; exact .inr ⟨Nat.eq_of_beq_eq_true h2, rfl⟩
        · rw [Bool.not_eq_true] at h2; rw [h2] at h; cases h
    · cases h
  · cases h
theorem evD_sound (hT : tabChk P tab = true) (hC : CalOk P cal) (d0 : Bool) {ops : Array Oper} {L W : List Nat} (hsel : noSelect ops.toList = true)
    {envP : Env} (hP : ∀ t v, lkp t envP = some v → ∀ o ∈ ops.toList, o.dst ≠ some t) {K : Fr → St → O T} {Kp : PV → Fr → St → O T} {res : O T} (hne : res ≠ .no) :
    ∀ (f : Nat) (order : List Nat) (νs : Nat → Value) (sts : St) (ws : World), RelW S w0 νs sts ws → ∀ (listed : Array Bool) (sl : List Nat) (ν : Nat → Value) (fr : Fr) (st : St) (a : Act) (w : World), Good S w0 E n ν fr (st.wash (d0 || st.dirty)) a w → EnvOk ν n st.nx ⟨envP, fr.dfs, fr.base, []⟩ a → Step νs sts ws ν st w →
      Closed ops listed → GD Z tab ops L W νs sts ws listed w → orderOk Z tab ops f order listed = true →
      evD Z tab cal L W n ops envP K Kp f order listed sl sts fr st = res →
      wpAnyG P ops (PostD S w0 E n d0 envP K Kp res) (GD Z tab ops L W νs sts ws) f listed a w := by
  intro f
  induction f with
  | zero =>
    intro order νs sts ws hRs listed sl ν fr st a w hg hE' hst hc hG ho h
    cases order with
    | nil =>
      refine wpAnyG_done ?_ ⟨ν, ⟨fr.env, fr.dfs, fr.base, sl⟩, st, ⟨hg.rel, ⟨hg.env.size, hg.env.get, hg.env.dfs, hg.env.dlt⟩, hg.frb, hg.step⟩, by simpa only [evD] using h⟩ _
      simp only [orderOk, List.isEmpty_iff] at ho
      exact ho
    | cons i c => simp [orderOk] at ho
  | succ f ih =>
    intro order νs sts ws hRs listed sl ν fr st a w hg hE' hst hc hG ho h
    cases order with
    | nil =>
      refine wpAnyG_done ?_ ⟨ν, ⟨fr.env, fr.dfs, fr.base, sl⟩, st, ⟨hg.rel, ⟨hg.env.size, hg.env.get, hg.env.dfs, hg.env.dlt⟩, hg.frb, hg.step⟩, by simpa only [evD] using h⟩ _
      simp only [orderOk, List.isEmpty_iff] at ho
      exact ho
    | cons i c =>
      simp only [orderOk] at ho
      cases hoi : ops[i]? with
      | none => rw [hoi] at ho; cases ho
      | some o =>
        rw [hoi] at ho
        simp only at ho
        have one : ∀ (i1 : Nat) (c1 : List Nat) (o1 : Oper), ops[i1]? = some o1 → i1 ∈ Region.ready .any ops listed → (isEff Z tab o1 = false → freeNow ops listed i1 = true) → orderOk Z tab ops f c1 (listed.setIfInBounds i1 true) = true →
            evStep Z tab cal L W n ops sts envP i1 listed sl fr st (evD Z tab cal L W n ops envP K Kp f c1 (listed.setIfInBounds i1 true)) Kp = res →
            (isEff Z tab o1 = false ∧ wpAnyG P ops (PostD S w0 E n d0 envP K Kp res) (GD Z tab ops L W νs sts ws) (f + 1) listed a w) ∨
            (isEff Z tab o1 = true ∧ wpOp P ops (PostD S w0 E n d0 envP K Kp res) i1 (fun a' w' => GD Z tab ops L W νs sts ws (listed.setIfInBounds i1 true) w' ∧ wpAnyG P ops (PostD S w0 E n d0 envP K Kp res) (GD Z tab ops L W νs sts ws) f (listed.setIfInBounds i1 true) a' w') a w) := by
          intro i1 c1 o1 ho1 hr1 hf1 hok1 hs1
          refine evStep_sound hT hC d0 hsel hP hne i1 f listed ?_ νs sts ws hRs sl ν fr st a w hg hE' hst hc hG hr1 ho1 hf1 hs1
          intro νs' sts' ws' hRs' sl' ν' fr' st' a' w' hg1 hE1 hst1 hG1 hk1
          exact ih c1 νs' sts' ws' hRs' _ sl' ν' fr' st' a' w' hg1 hE1 hst1 (hc.set hr1) hG1 hok1 hk1
        simp only [evD] at h
        by_cases heff : isEff Z tab o = true
        · rw [heff, cond_true] at ho
          split at ho
          · rename_i b hrb
            rw [Bool.and_eq_true] at ho
            have hb : b = i := Nat.eq_of_beq_eq_true ho.1
            subst hb
            have hno : otherOf Z tab ops b listed = none := by unfold otherOf; rw [hoi]; simp only [heff]; rw [hrb]
            rw [hno] at h
            have hr : Region.ready .any ops listed = [b] := hrb
            rcases one b c o hoi (by rw [hr]; simp) (fun e => by rw [heff] at e; cases e) ho.2 h with ⟨e, _⟩ | ⟨_, hw⟩
            · rw [heff] at e; cases e
            · refine wpAnyG_all hr (by simp) ?_
              intro i' hi'
              obtain rfl := List.mem_singleton.1 hi'
              exact hw
          · rename_i b1 b2 hrb
            rw [Bool.and_eq_true] at ho
            cases hot : otherOf Z tab ops i listed with
            | none => rw [hot] at ho; cases ho.2
            | some j =>
              rw [hot] at ho h
              simp only [Bool.and_eq_true] at ho h
              obtain ⟨_, ⟨hpj, ho1⟩, ho2⟩ := ho
              cases hoj : ops[j]? with
              | none => rw [hoj] at hpj; cases hpj
              | some p =>
                rw [hoj] at hpj
                simp only at hpj
                obtain ⟨h1, h2⟩ := O.same_ne h hne
                obtain ⟨x, y, hxy, hcase⟩ := otherOf_spec hot
                have hr : Region.ready .any ops listed = [x, y] := hxy
                have hi : i ∈ Region.ready .any ops listed := by rw [hr]; rcases hcase with ⟨rfl, rfl⟩ | ⟨rfl, rfl⟩ <;> simp
                have hj : j ∈ Region.ready .any ops listed := by rw [hr]; rcases hcase with ⟨rfl, rfl⟩ | ⟨rfl, rfl⟩ <;> simp
                rcases one i c o hoi hi (fun e => by rw [heff] at e; cases e) ho1 h1 with ⟨e, _⟩ | ⟨_, hwi⟩
                · rw [heff] at e; cases e
                · rcases one j (fore Z tab ops f (listed.setIfInBounds j true) (i :: rid j c)) p hoj hj (fun e => by rw [hpj] at e; cases e) ho2 h2 with ⟨e, _⟩ | ⟨_, hwj⟩
                  · rw [hpj] at e; cases e
                  · refine wpAnyG_all hr (by simp) ?_
                    intro i' hi'
                    simp only [List.mem_cons, List.not_mem_nil, or_false] at hi'
                    rcases hcase with ⟨rfl, rfl⟩ | ⟨rfl, rfl⟩ <;> rcases hi' with rfl | rfl <;> first | exact hwi | exact hwj
          · cases ho
        · rw [Bool.not_eq_true] at heff
          rw [heff, cond_false, Bool.and_eq_true, Bool.and_eq_true] at ho
          have hno : otherOf Z tab ops i listed = none := by unfold otherOf; rw [hoi]; simp only [heff]
          rw [hno] at h
          rcases one i c o hoi (has_mem.1 ho.1.2) (fun _ => ho.1.1) ho.2 h with ⟨_, hw⟩ | ⟨e, _⟩
          · exact hw
          · rw [heff] at e; cases e

theorem evD_region {sl0 L W : List Nat} (hT : tabChk P tab = true) (hC : CalOk P cal) (hM : P.follows .mixedOrders = true) {ops : Array Oper} {id : Nat} {order : List Nat} {res : O T} (hne : res ≠ .no)
    (ho : orderOk Z tab ops order.length order (Array.replicate ops.size false) = true) (hl : order.length = ops.size) (hsel : noSelect ops.toList = true) {K : Fr → St → O T} {Kp : PV → Fr → St → O T} {ν : Nat → Value} {fr : Fr} {st : St} {a : Act} {w : World} (hg : Good S w0 E n ν fr st a w)
    {K0 : Ex → Fr → St → O T} (hK : ∀ fr st', K fr st' = K0 .normal fr (st'.wash (st.dirty || st'.dirty))) (hKp : ∀ e fr st', Kp e fr st' = K0 (.panic e) fr (st'.wash (st.dirty || st'.dirty)))
    (h : evD Z tab cal L W n ops (envOut ops.toList fr.env) K Kp order.length order (Array.replicate ops.size false) sl0 (st.wash false) fr (st.wash false) = res) :
    (Code.region id ops true).wp P (Post S w0 E n K0 res) a w := by
  have hb : Below w.heap.size w w.drew := (Below.refl _ _).drew
  have hR := hg.rel.below hb
  have hs : Step ν st w ν st w.drew := Step.below ν st hb
  have hg' := hg.next hR hs
  have hwash : (st.wash false).wash (st.dirty || (st.wash false).dirty) = st := by cases st; simp [St.wash]
  refine wp_mono (wp_region_any hM (wpAny_of_G (G := GD Z tab ops L W ν (st.wash false) w.drew) (Q := PostD S w0 E n st.dirty (envOut ops.toList fr.env) K Kp res) _ _ _ _ ?_)) ?_
  · have hP : ∀ t v, lkp t (envOut ops.toList fr.env) = some v → ∀ o ∈ ops.toList, o.dst ≠ some t := fun t v hv => (lkp_envOut hv).2
    refine evD_sound hT hC st.dirty hsel hP hne ops.size order _ _ _ (hR.wash false) _ _ ν fr (st.wash false) a w.drew (by rw [hwash]; exact hg') ⟨hg'.env.size, fun t v hv => hg'.env.get t v (lkp_envOut hv).1, hg'.env.dfs, hg'.env.dlt⟩ (Step.refl _ _ _) ?_ GD.refl (by rw [hl] at ho; exact ho) (by rw [hl] at h; exact h)
    intro e o _ he
    simp [Array.getElem?_replicate] at he
    split at he <;> cases he
  · intro e a w hp
    cases e with
    | normal => obtain ⟨ν', fr', st', h1, h2⟩ := hp; exact ⟨ν', fr', _, h1, by rw [← hK]; exact h2⟩
    | panic ch => obtain ⟨ν', fr', st', e, h1, _, h3, h5⟩ := hp; exact ⟨ν', fr', _, e, h1, h3, by rw [← hKp]; exact h5⟩
    | exit id => exact hp.elim
    | ret => exact hp.elim
    | goto l => exact hp.elim
    | outgrown => exact hp.elim
end
end Go.Aq
