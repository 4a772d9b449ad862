/- The evaluator is right: code. -/
import Derived.Test.YtpfddjdkafjjfaaGreatV8
namespace Go.Aq
open Go.RowKit (Below)
set_option linter.unusedVariables false

/-- How a call began: names, what was known, the world. -/
structure Entry where
  ν : Nat → Value
  st : St
  w : World
structure Good (S : Nat → Prop) (w0 : World) (E : Entry) (n : Nat) (ν : Nat → Value) (fr : Fr) (st : St) (a : Act) (w : World) : Prop where
  rel : RelW S w0 ν st w
  env : EnvOk ν n st.nx fr a
  frb : fr.base = E.st.nx
  step : Step E.ν E.st E.w ν st w

theorem EnvOk.mono {ν ν' : Nat → Value} {n nx nx' : Nat} {fr : Fr} {a : Act} (h : EnvOk ν n nx fr a) (hx : nx ≤ nx') (ha : ∀ j, j < nx → ν j = ν' j) : EnvOk ν' n nx' fr a where
  size := h.size
  get t v hv := by
    have := h.get t v hv
    exact ⟨by rw [this.1, den_congr ha v this.2], svLt_mono hx v this.2⟩
  dfs := by rw [h.dfs, denL_congr ha fr.dfs h.dlt]
  dlt := belowL_mono hx _ h.dlt

theorem EnvOk.put {ν : Nat → Value} {n nx : Nat} {fr : Fr} {a : Act} (h : EnvOk ν n nx fr a) {d : Option Tmp} (hd : ∀ t, d = some t → t < n) {v : SV} (hv : svLt nx v = true) : EnvOk ν n nx (fr.put d v) (a.put d (den ν v)) := by
  cases d with
  | none => exact h
  | some d =>
    have hdn := hd d rfl
    refine ⟨by simp [Act.put, h.size], ?_, h.dfs, h.dlt⟩
    intro t u hu
    simp only [Fr.put, lkp_cons] at hu
    split at hu
    · rename_i e; subst e; cases hu
      refine ⟨?_, hv⟩
      simp [Act.put, h.size, hdn]
    · rename_i e
      have := h.get t u hu
      refine ⟨?_, this.2⟩
      simp [Act.put, e, this.1]

theorem Good.next {S : Nat → Prop} {w0 : World} {E : Entry} {ν ν' : Nat → Value} {n : Nat} {fr : Fr} {st st' : St} {a : Act} {w w' : World} (h : Good S w0 E n ν fr st a w)
    (hR : RelW S w0 ν' st' w') (hs : Step ν st w ν' st' w') : Good S w0 E n ν' fr st' a w' :=
  ⟨hR, h.env.mono hs.nx hs.agree, h.frb, h.step.trans hs⟩
theorem Good.put {S : Nat → Prop} {w0 : World} {E : Entry} {ν : Nat → Value} {n : Nat} {fr : Fr} {st : St} {a : Act} {w : World} (h : Good S w0 E n ν fr st a w)
    {d : Option Tmp} (hd : ∀ t, d = some t → t < n) {v : SV} (hv : svLt st.nx v = true) : Good S w0 E n ν (fr.put d v) st (a.put d (den ν v)) w := by
  refine ⟨h.rel, h.env.put hd hv, ?_, h.step⟩
  have := h.frb
  cases d <;> simpa [Fr.put] using this

/-- What the machine comes to, where the evaluator comes to res. -/
def Post {T : Type} (S : Nat → Prop) (w0 : World) (E : Entry) (n : Nat) (K : Ex → Fr → St → O T) (res : O T) : Exit → Act → World → Prop
  | .normal, a, w => ∃ ν fr st, Good S w0 E n ν fr st a w ∧ K .normal fr st = res
  | .exit id, a, w => ∃ ν fr st, Good S w0 E n ν fr st a w ∧ K (.exit id) fr st = res
  | .ret, a, w => ∃ ν fr st, Good S w0 E n ν fr st a w ∧ K .ret fr st = res
  | .panic ch, a, w => ∃ ν fr st e, Good S w0 E n ν fr st a w ∧ ch = panOf e ∧ K (.panic e) fr st = res
  | .goto _, _, _ => False
  | .outgrown, _, _ => False

section
variable {P : Program} {tab : Tab} {T : Type} {cal : Cal T} {S : Nat → Prop} {w0 : World} {E : Entry} {n : Nat}

theorem wanted_none {o : Oper} {y : Nat → Option Bool} (h : o.guard = none) : Region.wanted o y = true := by simp [Region.wanted, h]
theorem wanted_some {o : Oper} {y : Nat → Option Bool} {j : Nat} {want b : Bool} (h : o.guard = some (j, want)) (hy : y j = some b) : Region.wanted o y = (b == want) := by
  simp [Region.wanted, h, hy]
theorem yielded_of {ops : Array Oper} {a : Act} {j d : Nat} {b : Bool} {ν : Nat → Value} (hd : dstOf ops.toList j = some d) (h : a.tmps[d]? = some (den ν (.bool b))) : yielded ops a.tmps j = some b := by
  unfold dstOf at hd
  rw [Array.getElem?_toList] at hd
  unfold yielded
  split at hd
  · rename_i o ho
    simp [ho, hd, h, den]
  · cases hd

theorem yielded_tup {ops : Array Oper} {a : Act} {j d : Nat} {ν : Nat → Value} (hd : dstOf ops.toList j = some d) (h : a.tmps[d]? = some (den ν (.tup []))) : yielded ops a.tmps j = none := by
  unfold dstOf at hd
  rw [Array.getElem?_toList] at hd
  unfold yielded
  split at hd
  · rename_i o ho
    simp [ho, hd, h, den, denL]
  · cases hd
theorem wanted_not {o : Oper} {y : Nat → Option Bool} {j : Nat} {want : Bool} (h : o.guard = some (j, want)) (hy : y j = none) : Region.wanted o y = false := by
  simp [Region.wanted, h, hy]
theorem deferOf_spec {ν : Nat → Value} {nx : Nat} {fr : Fr} {a : Act} (hE : EnvOk ν n nx fr a) {o : Oper} {v : SV} (h : deferOf fr.env o.op = some v) :
    ∃ f cs, v = .clo f cs ∧ belowL nx cs = true ∧ ∀ w, (execOp a.eval o).run P w = .ok (.defer ⟨.fn (.func f) (denL ν cs).toArray, #[]⟩) w := by
  unfold deferOf at h
  split at h
  · rename_i c hop
    split at h
    · rename_i f hc ha
      split at h
      · rename_i f' cs hf
        cases h
        have hd := ofOpd_den hE hf
        refine ⟨f', cs, rfl, by simpa [svLt] using hd.2, fun w => ?_⟩
        have hargs : c.args = #[] := by cases hq : c.args; rw [hq] at ha; simp at ha; rw [ha]
        simp only [execOp, hop, resolve, hc, hargs, hd.1, den, Deferred.ofValue, Sem.run_bind, Sem.run_pure, Result.andThen_ok, Array.map_empty, Array.append_empty]
      · cases h
    · cases h
  · cases h
theorem doOp_sound {sl : List Nat} (hT : tabChk P tab = true) (hC : CalOk P cal) {K : Fr → St → O T} {Kp : PV → Fr → St → O T} {res : O T} (hne : res ≠ .no) {ν : Nat → Value} {fr : Fr} {st : St} {a : Act} {w : World} (hg : Good S w0 E n ν fr st a w) (o : Oper) (hdst : ∀ t, o.dst = some t → t < n)
    (h : doOp tab cal sl o fr st K Kp = res) {next : Act → World → Prop} {Q : Exit → Act → World → Prop}
    (hn : ∀ ν' fr' st' a' w', Good S w0 E n ν' fr' st' a' w' → K fr' st' = res → next a' w')
    (hp : ∀ ν' st' e w', Good S w0 E n ν' fr st' a w' → Kp e fr st' = res → Q (.panic (panOf e)) a w') : o.wp P a w next Q := by
  unfold doOp at h
  by_cases hd : isDefer o.op = true
  · rw [hd, ifb_true] at h
    split at h
    · rename_i v hv
      obtain ⟨f, cs, rfl, hb, hrun⟩ := deferOf_spec (P := P) hg.env hv
      unfold Oper.wp
      rw [hrun w, Oper.upon_defer]
      have hg2 : Good S w0 E n ν ⟨fr.env, .clo f cs :: fr.dfs, fr.base, fr.sl⟩ st { a with defers := ⟨.fn (.func f) (denL ν cs).toArray, #[]⟩ :: a.defers } w := by
        refine ⟨hg.rel, ⟨hg.env.size, hg.env.get, ?_, ?_⟩, hg.frb, hg.step⟩
        · simp only [denL, den, List.map_cons, hg.env.dfs]
        · simp only [belowL, svLt, hb, hg.env.dlt, Bool.and_self]
      have := hg2.put (d := o.dst) hdst (v := .tup []) (by simp [svLt, belowL])
      exact hn ν _ st _ w (by simpa [den, denL, undef] using this) h
    · exact absurd h.symm hne
  · rw [Bool.not_eq_true] at hd
    rw [hd, ifb_false] at h
    refine evOp_sound hT hC hg.rel hg.env o h hne ?_ ?_
    · intro ν' st' v w' hR hs hv hk
      exact hn ν' _ st' _ w' ((hg.next hR hs).put hdst hv) hk
    · intro ν' st' e w' hR hs hk
      exact hp ν' st' e w' (hg.next hR hs) hk

theorem evOps_sound (hT : tabChk P tab = true) (hC : CalOk P cal) {ops : Array Oper} {K : Fr → St → O T} {Kp : PV → Fr → St → O T} {res : O T} (hne : res ≠ .no) :
    ∀ (rest : List Oper) (sl : List Nat) (i : Nat), ops.toList.drop i = rest → ∀ (ν : Nat → Value) (fr : Fr) (st : St) (a : Act) (w : World), Good S w0 E n ν fr st a w →
      evOps tab cal n ops.toList rest sl fr st K Kp = res →
      wpOps P ops (Post S w0 E n (fun e fr st => match e with | .normal => K fr st | .panic e => Kp e fr st | _ => .no) res) (List.range' i rest.length) a w := by
  intro rest
  induction rest with
  | nil =>
    intro sl i _ ν fr st a w hg h
    exact ⟨ν, ⟨fr.env, fr.dfs, fr.base, sl⟩, st, ⟨hg.rel, ⟨hg.env.size, hg.env.get, hg.env.dfs, hg.env.dlt⟩, hg.frb, hg.step⟩, h⟩
  | cons o rest ih =>
    intro sl i hi ν fr st a w hg h
    have hoi : ops[i]? = some o := by
      rw [← Array.getElem?_toList]
      have : (ops.toList.drop i)[0]? = some o := by rw [hi]; rfl
      simpa using this
    have hrest : ops.toList.drop (i + 1) = rest := by
      have : (ops.toList.drop i).drop 1 = rest := by rw [hi]; rfl
      simpa [List.drop_drop] using this
    simp only [List.length_cons, List.range'_succ, wpOps, hoi]
    simp only [evOps] at h
    by_cases hd : okDst n o.dst = true
    case neg => rw [Bool.not_eq_true] at hd; rw [hd] at h; exact absurd h.symm hne
    rw [hd, ifb_true] at h
    have hdst : ∀ t, o.dst = some t → t < n := by
      intro t ht
      rw [ht] at hd
      exact Nat.le_of_ble_eq_true hd
    -- an operation that is carried out
    have run : ∀ sl fr', Good S w0 E n ν fr' st a w →
        doOp tab cal sl o fr' st (fun fr st => evOps tab cal n ops.toList rest (settle sl fr.env o) fr st K Kp) Kp = res →
        o.wp P a w (wpOps P ops (Post S w0 E n (fun e fr st => match e with | .normal => K fr st | .panic e => Kp e fr st | _ => .no) res) (List.range' (i + 1) rest.length))
          (Post S w0 E n (fun e fr st => match e with | .normal => K fr st | .panic e => Kp e fr st | _ => .no) res) := by
      intro sl fr' hg' h'
      refine doOp_sound hT hC hne hg' o hdst h' ?_ ?_
      · intro ν' fr'' st' a' w' hg'' hk
        exact ih _ (i + 1) hrest ν' fr'' st' a' w' hg'' hk
      · intro ν' st' e w' hg'' hk
        exact ⟨ν', fr', st', e, hg'', rfl, hk⟩
    have skip : ∀ sl fr', Good S w0 E n ν fr' st a w → evOps tab cal n ops.toList rest sl (fr'.put o.dst (.tup [])) st K Kp = res →
        wpOps P ops (Post S w0 E n (fun e fr st => match e with | .normal => K fr st | .panic e => Kp e fr st | _ => .no) res) (List.range' (i + 1) rest.length) (a.put o.dst undef) w := by
      intro sl fr' hg' h'
      have := hg'.put (d := o.dst) hdst (v := .tup []) (by simp [svLt, belowL])
      exact ih sl (i + 1) hrest ν _ st _ w (by simpa [den, denL, undef] using this) h'
    split at h
    · rename_i hgd
      rw [if_pos (wanted_none hgd)]
      exact .inl (run _ fr hg h)
    · rename_i j want hgd
      split at h
      · rename_i d hdj
        split at h
        · rename_i b hb
          have hbt := hg.env.get d _ hb
          have hy := yielded_of hdj hbt.1
          have hg' : Good S w0 E n ν (fr.put (some d) (.bool b)) st a w := by
            refine ⟨hg.rel, ⟨hg.env.size, ?_, hg.env.dfs, hg.env.dlt⟩, hg.frb, hg.step⟩
            intro t u hu
            simp only [Fr.put, lkp_cons] at hu
            split at hu
            · rename_i e; subst e; cases hu; exact hbt
            · exact hg.env.get t u hu
          have hw := wanted_some hgd hy
          rw [O.test_eq] at h
          cases b <;> cases want <;> simp only at h
          · rw [if_pos (by rw [hw]; rfl)]; exact .inl (run _ _ hg' h)
          · rw [if_neg (by rw [hw]; simp)]; exact skip _ _ hg' h
          · rw [if_neg (by rw [hw]; simp)]; exact skip _ _ hg' h
          · rw [if_pos (by rw [hw]; rfl)]; exact .inl (run _ _ hg' h)
        · rename_i hb
          have hbt := hg.env.get d _ hb
          rw [if_neg (by rw [wanted_not hgd (yielded_tup hdj hbt.1)]; simp)]
          exact skip _ fr hg h
        · exact absurd h.symm hne
      · exact absurd h.symm hne

theorem lkp_keep {env : Env} {ts : List Nat} {t : Nat} {v : SV} (h : lkp t (keep env ts) = some v) : lkp t env = some v := by
  induction ts with
  | nil => simp [keep, lkp] at h
  | cons s ss ih =>
    simp only [keep] at h
    split at h
    · rename_i u hu
      rw [lkp_cons] at h
      split at h
      · rename_i e; subst e; cases h; exact hu
      · exact ih h
    · exact ih h
theorem lkp_keepN {H : List (Nat × HO)} {js : List Nat} {j : Nat} {o : HO} (h : lkp j (keepN H js) = some o) : lkp j H = some o := by
  induction js with
  | nil => simp [keepN, lkp] at h
  | cons s ss ih =>
    simp only [keepN] at h
    split at h
    · rename_i u hu
      rw [lkp_cons] at h
      split at h
      · rename_i e; subst e; cases h; exact hu
      · exact ih h
    · exact ih h
theorem lkp_keepN_in {H : List (Nat × HO)} {js : List Nat} {j : Nat} (hj : j ∈ js) : lkp j (keepN H js) = lkp j H := by
  induction js with
  | nil => cases hj
  | cons s ss ih =>
    simp only [keepN]
    by_cases e : s = j
    · subst e
      split
      · rename_i u hu; rw [lkp_cons, if_pos rfl, hu]
      · rename_i hu
        rw [hu]
        cases h : lkp s (keepN H ss) with
        | none => rfl
        | some o => rw [lkp_keepN h] at hu; cases hu
    · have hj' : j ∈ ss := by
        rcases List.mem_cons.1 hj with h | h
        · exact absurd h.symm e
        · exact h
      split
      · rw [lkp_cons, if_neg e, ih hj']
      · exact ih hj'
/-! ### Names, told anew -/
theorem has_mem {t : Nat} {l : List Nat} : has t l = true ↔ t ∈ l := by
  induction l with
  | nil => simp [has]
  | cons s r ih =>
    simp only [has, Bool.or_eq_true, List.mem_cons, ih]
    constructor
    · rintro (h | h)
      · exact .inl (Nat.eq_of_beq_eq_true h).symm
      · exact .inr h
    · rintro (rfl | h)
      · exact .inl (Nat.beq_refl _)
      · exact .inr h
theorem idx_get : ∀ {j : Nat} {l : List Nat}, j ∈ l → idx j l < l.length ∧ l[idx j l]? = some j
  | j, [], h => by cases h
  | j, i :: r, h => by
    simp only [idx]
    by_cases e : i = j
    · subst e; rw [Nat.beq_refl]; simp
    · rw [show Nat.beq i j = false from Bool.eq_false_iff.2 fun e' => e (Nat.eq_of_beq_eq_true e')]
      have hr : j ∈ r := by
        rcases List.mem_cons.1 h with h | h
        · exact absurd h.symm e
        · exact h
      have := idx_get hr
      simp only [cond_false, List.length_cons, Nat.succ_eq_add_one, List.getElem?_cons_succ]
      exact ⟨by omega, this.2⟩
/-- The names' values, as they are told anew. -/
def reν (ν : Nat → Value) (base : Nat) (found : List Nat) : Nat → Value := fun i => if i < base then ν i else ν (found.getD (i - base) 0)
theorem reν_rn (ν : Nat → Value) {base : Nat} {found : List Nat} {j : Nat} (h : j < base ∨ j ∈ found) : reν ν base found (rn base found j) = ν j ∧ rn base found j < base + found.length := by
  unfold rn
  by_cases hj : j < base
  · rw [show Nat.blt j base = true from Nat.ble_eq_true_of_le hj, cond_true]
    exact ⟨by simp [reν, hj], by omega⟩
  · have hjf : j ∈ found := h.resolve_left hj
    have hb : Nat.blt j base = false := by
      rw [Bool.eq_false_iff]; intro h; exact hj (Nat.le_of_ble_eq_true h)
    obtain ⟨h1, h2⟩ := idx_get hjf
    rw [hb, cond_false]
    refine ⟨?_, by omega⟩
    show (if base + idx j found < base then _ else _) = _
    rw [if_neg (by omega), Nat.add_sub_cancel_left, List.getD_eq_getElem?_getD, h2]
    rfl
theorem inOr_iff {base : Nat} {found l : List Nat} (h : inOr base found l = true) : ∀ j ∈ l, j < base ∨ j ∈ found := by
  induction l with
  | nil => intro j hj; cases hj
  | cons i r ih =>
    simp only [inOr, Bool.and_eq_true, Bool.or_eq_true] at h
    intro j hj
    rcases List.mem_cons.1 hj with rfl | hj
    · exact h.1.imp (fun h => Nat.le_of_ble_eq_true h) has_mem.1
    · exact ih h.2 j hj
mutual
theorem den_ren (ν : Nat → Value) (base : Nat) (found : List Nat) : ∀ v, (∀ j ∈ namesOf v, j < base ∨ j ∈ found) → den (reν ν base found) (renS (rn base found) v) = den ν v ∧ svLt (base + found.length) (renS (rn base found) v) = true
  | .int _ _, _ | .bool _, _ | .str _, _ | .nilp, _ | .nilsl, _ | .nilf, _ | .nili, _ | .nilm, _ => by simp [renS, den, svLt]
  | .ptr j off, h => by
    have := reν_rn ν (h j (by simp [namesOf]))
    simp [renS, den, svLt, this.1, this.2]
  | .ept j sz i off, h => by
    have := reν_rn ν (h j (by simp [namesOf]))
    simp [renS, den, svLt, this.1, this.2]
  | .osl j, h => by
    have := reν_rn ν (h j (by simp [namesOf]))
    simp [renS, den, svLt, this.1, this.2]
  | .mp j, h => by
    have := reν_rn ν (h j (by simp [namesOf]))
    simp [renS, den, svLt, this.1, this.2]
  | .sl j sz ch m, h => by
    have := reν_rn ν (h j (by simp [namesOf]))
    simp [renS, den, svLt, this.1, this.2]
  | .csl j m, h => by
    have := reν_rn ν (h j (by simp [namesOf]))
    simp [renS, den, svLt, this.1, this.2]
  | .clo f cs, h => by
    have := denL_ren ν base found cs (by simpa [namesOf] using h)
    simp [renS, den, svLt, this.1, this.2]
  | .iface t v, h => by
    have := den_ren ν base found v (by simpa [namesOf] using h)
    simp [renS, den, svLt, this.1, this.2]
  | .agg cs, h => by
    have := denL_ren ν base found cs (by simpa [namesOf] using h)
    simp [renS, den, svLt, this.1, this.2]
  | .tup cs, h => by
    have := denL_ren ν base found cs (by simpa [namesOf] using h)
    simp [renS, den, svLt, this.1, this.2]
theorem denL_ren (ν : Nat → Value) (base : Nat) (found : List Nat) : ∀ vs, (∀ j ∈ namesL vs, j < base ∨ j ∈ found) → denL (reν ν base found) (renL (rn base found) vs) = denL ν vs ∧ belowL (base + found.length) (renL (rn base found) vs) = true
  | [], _ => by simp [renL, denL, belowL]
  | v :: vs, h => by
    have h1 := den_ren ν base found v (fun j hj => h j (by simp [namesL, hj]))
    have h2 := denL_ren ν base found vs (fun j hj => h j (by simp [namesL, hj]))
    simp [renL, denL, belowL, h1.1, h1.2, h2.1, h2.2]
end
theorem lkp_renE {r : Nat → Nat} {env : Env} {t : Nat} {v : SV} (h : lkp t (renE r env) = some v) : ∃ u, lkp t env = some u ∧ v = renS r u := by
  induction env with
  | nil => simp [renE, lkp] at h
  | cons x xs ih =>
    obtain ⟨s, u⟩ := x
    simp only [renE, lkp_cons] at h ⊢
    split at h
    · rename_i e; cases h; rw [if_pos e]; exact ⟨u, rfl, rfl⟩
    · rename_i e; rw [if_neg e]; exact ih h
theorem namesE_mem {env : Env} {t : Nat} {v : SV} (h : lkp t env = some v) : ∀ j ∈ namesOf v, j ∈ namesE env := by
  induction env with
  | nil => simp [lkp] at h
  | cons x xs ih =>
    obtain ⟨s, u⟩ := x
    intro j hj
    simp only [namesE, List.mem_append]
    rw [lkp_cons] at h
    split at h
    · cases h; exact .inl hj
    · exact .inr (ih h j hj)
theorem lkp_foundH {base : Nat} {all : List Nat} {H : Heap} : ∀ {js : List Nat} {i m : Nat} {o : HO}, lkp m (foundH base all H i js) = some o → ∃ k, m = i + k ∧ k < js.length ∧ ∃ q, lkp (js.getD k 0) H = some q ∧ o = renH (rn base all) q
  | [], i, m, o, h => by simp [foundH, lkp] at h
  | j :: js, i, m, o, h => by
    simp only [foundH] at h
    split at h
    · rename_i q hq
      rw [lkp_cons] at h
      split at h
      · rename_i e; cases h
        exact ⟨0, by omega, by simp, q, by simpa using hq, rfl⟩
      · obtain ⟨k, h1, h2, q', h3, h4⟩ := lkp_foundH h
        exact ⟨k + 1, by omega, by simp; omega, q', by simpa using h3, h4⟩
    · obtain ⟨k, h1, h2, q', h3, h4⟩ := lkp_foundH h
      exact ⟨k + 1, by omega, by simp; omega, q', by simpa using h3, h4⟩
theorem lkp_append {α : Type _} {t : Nat} : ∀ {a b : List (Nat × α)} {v : α}, lkp t (a ++ b) = some v → lkp t a = some v ∨ lkp t b = some v
  | [], b, v, h => .inr h
  | (s, u) :: a, b, v, h => by
    rw [List.cons_append, lkp_cons] at h
    rw [lkp_cons]
    split at h
    · rename_i e; rw [if_pos e]; exact .inl h
    · rename_i e; rw [if_neg e]; exact lkp_append h
theorem heapIn_at {base : Nat} {found : List Nat} {H : Heap} : ∀ {js : List Nat}, heapIn base found H js = true → ∀ j ∈ js, ∀ o, lkp j H = some o → ∀ i ∈ hoNames o, i < base ∨ i ∈ found
  | [], _, j, hj, _, _ => by cases hj
  | k :: js, h, j, hj, o, ho => by
    simp only [heapIn, Bool.and_eq_true] at h
    rcases List.mem_cons.1 hj with rfl | hj
    · rw [ho] at h; exact inOr_iff h.1
    · exact heapIn_at h.2 j hj o ho
theorem reach_nodup {base : Nat} {H : Heap} : ∀ (k : Nat) (todo found : List Nat), (found.Nodup ∧ ∀ j ∈ found, base ≤ j) → ((reach base H k todo found).Nodup ∧ ∀ j ∈ reach base H k todo found, base ≤ j)
  | 0, todo, found, h => by simpa [reach] using h
  | k + 1, [], found, h => by simpa [reach] using h
  | k + 1, j :: todo, found, h => by
    simp only [reach]
    by_cases hc : (Nat.blt j base || has j found) = true
    · rw [hc, cond_true]; exact reach_nodup k todo found h
    · rw [Bool.not_eq_true] at hc
      rw [hc, cond_false]
      refine reach_nodup k _ _ ?_
      simp only [Bool.or_eq_false_iff] at hc
      have h1 : ¬ j < base := fun e => by rw [show Nat.blt j base = true from Nat.ble_eq_true_of_le e] at hc; cases hc.1
      have h2 : j ∉ found := fun e => by rw [has_mem.2 e] at hc; cases hc.2
      refine ⟨?_, fun i hi => ?_⟩
      · rw [List.nodup_append]
        exact ⟨h.1, by simp, fun a ha b hb => by simp at hb; rintro rfl; subst hb; exact h2 ha⟩
      · rcases List.mem_append.1 hi with hi | hi
        · exact h.2 i hi
        · simp at hi; omega
theorem mineOf_ren (v : Value) (r : Nat → Nat) (o : HO) : mineOf v (renH r o) = mineOf v o := by
  cases o with
  | cells T vs => rfl
  | row own t ls xs => rfl
  | map t ka va kl vl es => rfl
  | tab t f xs => rfl
theorem seenOf_ren (v : Value) (r : Nat → Nat) (o : HO) : seenOf v (renH r o) = seenOf v o := by
  cases o with
  | cells T vs => rfl
  | row own t ls xs => rfl
  | map t ka va kl vl es => rfl
  | tab t f xs => rfl

theorem set_den (ν : Nat → Value) : ∀ (vs : List SV) (i : Nat) (v u : SV), vs[i]? = some v → den ν u = den ν v → denL ν (vs.set i u) = denL ν vs
  | [], i, v, u, h, _ => by simp at h
  | x :: xs, 0, v, u, h, e => by
    simp only [List.getElem?_cons_zero, Option.some.injEq] at h
    subst h
    simp only [List.set_cons_zero, denL, e]
  | x :: xs, i + 1, v, u, h, e => by
    simp only [List.getElem?_cons_succ] at h
    simp only [List.set_cons_succ, denL, set_den ν xs i v u h e]
theorem set_lt {n : Nat} : ∀ {vs : List SV} {i : Nat} {u : SV}, belowL n vs = true → svLt n u = true → belowL n (vs.set i u) = true
  | [], i, u, h, _ => by simpa using h
  | x :: xs, 0, u, h, hu => by
    simp only [belowL, Bool.and_eq_true] at h
    simp only [List.set_cons_zero, belowL, hu, h.2, Bool.and_self]
  | x :: xs, i + 1, u, h, hu => by
    simp only [belowL, Bool.and_eq_true] at h
    simp only [List.set_cons_succ, belowL, h.1, set_lt h.2 hu, Bool.and_self]
/-- A name for a nil slice. -/
theorem RelW.nilRow {ν : Nat → Value} {st : St} {w : World} (h : RelW S w0 ν st w) (e : TypeId) {ls : List Lf} (hls : ls ≠ []) : RelW S w0 (upd ν st.nx (.slice none 0 0)) (st.add (.row true e ls [])) w :=
  h.new ⟨rfl, rfl, rfl, Nat.le_refl _⟩ _ _ st.H st.dirty (fun _ _ h => h) (fun _ _ _ _ _ => rfl) (fun _ _ _ => rfl) rfl ⟨hls, by rw [upd_new]; exact .inl ⟨rfl, rfl⟩⟩ (fun j o b _ _ hb => by simp [mineOf] at hb) (fun b hb => by simp [mineOf] at hb) (fun b hb => by simp [seenOf] at hb)
theorem fillCell_sound {ν : Nat → Value} {fr : Fr} {st : St} {a : Act} {w : World} (hg : Good S w0 E n ν fr st a w) (x : Nat × Nat) (e : TypeId) {ls : List Lf} (hls : ls ≠ []) : ∃ ν', Good S w0 E n ν' fr (fillCell x e ls st) a w := by
  unfold fillCell
  split
  · rename_i T vs hj
    split
    · rename_i hv
      have hR := hg.rel
      have hR1 := hR.nilRow e hls
      have hold : ∀ j, j < st.nx → ν j = upd ν st.nx (.slice none 0 0) j := fun j hj => upd_old hj
      have hl := hR.lt _ _ hj
      have hj1 : lkp x.1 (st.add (.row true e ls [])).H = some (.cells T vs) := by
        show lkp x.1 ((st.nx, _) :: st.H) = _
        rw [lkp_cons, if_neg (by have := hl.1; omega)]; exact hj
      obtain ⟨b, hb, hc⟩ := hR1.sat _ _ hj1
      have hd : denL (upd ν st.nx (.slice none 0 0)) (vs.set x.2 (.osl st.nx)) = denL (upd ν st.nx (.slice none 0 0)) vs := by
        refine set_den _ vs x.2 .nilsl _ hv ?_
        simp only [den, upd_new]; rfl
      have hlt : belowL (Nat.succ st.nx) (vs.set x.2 (.osl st.nx)) = true := by
        refine set_lt ?_ (by simp [svLt])
        have h2 := hl.2
        simp only [hoLt] at h2
        exact belowL_mono (Nat.le_succ _) vs h2
      have hR2 : RelW S w0 (upd ν st.nx (.slice none 0 0)) ((st.add (.row true e ls [])).put x.1 (.cells T (vs.set x.2 (.osl st.nx)))) w := by
        refine hR1.turn hj1 ⟨rfl, rfl, rfl, Nat.le_refl _⟩ rfl rfl (fun _ _ => rfl) hlt ⟨b, hb, by rw [hd]; exact hc⟩
      refine ⟨_, ⟨hR2, hg.env.mono (Nat.le_succ _) hold, hg.frb, ?_⟩⟩
      refine ⟨?_, fun j hj => ?_, fun _ => rfl, hg.step.size, fun h => by cases h⟩
      · have := hg.step.nx
        show E.st.nx ≤ Nat.succ st.nx; omega
      · rw [hg.step.agree j hj]; exact hold j (Nat.lt_of_lt_of_le hj hg.step.nx)
    · exact ⟨ν, hg⟩
  · exact ⟨ν, hg⟩
theorem fillNil_sound {ν : Nat → Value} {fr : Fr} {st : St} {a : Act} {w : World} (hg : Good S w0 E n ν fr st a w) (x : Nl × TypeId × List Lf) : ∃ ν', Good S w0 E n ν' (fillNil x fr st).1 (fillNil x fr st).2 a w := by
  unfold fillNil
  split
  · exact ⟨ν, hg⟩
  · split
    · split
      · rename_i t _ hv
        have hold : ∀ j, j < st.nx → ν j = upd ν st.nx (.slice none 0 0) j := fun j hj => upd_old hj
        have hE := hg.env.mono (nx' := Nat.succ st.nx) (Nat.le_succ _) hold
        have hR1 := hg.rel.nilRow x.2.1 (ls := _ :: _) (List.cons_ne_nil ‹_› ‹_›)
        refine ⟨_, ⟨hR1, ⟨hE.size, ?_, hE.dfs, hE.dlt⟩, hg.frb, ?_⟩⟩
        · intro s u hs
          rw [lkp_cons] at hs
          split at hs
          · rename_i es
            subst es
            cases hs
            refine ⟨?_, by simp [svLt, St.add]⟩
            have := (hE.get _ _ hv).1
            rw [this]
            simp only [den, upd_new]; rfl
          · exact hE.get s u hs
        · refine ⟨?_, fun j hj => ?_, fun h => ?_, hg.step.size, fun h => ?_⟩
          · have := hg.step.nx
            show E.st.nx ≤ Nat.succ st.nx; omega
          · rw [hg.step.agree j hj]; exact hold j (Nat.lt_of_lt_of_le hj hg.step.nx)
          · exact hg.step.dirt h
          · exact hg.step.same h
      · exact ⟨ν, hg⟩
    · split
      · split
        · exact fillCell_sound hg _ _ (List.cons_ne_nil _ _)
        · exact ⟨ν, hg⟩
      · exact ⟨ν, hg⟩
    · split
      · exact fillCell_sound hg _ _ (List.cons_ne_nil _ _)
      · exact ⟨ν, hg⟩
theorem fillNils_sound {a : Act} {w : World} : ∀ (l : List (Nl × TypeId × List Lf)) (ν : Nat → Value) (fr : Fr) (st : St), Good S w0 E n ν fr st a w → ∃ ν', Good S w0 E n ν' (fillNils l fr st).1 (fillNils l fr st).2 a w
  | [], ν, fr, st, hg => ⟨ν, hg⟩
  | x :: xs, ν, fr, st, hg => by
    obtain ⟨ν', h⟩ := fillNil_sound hg x
    exact fillNils_sound xs ν' _ _ h
theorem cutTo_sound {c : Cut} {fr : Fr} {st : St} {K : Fr → St → O T} {res : O T} (h : cutTo c fr st K = res) (hne : res ≠ .no) {ν : Nat → Value} {a : Act} {w : World} (hg : Good S w0 E n ν fr st a w) :
    ∃ ν' fr' st', Good S w0 E n ν' fr' st' a w ∧ K fr' st' = res := by
  unfold cutTo at h
  simp only at h
  obtain ⟨ν, hg⟩ := fillNils_sound c.nils ν fr st hg
  generalize fillNils c.nils fr st = p at h hg
  obtain ⟨fr, st⟩ := p
  obtain ⟨c, nils⟩ := c
  dsimp only at h hg
  generalize hf : reach fr.base st.H 1000 (namesE (keep fr.env c) ++ namesL fr.dfs ++ namesH st.H (List.range fr.base)) [] = found at h
  have hnd := reach_nodup (base := fr.base) (H := st.H) 1000 (namesE (keep fr.env c) ++ namesL fr.dfs ++ namesH st.H (List.range fr.base)) [] ⟨List.nodup_nil, fun j hj => by cases hj⟩
  rw [hf] at hnd
  obtain ⟨hnd, hge⟩ := hnd
  by_cases hc : (inOr fr.base found (namesE (keep fr.env c)) && inOr fr.base found (namesL fr.dfs) && heapIn fr.base found st.H found && heapIn fr.base found st.H (List.range fr.base)) = true
  · rw [hc, ifb_true] at h
    simp only [Bool.and_eq_true] at hc
    obtain ⟨⟨⟨h1, h2⟩, h3⟩, h4⟩ := hc
    have hR := hg.rel
    have hbase : fr.base ≤ st.nx := by have := hg.frb; have := hg.step.nx; omega
    -- each place is one that was there
    have orig : ∀ m o, lkp m (foundH fr.base found st.H fr.base found ++ foundH fr.base found st.H 0 (List.range fr.base)) = some o →
        ∃ j q, lkp j st.H = some q ∧ o = renH (rn fr.base found) q ∧ m = rn fr.base found j ∧ (j < fr.base ∨ j ∈ found) ∧ (∀ i ∈ hoNames q, i < fr.base ∨ i ∈ found) ∧ reν ν fr.base found m = ν j ∧ m < fr.base + found.length := by
      intro m o hm
      rcases lkp_append hm with hm | hm
      · obtain ⟨k, rfl, hk, q, hq, rfl⟩ := lkp_foundH hm
        have hmem : found.getD k 0 ∈ found := by rw [List.getD_eq_getElem?_getD, List.getElem?_eq_getElem hk]; exact List.getElem_mem hk
        have hidx : idx (found.getD k 0) found = k := by
          obtain ⟨g1, g2⟩ := idx_get hmem
          rw [List.getD_eq_getElem?_getD, List.getElem?_eq_getElem hk, Option.getD_some] at g1 g2 ⊢
          rw [List.getElem?_eq_getElem g1] at g2
          exact (List.getElem_inj hnd).1 (Option.some.inj g2)
        have hrn : rn fr.base found (found.getD k 0) = fr.base + k := by
          unfold rn
          have : Nat.blt (found.getD k 0) fr.base = false := by
            rw [Bool.eq_false_iff]; intro e
            have := hge _ hmem
            have := Nat.le_of_ble_eq_true e
            omega
          rw [this, cond_false, hidx]
        refine ⟨found.getD k 0, q, hq, rfl, hrn.symm, .inr hmem, heapIn_at h3 _ hmem q hq, ?_, by omega⟩
        rw [← hrn]; exact (reν_rn ν (.inr hmem)).1
      · obtain ⟨k, hmk, hk, q, hq, rfl⟩ := lkp_foundH hm
        rw [Nat.zero_add] at hmk
        subst hmk
        rw [List.length_range] at hk
        have hgd : (List.range fr.base).getD m 0 = m := by rw [List.getD_eq_getElem?_getD, List.getElem?_range hk]; rfl
        rw [hgd] at hq
        have hrn : rn fr.base found m = m := by unfold rn; rw [show Nat.blt m fr.base = true from Nat.ble_eq_true_of_le hk]; rfl
        refine ⟨m, q, hq, rfl, hrn.symm, .inl hk, heapIn_at h4 m (List.mem_range.2 hk) q hq, by simp [reν, hk], by omega⟩
    refine ⟨reν ν fr.base found, _, _, ?_, h⟩
    refine ⟨⟨?_, ?_, ?_, ?_, ?_, hR.os, hR.tape, hR.output, hR.size, hR.frame, ?_⟩, ⟨hg.env.size, ?_, ?_, ?_⟩, hg.frb, ⟨?_, ?_, fun _ => rfl, hg.step.size, fun h => by cases h⟩⟩
    · intro m o hm
      obtain ⟨j, q, hq, rfl, hmj, hjb, hin, hν, _⟩ := orig m o hm
      have hs := hR.sat j q hq
      cases q with
      | cells Tt vs =>
        obtain ⟨b, hb, hcell⟩ := hs
        refine ⟨b, by rw [hν]; exact hb, ?_⟩
        rw [(denL_ren ν fr.base found vs hin).1]
        exact hcell
      | row own t ls xs => exact ⟨hs.1, by rw [hν]; exact hs.2⟩
      | map t ka va kl vl es => obtain ⟨b, hb, hc⟩ := hs; exact ⟨b, by rw [hν]; exact hb, hc⟩
      | tab t f xs => trivial
    · intro m o hm
      obtain ⟨j, q, hq, rfl, hmj, hjb, hin, hν, hlt⟩ := orig m o hm
      refine ⟨hlt, ?_⟩
      cases q with
      | cells Tt vs => simp only [renH, hoLt]; exact (denL_ren ν fr.base found vs hin).2
      | row own t ls xs => rfl
      | map t ka va kl vl es => rfl
      | tab t f xs => rfl
    · intro m m' o o' b hm hm' hb hb'
      obtain ⟨j, q, hq, rfl, hmj, hjb, hin, hν, hlt⟩ := orig m o hm
      obtain ⟨j', q', hq', rfl, hmj', _, _, hν', _⟩ := orig m' o' hm'
      rw [mineOf_ren, hν] at hb
      rw [mineOf_ren, hν'] at hb'
      rw [hmj, hmj', hR.inj j j' q q' b hq hq' hb hb']
    · intro m o b hm hb
      obtain ⟨j, q, hq, rfl, hmj, hjb, hin, hν, hlt⟩ := orig m o hm
      rw [mineOf_ren, hν] at hb
      exact hR.mine j q b hq hb
    · intro m o b hm hb
      obtain ⟨j, q, hq, rfl, hmj, hjb, hin, hν, hlt⟩ := orig m o hm
      rw [seenOf_ren, hν] at hb
      exact hR.seen j q b hq hb
    · intro m t f xs hm
      obtain ⟨j, q, hq, hqo, hmj, hjb, hin, hν, hlt⟩ := orig m _ hm
      cases q with
      | tab t' f' xs' => cases hqo; rw [hν]; exact hR.tab j _ _ _ hq
      | _ => cases hqo
    · intro t v hv
      obtain ⟨u, hu, rfl⟩ := lkp_renE hv
      have hd := den_ren ν fr.base found u (fun j hj => inOr_iff h1 j (namesE_mem hu j hj))
      exact ⟨by rw [hd.1]; exact (hg.env.get t u (lkp_keep hu)).1, hd.2⟩
    · rw [(denL_ren ν fr.base found fr.dfs (inOr_iff h2)).1]; exact hg.env.dfs
    · exact (denL_ren ν fr.base found fr.dfs (inOr_iff h2)).2
    · have := hg.frb; simp only; omega
    · intro j hj
      have := hg.frb
      rw [hg.step.agree j hj]
      simp only [reν]
      rw [if_pos (by omega)]
  · rw [Bool.not_eq_true] at hc; rw [hc] at h; exact absurd h.symm hne
end
end Go.Aq
