/- The evaluator is right: code. -/
import Derived.Test.YtmpmdfgjejkaiaaE5
namespace Go.Aq
open Go.RowKit (Below)

/-- How a call began: names, what was known, the world. -/
structure Entry where
  ν : Nat → Value
  st : St
  w : World
  lt : ∀ j o, lkp j st.H = some o → j < st.nx
structure Good (S : Nat → Prop) (w0 : World) (E : Entry) (n : Nat) (ν : Nat → Value) (fr : Fr) (st : St) (a : Act) (w : World) : Prop where
  rel : RelW S w0 ν st w
  env : EnvOk ν n st.nx fr a
  frb : fr.base = E.st.nx
  step : Step E.ν E.st E.w ν st w

theorem EnvOk.mono {ν ν' : Nat → Value} {n nx nx' : Nat} {fr : Fr} {a : Act} (h : EnvOk ν n nx fr a) (hx : nx ≤ nx') (ha : ∀ j, j < nx → ν j = ν' j) : EnvOk ν' n nx' fr a where
  size := h.size
  get t v hv := by
    have := h.get t v hv
    exact ⟨by rw [this.1, den_congr ha v this.2], svLt_mono hx v this.2⟩
  dfs := by rw [h.dfs, denL_congr ha fr.dfs h.dlt]
  dlt := belowL_mono hx _ h.dlt

theorem EnvOk.put {ν : Nat → Value} {n nx : Nat} {fr : Fr} {a : Act} (h : EnvOk ν n nx fr a) {d : Option Tmp} (hd : ∀ t, d = some t → t < n) {v : SV} (hv : svLt nx v = true) : EnvOk ν n nx (fr.put d v) (a.put d (den ν v)) := by
  cases d with
  | none => exact h
  | some d =>
    have hdn := hd d rfl
    refine ⟨by simp [Act.put, h.size], ?_, h.dfs, h.dlt⟩
    intro t u hu
    simp only [Fr.put, lkp_cons] at hu
    split at hu
    · rename_i e; subst e; cases hu
      refine ⟨?_, hv⟩
      simp [Act.put, h.size, hdn]
    · rename_i e
      have := h.get t u hu
      refine ⟨?_, this.2⟩
      simp [Act.put, e, this.1]

theorem Good.next {S : Nat → Prop} {w0 : World} {E : Entry} {ν ν' : Nat → Value} {n : Nat} {fr : Fr} {st st' : St} {a : Act} {w w' : World} (h : Good S w0 E n ν fr st a w)
    (hR : RelW S w0 ν' st' w') (hs : Step ν st w ν' st' w') : Good S w0 E n ν' fr st' a w' :=
  ⟨hR, h.env.mono hs.nx hs.agree, h.frb, h.step.trans E.lt hs⟩
theorem Good.put {S : Nat → Prop} {w0 : World} {E : Entry} {ν : Nat → Value} {n : Nat} {fr : Fr} {st : St} {a : Act} {w : World} (h : Good S w0 E n ν fr st a w)
    {d : Option Tmp} (hd : ∀ t, d = some t → t < n) {v : SV} (hv : svLt st.nx v = true) : Good S w0 E n ν (fr.put d v) st (a.put d (den ν v)) w := by
  refine ⟨h.rel, h.env.put hd hv, ?_, h.step⟩
  have := h.frb
  cases d <;> simpa [Fr.put] using this

/-- What the machine comes to, where the evaluator comes to res. -/
def Post {T : Type} (S : Nat → Prop) (w0 : World) (E : Entry) (n : Nat) (K : Ex → Fr → St → O T) (res : O T) : Exit → Act → World → Prop
  | .normal, a, w => ∃ ν fr st, Good S w0 E n ν fr st a w ∧ K .normal fr st = res
  | .exit id, a, w => ∃ ν fr st, Good S w0 E n ν fr st a w ∧ K (.exit id) fr st = res
  | .ret, a, w => ∃ ν fr st, Good S w0 E n ν fr st a w ∧ K .ret fr st = res
  | .panic ch, a, w => ∃ ν fr st e, Good S w0 E n ν fr st a w ∧ ch = panOf e ∧ K (.panic e) fr st = res
  | .goto _, _, _ => False
  | .outgrown, _, _ => False

section
variable {P : Program} {tab : Tab} {T : Type} {cal : Cal T} {S : Nat → Prop} {w0 : World} {E : Entry} {n : Nat}

theorem wanted_none {o : Oper} {y : Nat → Option Bool} (h : o.guard = none) : Region.wanted o y = true := by simp [Region.wanted, h]
theorem wanted_some {o : Oper} {y : Nat → Option Bool} {j : Nat} {want b : Bool} (h : o.guard = some (j, want)) (hy : y j = some b) : Region.wanted o y = (b == want) := by
  simp [Region.wanted, h, hy]
theorem yielded_of {ops : Array Oper} {a : Act} {j d : Nat} {b : Bool} {ν : Nat → Value} (hd : dstOf ops.toList j = some d) (h : a.tmps[d]? = some (den ν (.bool b))) : yielded ops a.tmps j = some b := by
  unfold dstOf at hd
  rw [Array.getElem?_toList] at hd
  unfold yielded
  split at hd
  · rename_i o ho
    simp [ho, hd, h, den]
  · cases hd

theorem evOps_sound (hT : tabChk P tab = true) (hC : CalOk P cal) {ops : Array Oper} {K : Fr → St → O T} {Kp : PV → Fr → St → O T} {res : O T} (hne : res ≠ .no) :
    ∀ (rest : List Oper) (i : Nat), ops.toList.drop i = rest → ∀ (ν : Nat → Value) (fr : Fr) (st : St) (a : Act) (w : World), Good S w0 E n ν fr st a w →
      evOps tab cal n ops.toList rest fr st K Kp = res →
      wpOps P ops (Post S w0 E n (fun e fr st => match e with | .normal => K fr st | .panic e => Kp e fr st | _ => .no) res) (List.range' i rest.length) a w := by
  intro rest
  induction rest with
  | nil =>
    intro i _ ν fr st a w hg h
    exact ⟨ν, fr, st, hg, h⟩
  | cons o rest ih =>
    intro i hi ν fr st a w hg h
    have hoi : ops[i]? = some o := by
      rw [← Array.getElem?_toList]
      have : (ops.toList.drop i)[0]? = some o := by rw [hi]; rfl
      simpa using this
    have hrest : ops.toList.drop (i + 1) = rest := by
      have : (ops.toList.drop i).drop 1 = rest := by rw [hi]; rfl
      simpa [List.drop_drop] using this
    simp only [List.length_cons, List.range'_succ, wpOps, hoi]
    simp only [evOps] at h
    by_cases hd : okDst n o.dst = true
    case neg => rw [Bool.not_eq_true] at hd; rw [hd] at h; exact absurd h.symm hne
    rw [hd, cond_true] at h
    have hdst : ∀ t, o.dst = some t → t < n := by
      intro t ht
      rw [ht] at hd
      exact Nat.le_of_ble_eq_true hd
    -- an operation that is carried out
    have run : ∀ fr', Good S w0 E n ν fr' st a w →
        evOp tab cal o.op fr'.env st (fun v st => evOps tab cal n ops.toList rest (fr'.put o.dst v) st K Kp) (fun e st => Kp e fr st) = res →
        o.wp P a w (wpOps P ops (Post S w0 E n (fun e fr st => match e with | .normal => K fr st | .panic e => Kp e fr st | _ => .no) res) (List.range' (i + 1) rest.length))
          (Post S w0 E n (fun e fr st => match e with | .normal => K fr st | .panic e => Kp e fr st | _ => .no) res) := by
      intro fr' hg' h'
      refine evOp_sound hT hC hg'.rel hg'.env o h' hne ?_ ?_
      · intro ν' st' v w' hR hs hv hk
        exact ih (i + 1) hrest ν' _ st' _ w' ((hg'.next hR hs).put hdst hv) hk
      · intro ν' st' e w' hR hs hk
        exact ⟨ν', fr, st', e, hg.next hR hs, rfl, hk⟩
    split at h
    · rename_i hgd
      rw [if_pos (wanted_none hgd)]
      exact .inl (run fr hg h)
    · rename_i j want hgd
      split at h
      · rename_i d hdj
        split at h
        · rename_i b hb
          have hbt := hg.env.get d _ hb
          have hy := yielded_of hdj hbt.1
          have hdn : d < n := by
            have := hbt.1
            rcases Nat.lt_or_ge d a.tmps.size with h' | h'
            · rw [← hg.env.size]; exact h'
            · simp [Array.getElem?_eq_none h'] at this
          have hg' : Good S w0 E n ν (fr.put (some d) (.bool b)) st a w := by
            refine ⟨hg.rel, ⟨hg.env.size, ?_, hg.env.dfs, hg.env.dlt⟩, hg.frb, hg.step⟩
            intro t u hu
            simp only [Fr.put, lkp_cons] at hu
            split at hu
            · rename_i e; subst e; cases hu; exact hbt
            · exact hg.env.get t u hu
          have skip : evOps tab cal n ops.toList rest ((fr.put (some d) (.bool b)).put o.dst (.tup [])) st K Kp = res →
              wpOps P ops (Post S w0 E n (fun e fr st => match e with | .normal => K fr st | .panic e => Kp e fr st | _ => .no) res) (List.range' (i + 1) rest.length) (a.put o.dst undef) w := by
            intro h'
            have := hg'.put (d := o.dst) hdst (v := .tup []) (by simp [svLt, belowL])
            exact ih (i + 1) hrest ν _ st _ w (by simpa [den, denL, undef] using this) h'
          have hw := wanted_some hgd hy
          cases b <;> cases want <;> simp only [O.cond] at h
          · rw [if_pos (by rw [hw]; rfl)]; exact .inl (run _ hg' h)
          · rw [if_neg (by rw [hw]; simp)]; exact skip h
          · rw [if_neg (by rw [hw]; simp)]; exact skip h
          · rw [if_pos (by rw [hw]; rfl)]; exact .inl (run _ hg' h)
        · exact absurd h.symm hne
      · exact absurd h.symm hne

theorem lkp_keep {env : Env} {ts : List Nat} {t : Nat} {v : SV} (h : lkp t (keep env ts) = some v) : lkp t env = some v := by
  induction ts with
  | nil => simp [keep, lkp] at h
  | cons s ss ih =>
    simp only [keep] at h
    split at h
    · rename_i u hu
      rw [lkp_cons] at h
      split at h
      · rename_i e; subst e; cases h; exact hu
      · exact ih h
    · exact ih h
theorem lkp_keepN {H : List (Nat × HO)} {js : List Nat} {j : Nat} {o : HO} (h : lkp j (keepN H js) = some o) : lkp j H = some o := by
  induction js with
  | nil => simp [keepN, lkp] at h
  | cons s ss ih =>
    simp only [keepN] at h
    split at h
    · rename_i u hu
      rw [lkp_cons] at h
      split at h
      · rename_i e; subst e; cases h; exact hu
      · exact ih h
    · exact ih h
theorem lkp_keepN_in {H : List (Nat × HO)} {js : List Nat} {j : Nat} (hj : j ∈ js) : lkp j (keepN H js) = lkp j H := by
  induction js with
  | nil => cases hj
  | cons s ss ih =>
    simp only [keepN]
    by_cases e : s = j
    · subst e
      split
      · rename_i u hu; rw [lkp_cons, if_pos rfl, hu]
      · rename_i hu
        rw [hu]
        cases h : lkp s (keepN H ss) with
        | none => rfl
        | some o => rw [lkp_keepN h] at hu; cases hu
    · have hj' : j ∈ ss := by
        rcases List.mem_cons.1 hj with h | h
        · exact absurd h.symm e
        · exact h
      split
      · rw [lkp_cons, if_neg e, ih hj']
      · exact ih hj'
theorem lkp_keepH {b : Nat} {hs : List Nat} {H : List (Nat × HO)} {j : Nat} {o : HO} (h : lkp j (keepH b hs H) = some o) : lkp j H = some o := lkp_keepN h
theorem lkp_keepH_old {b : Nat} {hs : List Nat} {H : List (Nat × HO)} {j : Nat} (hj : j < b) : lkp j (keepH b hs H) = lkp j H :=
  lkp_keepN_in (List.mem_append_left _ (List.mem_range.2 hj))
theorem envBelow_at {n : Nat} {env : Env} (h : envBelow n env = true) {t : Nat} {v : SV} (hv : lkp t env = some v) : svLt n v = true := by
  induction env with
  | nil => simp [lkp] at hv
  | cons x xs ih =>
    obtain ⟨s, u⟩ := x
    simp [envBelow] at h
    rw [lkp_cons] at hv
    split at hv
    · cases hv; exact h.1
    · exact ih h.2 hv
theorem heapBelow_at {n : Nat} {H : List (Nat × HO)} (h : heapBelow n H = true) {j : Nat} {o : HO} (ho : lkp j H = some o) : j < n ∧ hoLt n o = true := by
  induction H with
  | nil => simp [lkp] at ho
  | cons x xs ih =>
    obtain ⟨s, u⟩ := x
    simp [heapBelow] at h
    rw [lkp_cons] at ho
    split at ho
    · rename_i e; subst e; cases ho; exact ⟨h.1.1, h.1.2⟩
    · exact ih h.2 ho

theorem cutTo_sound {c : Cut} {fr : Fr} {st : St} {K : Fr → St → O T} {res : O T} (h : cutTo c fr st K = res) (hne : res ≠ .no) {ν : Nat → Value} {a : Act} {w : World} (hg : Good S w0 E n ν fr st a w) :
    ∃ fr' st', Good S w0 E n ν fr' st' a w ∧ K fr' st' = res := by
  unfold cutTo at h
  by_cases hc : (Nat.ble (fr.base + c.nx) st.nx && envBelow (fr.base + c.nx) (keep fr.env c.ts) && belowL (fr.base + c.nx) fr.dfs && heapBelow (fr.base + c.nx) (keepH fr.base c.hs st.H)) = true
  · rw [hc, cond_true] at h
    simp only [Bool.and_eq_true] at hc
    obtain ⟨⟨⟨h1, h2⟩, h3⟩, h4⟩ := hc
    refine ⟨_, _, ?_, h⟩
    have hR := hg.rel
    have hfb := hg.frb
    have h1 := Nat.le_of_ble_eq_true h1
    refine ⟨⟨?_, ?_, ?_, ?_, hR.os, hR.tape, hR.output, hR.size, hR.frame⟩, ⟨hg.env.size, ?_, hg.env.dfs, h3⟩, hg.frb, ⟨?_, hg.step.agree, fun _ => rfl, ?_, fun h => by cases h⟩⟩
    · intro j o ho; exact hR.sat j o (lkp_keepH ho)
    · intro j o ho; exact heapBelow_at h4 ho
    · intro i j oi oj hi hj; exact hR.inj i j oi oj (lkp_keepH hi) (lkp_keepH hj)
    · intro j o ho; exact hR.mine j o (lkp_keepH ho)
    · intro t v hv; exact ⟨(hg.env.get t v (lkp_keep hv)).1, envBelow_at h2 hv⟩
    · simp only; omega
    · intro j o ho
      obtain ⟨o', h'⟩ := hg.step.dom j o ho
      exact ⟨o', by rw [lkp_keepH_old (by have := E.lt j o ho; omega)]; exact h'⟩
  · rw [Bool.not_eq_true] at hc; rw [hc] at h; exact absurd h.symm hne
end
end Go.Aq
