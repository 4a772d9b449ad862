/- The evaluator is right: whole functions. -/
import Derived.Test.YtpfddjdkafjjfaaGreatV10
namespace Go.Aq
open Go.RowKit (Below)
set_option linter.unusedVariables false

section
variable {P : Program} {tab : Tab} {T : Type} {cal : Cal T} {S : Nat → Prop} {w0 : World} {E : Entry} {n : Nat}

theorem ev_sound (hT : tabChk P tab = true) (hC : CalOk P cal) (hM : P.follows .mixedOrders = true) (nt : Notes) (k : Nat) {res : O T} (hne : res ≠ .no) : ∀ (c : Code) (K : Ex → Fr → St → O T) (ν : Nat → Value) (fr : Fr) (st : St) (a : Act) (w : World),
    Good S w0 E n ν fr st a w → ev tab cal n nt k c fr st K = res → c.wp P (Post S w0 E n K res) a w := by
  intro c
  induction c with
  | skip => intro K ν fr st a w hg h; exact wp_skip ⟨ν, fr, st, hg, h⟩
  | region id ops draw =>
    intro K ν fr st a w hg h
    cases draw with
    | true =>
      simp only [ev] at h
      split at h
      · rename_i order _
        by_cases hc : (orderOk (keepsOf id nt).2.2 tab ops order.length order (Array.replicate ops.size false) && Nat.beq order.length ops.size && noSelect ops.toList) = true
        · rw [hc, ifb_true] at h
          simp only [Bool.and_eq_true] at hc
          exact evD_region hT hC hM hne hc.1.1 (Nat.eq_of_beq_eq_true hc.1.2) hc.2 hg (fun _ _ => rfl) (fun _ _ _ => rfl) h
        · rw [Bool.not_eq_true] at hc; rw [hc] at h; exact absurd h.symm hne
      · exact absurd h.symm hne
    | false =>
      have := evOps_sound (P := P) (S := S) (w0 := w0) (E := E) (n := n) hT hC (ops := ops) hne ops.toList fr.sl 0 rfl ν fr st a w hg h
      rw [show List.range' 0 ops.toList.length = List.range ops.size by simp [List.range_eq_range']] at this
      refine wp_mono (wp_region this) ?_
      refine Post.mono ?_
      intro e ν fr st a w _ hk
      cases e <;> first | exact hk | exact absurd hk.symm hne
  | seq x y ihx ihy =>
    intro K ν fr st a w hg h
    refine wp_seq (wp_mono (ihx _ ν fr st a w hg h) ?_)
    intro e a' w' hp
    cases e with
    | normal =>
      obtain ⟨ν', fr', st', hg', hk⟩ := hp
      simp only [seqK] at hk
      split at hk
      · exact ihy K ν' fr' st' a' w' hg' hk
      · obtain ⟨ν'', fr'', st'', hg'', hk'⟩ := cutTo_sound hk hne hg'
        rw [hide_eq] at hk'
        exact ihy K ν'' fr'' st'' a' w' hg'' hk'
    | exit id => exact hp
    | ret => exact hp
    | panic ch => exact hp
    | goto l => exact hp
    | outgrown => exact hp
  | cond c x y ihx ihy =>
    intro K ν fr st a w hg h
    simp only [ev] at h
    split at h
    · rename_i t hc
      have hd := ofOpd_den hg.env hc
      refine wp_cond (t := t) (by rw [hd.1]; simp [den]) ?_
      rw [O.test_eq] at h
      cases t
      · exact ihy K ν fr st a w hg h
      · exact ihx K ν fr st a w hg h
    · exact absurd h.symm hne
  | block id x ih =>
    intro K ν fr st a w hg h
    refine wp_block (wp_mono (ih _ ν fr st a w hg h) ?_)
    intro e a' w' hp
    cases e with
    | exit id' =>
      obtain ⟨ν', fr', st', hg', hk⟩ := hp
      simp only [Exit.inBlock]
      simp only [blockK] at hk
      by_cases e : id' = id
      · subst e
        rw [if_pos rfl]
        rw [Nat.beq_refl] at hk
        exact ⟨ν', fr', st', hg', hk⟩
      · rw [if_neg e]
        rw [show Nat.beq id' id = false from Bool.eq_false_iff.2 fun e' => e (Nat.eq_of_beq_eq_true e')] at hk
        exact ⟨ν', fr', st', hg', hk⟩
    | normal => exact hp
    | ret => exact hp
    | panic ch => exact hp
    | goto l => exact hp
    | outgrown => exact hp
  | loop x ih =>
    intro K ν fr st a w hg h
    simp only [ev] at h
    split at h
    · rename_i m _
      refine wp_loop_ghost (fun m a w => ∃ ν fr st, Good S w0 E n ν fr st a w ∧ evTurns (fun fr st K => ev tab cal n nt k x fr st K) K m fr st = res) m ⟨ν, fr, st, hg, h⟩ ?_
      intro m a w ⟨ν, fr, st, hg, hk⟩
      cases m with
      | zero => exact absurd hk.symm hne
      | succ m =>
        simp only [evTurns] at hk
        refine wp_mono (ih _ ν fr st a w hg hk) ?_
        intro e a' w' hp
        cases e with
        | normal =>
          obtain ⟨ν', fr', st', hg', hk'⟩ := hp
          exact ⟨m, Nat.lt_succ_self m, ν', fr', st', hg', hk'⟩
        | exit id => exact hp
        | ret => exact hp
        | panic ch => exact hp
        | goto l => exact hp
        | outgrown => exact hp
    · split at h
      · rename_i c _
        obtain ⟨ν0, fr0, st0, hg0, hk0⟩ := cutTo_sound h hne hg
        refine wp_loop_ghost (fun m a w => ∃ ν fr st, Good S w0 E n ν fr st a w ∧ evLoop (fun fr st K => ev tab cal n nt k x fr st K) c K m fr st = res) k ⟨ν0, fr0, st0, hg0, hk0⟩ ?_
        intro m a w ⟨ν, fr, st, hg, hk⟩
        cases m with
        | zero => exact absurd hk.symm hne
        | succ m =>
          simp only [evLoop] at hk
          refine wp_mono (ih _ ν fr st a w hg hk) ?_
          intro e a' w' hp
          cases e with
          | normal =>
            obtain ⟨ν', fr', st', hg', hk'⟩ := hp
            obtain ⟨ν'', fr'', st'', hg'', hk''⟩ := cutTo_sound hk' hne hg'
            exact ⟨m, Nat.lt_succ_self m, ν'', fr'', st'', hg'', hk''⟩
          | exit id => exact hp
          | ret => exact hp
          | panic ch => exact hp
          | goto l => exact hp
          | outgrown => exact hp
      · exact absurd h.symm hne
  | exit id => intro K ν fr st a w hg h; exact wp_exit ⟨ν, fr, st, hg, h⟩
  | ret => intro K ν fr st a w hg h; exact wp_ret ⟨ν, fr, st, hg, h⟩
  | rangeFunc f ps x y _ _ => intro K ν fr st a w hg h; exact absurd h.symm hne
  | scope x _ => intro K ν fr st a w hg h; exact absurd h.symm hne
  | label l => intro K ν fr st a w hg h; exact absurd h.symm hne
  | goto l => intro K ν fr st a w hg h; exact absurd h.symm hne
  | refuse why => intro K ν fr st a w hg h; exact absurd h.symm hne

theorem argEnv_get (ν : Nat → Value) (nx : Nat) : ∀ (args : List SV) (i : Nat), belowL nx args = true → ∀ (pre : List Value), pre.length = i → ∀ (m : Nat) (t : Nat) (v : SV), lkp t (argEnv args i) = some v →
    ((pre ++ denL ν args).toArray ++ Array.replicate m undef)[t]? = some (den ν v) ∧ svLt nx v = true
  | [], i, _, pre, _, m, t, v, h => by simp [argEnv, lkp] at h
  | x :: xs, i, hb, pre, hp, m, t, v, h => by
    simp only [argEnv, lkp_cons] at h
    simp only [belowL, Bool.and_eq_true] at hb
    split at h
    · rename_i e; subst e; cases h
      refine ⟨?_, hb.1⟩
      rw [Array.getElem?_append_left (by simp [denL, hp])]
      simp [denL, ← hp]
    · have := argEnv_get ν nx xs (i + 1) hb.2 (pre ++ [den ν x]) (by simp [hp]) m t v h
      simpa [denL] using this
def resOne (tmps : Array Value) : ResultVar → Sem Value
  | .tmp t => pure (tmps.getD t undef)
  | .cell x t => do loadVar t (← asAddr (tmps.getD x undef))
theorem results_eq (fn : Func) (tmps : Array Value) : results fn tmps = (do let vs ← fn.results.mapM (resOne tmps); pure (if h : vs.size = 1 then vs[0] else .tuple vs)) := rfl
theorem resVals_run (hT : tabChk P tab = true) {ν : Nat → Value} {fr : Fr} {st : St} {a : Act} {w : World} (hg : Good S w0 E n ν fr st a w) : ∀ {rs : List ResultVar} {vs : List SV}, resVals tab fr st rs = some vs →
    (rs.mapM (resOne a.tmps)).run P w = .ok (denL ν vs) w ∧ belowL st.nx vs = true
  | [], vs, h => by cases h; simp [denL, belowL]
  | .tmp t :: rs, vs, h => by
    simp only [resVals] at h
    split at h
    · rename_i v hv
      split at h
      · rename_i vs' hvs
        cases h
        have ih := resVals_run hT hg hvs
        have hd := hg.env.get t v hv
        have hone : (resOne a.tmps (.tmp t)).run P w = .ok (den ν v) w := by simp [resOne, Array.getD_eq_getD_getElem?, hd.1]
        simp only [List.mapM_cons, Sem.run_bind, Sem.run_pure, Result.andThen_ok, hone, ih.1, denL, belowL, ih.2, hd.2, Bool.and_self, and_self]
      · cases h
    · cases h
  | .cell x t :: rs, vs, h => by
    simp only [resVals] at h
    split at h
    · rename_i j off k hx hk
      split at h
      · rename_i T' cs hj
        split at h
        · rename_i v hv
          split at h
          · rename_i vs' hvs
            cases h
            have ih := resVals_run hT hg hvs
            have hd := hg.env.get x _ hx
            obtain ⟨b, hb, hc⟩ := hg.rel.sat j _ hj
            have hlt : belowL st.nx cs = true := (hg.rel.lt j _ hj).2
            have hl := run_loadVar (P := P) (tyOk hT hk) hc hv
            have hv' := partOf_lt hlt hv
            have hget : a.tmps.getD x undef = .pointer (some ⟨b, off, none⟩) := by simp [Array.getD_eq_getD_getElem?, hd.1, den, hb, blk]
            have hone : (resOne a.tmps (.cell x t)).run P w = .ok (den ν v) w := by simp only [resOne, hget, asAddr, Sem.run_bind, Sem.run_pure, Result.andThen_ok, hl]
            simp only [List.mapM_cons, Sem.run_bind, Sem.run_pure, Result.andThen_ok, hone, ih.1, denL, belowL, ih.2, hv', Bool.and_self, and_self]
          · cases h
        · cases h
      · cases h
    · cases h

theorem results_run (hT : tabChk P tab = true) {ν : Nat → Value} {fr : Fr} {st : St} {a : Act} {w : World} (hg : Good S w0 E n ν fr st a w) {fn : Func} {vs : List SV} (h : resVals tab fr st fn.results.toList = some vs) :
    (results fn a.tmps).run P w = .ok (den ν (resVal vs)) w ∧ svLt st.nx (resVal vs) = true := by
  have hr := resVals_run (P := P) hT hg h
  constructor
  · rw [results_eq]
    simp only [Sem.run_bind]
    rw [← Array.toArray_toList (xs := fn.results)]
    rw [List.mapM_toArray]
    simp only [Sem.run_map, hr.1, Result.andThen_ok, Sem.run_pure]
    clear hr h
    congr 1
    match vs with
    | [] => simp [denL, resVal, den]
    | [v] => simp [denL, resVal]
    | v :: u :: vs => simp [denL, resVal, den]
  · match vs, hr.2 with
    | [], _ => simp [resVal, svLt, belowL]
    | [v], h => simpa [resVal, belowL] using h
    | v :: u :: vs, h => simpa only [resVal, svLt] using h

/-- What is asked of a function that is called, as far as names below b go. -/
def CalPostB {T : Type} (b : Nat) (S : Nat → Prop) (w0 : World) (ν : Nat → Value) (st : St) (w : World) (K : SV → St → O T) (Kp : PV → St → O T) (res : O T) : Ending → World → Prop
  | .returned v, w' => ∃ ν' st' r, RelW S w0 ν' st' w' ∧ Step ν ⟨b, st.dirty, []⟩ w ν' st' w' ∧ v = den ν' r ∧ svLt st'.nx r = true ∧ K r st' = res
  | .panicked ch, w' => ∃ ν' st' e, RelW S w0 ν' st' w' ∧ Step ν ⟨b, st.dirty, []⟩ w ν' st' w' ∧ ch = panOf e ∧ Kp e st' = res
  | .outgrown, _ => False
/-- A function's call, by its body. -/
theorem evFn_sound {sl : List Nat} {b : Nat} (hT : tabChk P tab = true) (hC : CalOk P cal) (hM : P.follows .mixedOrders = true) (f : FuncId) (fn : Func) (hf : P.funcs[f]? = some fn) (nt : Notes) (k : Nat) {args : List SV} (ha : Nat.ble args.length fn.ntmps = true) {st : St} {K : SV → St → O T} {Kp : PV → St → O T} {ν : Nat → Value} {w : World} (hbx : b ≤ st.nx)
    (hR : RelW S w0 ν st w) (hb : belowL st.nx args = true) {res : O T} (h : evFn tab cal fn nt k b args sl st K Kp = res) (hne : res ≠ .no) :
    Calls P f (denL ν args).toArray w (CalPostB b S w0 ν st w K Kp res) := by
  unfold evFn at h
  cases hc : fn.body with
  | some c =>
    rw [show bodyOf fn = c by unfold bodyOf; rw [hc]] at h
    rw [hc] at h
    simp only [Option.isSome_some, ifb] at h
    refine calls_of_wp hf hc ?_
    have ha := Nat.le_of_ble_eq_true ha
    have hg : Good S w0 ⟨ν, ⟨b, st.dirty, []⟩, w⟩ fn.ntmps ν ⟨argEnv args 0, [], b, sl⟩ st { tmps := (denL ν args).toArray ++ Array.replicate (fn.ntmps - (denL ν args).toArray.size) undef, defers := [] } w := by
      refine ⟨hR, ⟨?_, ?_, rfl, rfl⟩, rfl, ⟨hbx, fun _ _ => rfl, id, Nat.le_refl _, fun _ _ _ => rfl⟩⟩
      · simp [denL_length]; omega
      · intro t v hv
        exact argEnv_get ν st.nx args 0 hb [] rfl _ t v hv
    refine wp_mono (ev_sound hT hC hM nt k hne c _ ν _ st _ w hg h) ?_
    have fin : ∀ ν' fr st' (a : Act) w', Good S w0 ⟨ν, ⟨b, st.dirty, []⟩, w⟩ fn.ntmps ν' fr st' a w' → fr.dfs = [] → ∀ vs, resVals tab fr st' fn.results.toList = some vs → K (resVal vs) st' = res →
        a.defers = [] ∧ ∃ v, (results fn a.tmps).run P w' = .ok v w' ∧ CalPostB b S w0 ν st w K Kp res (.returned v) w' := by
      intro ν' fr st' a w' hg' hd vs hvs hk
      have hr := results_run (P := P) hT hg' hvs
      exact ⟨by rw [hg'.env.dfs, hd]; simp [denL], _, hr.1, ν', st', resVal vs, hg'.rel, hg'.step, rfl, hr.2, hk⟩
    intro e a w' hp
    cases e with
    | normal =>
      obtain ⟨ν', fr, st', hg', hk⟩ := hp
      simp only [finK] at hk
      cases hd : fr.dfs with
      | nil =>
        rw [hd] at hk
        simp only at hk
        cases hvs : resVals tab fr st' fn.results.toList with
        | none => rw [hvs] at hk; exact absurd hk.symm hne
        | some vs => rw [hvs] at hk; exact fin ν' fr st' a w' hg' hd vs hvs hk
      | cons d ds => rw [hd] at hk; exact absurd hk.symm hne
    | ret =>
      obtain ⟨ν', fr, st', hg', hk⟩ := hp
      simp only [finK] at hk
      cases hd : fr.dfs with
      | nil =>
        rw [hd] at hk
        simp only at hk
        cases hvs : resVals tab fr st' fn.results.toList with
        | none => rw [hvs] at hk; exact absurd hk.symm hne
        | some vs => rw [hvs] at hk; exact fin ν' fr st' a w' hg' hd vs hvs hk
      | cons d ds => rw [hd] at hk; exact absurd hk.symm hne
    | exit id =>
      obtain ⟨ν', fr, st', hg', hk⟩ := hp
      exact absurd hk.symm hne
    | panic ch =>
      obtain ⟨ν', fr, st', e, hg', rfl, hk⟩ := hp
      simp only [finK] at hk
      cases hd : fr.dfs with
      | nil =>
        rw [hd] at hk
        exact ⟨by rw [hg'.env.dfs, hd]; simp [denL], ν', st', e, hg'.rel, hg'.step, rfl, hk⟩
      | cons d ds => rw [hd] at hk; exact absurd hk.symm hne
    | goto l => exact hp.elim
    | outgrown => exact hp.elim
  | none => rw [hc] at h; exact absurd h.symm hne
end
end Go.Aq
