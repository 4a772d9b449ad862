/- Functions with one deferred closure that recovers: what they come to. -/
import Derived.Test.YtpfddjdkafjjfaaGreatV15
import Derived.Recover
namespace Go.Aq
open Go.RowKit (Below)
set_option linter.unusedVariables false

noncomputable section
variable {T : Type}
/-- The slot of an operation that recovers. -/
def recDst (o : Oper) : Option Tmp :=
  match o.guard, o.op with
  | none, .call c => match c.callee, c.args.toList with
    | .builtin .recover, [] => o.dst
    | _, _ => none
  | _, _ => none
def defK (K : St → O T) : Ex → Fr → St → O T := fun e fr st =>
  match e, fr.dfs with
  | .normal, [] | .ret, [] => K st
  | _, _ => .no
/-- A deferred closure, whose first operation recovers: 'rv' is what it is handed. -/
def evDef (tab : Tab) (cal : Cal T) (fn : Func) (nt : Notes) (k : Nat) (caps : List SV) (st : St) (rv : SV) (K : St → O T) : O T :=
  match fn.body with
  | some (.seq (.region _ ops false) rest) => match ops.toList with
    | o :: os => match recDst o with
      | some d => ifb (Nat.ble caps.length fn.ntmps && Nat.blt d fn.ntmps && fn.results.toList.isEmpty)
          (evOps tab cal fn.ntmps ops.toList os [d] ⟨(d, rv) :: argEnv caps 0, [], st.nx, []⟩ st (fun fr st => ev tab cal fn.ntmps nt k rest fr st (defK K)) (fun _ _ _ => .no)) .no
      | none => .no
    | [] => .no
  | _ => .no
/-- The deferred closures: of each its function's body, and notes on it. -/
abbrev Dfs := List (FuncId × Func × Notes)
def resK (tab : Tab) (rs : List ResultVar) (K : SV → St → O T) (fr : Fr) (st : St) : O T :=
  match resVals tab fr st rs with
  | some vs => K (resVal vs) st
  | none => .no
/-- What follows behind a function's body, if it has a deferred closure. -/
def finD (tab : Tab) (cal : Cal T) (D : Dfs) (k : Nat) (rs : List ResultVar) (K : SV → St → O T) (Kp : PV → St → O T) : Ex → Fr → St → O T := fun e fr st =>
  match fr.dfs with
  | [] => finK tab rs K Kp e fr st
  | [.clo g caps] => match lkp g D with
    | some (gn, nt) => match e with
      | .normal => evDef tab cal gn nt k caps st .nili (resK tab rs K fr)
      | .ret => evDef tab cal gn nt k caps st .nili (resK tab rs K fr)
      | .panic p => evDef tab cal gn nt k caps st (ofPV p) (resK tab rs K fr)
      | _ => .no
    | none => .no
  | _ => .no
def evFnD (tab : Tab) (cal : Cal T) (D : Dfs) (fn : Func) (nt : Notes) (k : Nat) (b : Nat) (args : List SV) (st : St) (K : SV → St → O T) (Kp : PV → St → O T) : O T :=
  ifb (fn.body.isSome) (ev tab cal fn.ntmps nt k (bodyOf fn) ⟨argEnv args 0, [], b, []⟩ st (finD tab cal D k fn.results.toList K Kp)) (.no)
end

def DfsOk (P : Program) : Dfs → Prop
  | [] => True
  | (g, gn, _) :: r => (P.funcs[g]? = some gn ∧ ∀ as w, (callFunc g as).run P w = .ok (.enter g as) w) ∧ DfsOk P r
theorem DfsOk.get {P : Program} : ∀ {D : Dfs}, DfsOk P D → ∀ {g : FuncId} {gn : Func} {nt : Notes}, lkp g D = some (gn, nt) → P.funcs[g]? = some gn ∧ ∀ as w, (callFunc g as).run P w = .ok (.enter g as) w
  | (s, x) :: r, h, g, gn, nt, hl => by
    rw [lkp_cons] at hl
    split at hl
    · rename_i e; subst e; cases hl; exact h.1
    · exact DfsOk.get h.2 hl

section
variable {P : Program} {tab : Tab} {T : Type} {cal : Cal T} {S : Nat → Prop} {w0 : World}

theorem wpOpsS_of_wpOps {ops : Array Oper} {Q : Exit → Act → List Frame → World → Prop} {cs : List Frame} (hno : ∀ a w, ¬ Q .outgrown a cs w) : ∀ (l : List Nat) (a : Act) (w : World), wpOps P ops (fun e a w => Q e a cs w) l a w → wpOpsS P ops Q l a cs w
  | [], a, w, h => h
  | i :: rest, a, w, h => by
    simp only [wpOps, wpOpsS] at h ⊢
    cases ho : ops[i]? with
    | none => rw [ho] at h; exact wpOpsS_of_wpOps hno rest a w h
    | some o =>
      rw [ho] at h
      simp only at h ⊢
      split
      · rename_i hw
        rw [if_pos hw] at h
        rcases h with h | ⟨_, a1, w1, hl⟩
        · unfold Oper.wp at h
          split
          · rename_i w' hr
            rw [hr] at h
            exact h.elim
          · rename_i r hnot
            generalize (execOp a.eval o).run P w = r' at h ⊢
            cases r' with
            | ok x w' =>
              cases x with
              | value v => exact wpOpsS_of_wpOps hno rest _ _ h
              | skip => exact wpOpsS_of_wpOps hno rest _ _ h
              | defer d => exact wpOpsS_of_wpOps hno rest _ _ h
              | enter f args =>
                refine Calls.mono h ?_
                intro e w'' hp
                cases e with
                | returned v => exact wpOpsS_of_wpOps hno rest _ _ hp
                | panicked ch => exact hp
                | outgrown => obtain ⟨a1, w1, hq⟩ := hp; exact absurd hq (hno a1 w1)
              | row r args => exact Rows.mono h fun v w'' hp => wpOpsS_of_wpOps hno rest _ _ hp
              | _ => exact h.elim
            | halt x w' => cases x <;> first | exact h | exact h.elim
        · exact absurd hl (hno a1 w1)
      · rename_i hw
        rw [if_neg hw] at h
        exact wpOpsS_of_wpOps hno rest _ _ h

theorem wpOps_mono {ops : Array Oper} {Q Q' : Exit → Act → World → Prop} (hq : ∀ e a w, Q e a w → Q' e a w) : ∀ (l : List Nat) (a : Act) (w : World), wpOps P ops Q l a w → wpOps P ops Q' l a w
  | [], a, w, h => hq _ _ _ h
  | i :: rest, a, w, h => by
    simp only [wpOps] at h ⊢
    cases ho : ops[i]? with
    | none => rw [ho] at h; exact wpOps_mono hq rest a w h
    | some o =>
      rw [ho] at h
      simp only at h ⊢
      split
      · rename_i hw
        rw [if_pos hw] at h
        rcases h with h | ⟨h1, a1, w1, hl⟩
        · refine .inl ?_
          unfold Oper.wp at h ⊢
          generalize (execOp a.eval o).run P w = r' at h ⊢
          cases r' with
          | ok x w' =>
            cases x with
            | value v => exact wpOps_mono hq rest _ _ h
            | skip => exact wpOps_mono hq rest _ _ h
            | defer d => exact wpOps_mono hq rest _ _ h
            | enter f args =>
              refine Calls.mono h ?_
              intro e w'' hp
              cases e with
              | returned v => exact wpOps_mono hq rest _ _ hp
              | panicked ch => exact hq _ _ _ hp
              | outgrown => obtain ⟨a1, w1, hl⟩ := hp; exact ⟨a1, w1, hq _ _ _ hl⟩
            | row r args => exact Rows.mono h fun v w'' hp => wpOps_mono hq rest _ _ hp
            | _ => exact h.elim
          | halt x w' => cases x <;> first | exact hq _ _ _ h | exact h.elim
        · exact .inr ⟨h1, a1, w1, hq _ _ _ hl⟩
      · rename_i hw
        rw [if_neg hw] at h
        exact wpOps_mono hq rest _ _ h

theorem recDst_spec {o : Oper} {d : Tmp} (h : recDst o = some d) (a : Act) (w : World) : o.guard = none ∧ o.dst = some d ∧ (execOp a.eval o).run P w = .ok .recover w := by
  unfold recDst at h
  split at h
  · rename_i c hg ho
    split at h
    · rename_i hc ha
      refine ⟨hg, h, ?_⟩
      have hz : c.args = #[] := by rw [← Array.toArray_toList (xs := c.args), ha]
      simp [execOp, ho, resolve, hc, hz, invoke, builtin]
    · cases h
  · cases h

theorem evDef_sound (hT : tabChk P tab = true) (hC : CalOk P cal) (hM : P.follows .mixedOrders = true) {g : FuncId} {gn : Func} (hf : P.funcs[g]? = some gn) (nt : Notes) (k : Nat) {caps : List SV} {st : St} {rv : SV} {K : St → O T} {res : O T} (hne : res ≠ .no) {ν : Nat → Value} {w : World}
    (hR : RelW S w0 ν st w) (hb : belowL st.nx caps = true) (hrv : svLt st.nx rv = true) {u U : FrameMode}
    (hrec : ∀ (c₀ : Frame) (cs : List Frame), c₀.mode = u → (∃ v, recoverD (c₀ :: cs) = some (v, { c₀ with mode := U } :: cs) ∧ v = den ν rv) ∨ (recoverD (c₀ :: cs) = none ∧ den ν rv = .nilIface ∧ U = u))
    (h : evDef tab cal gn nt k caps st rv K = res) :
    CallsD P g (denL ν caps).toArray u w fun e u' w' => u' = U ∧ (∃ v, e = .returned v) ∧ ∃ ν' st', RelW S w0 ν' st' w' ∧ Step ν st w ν' st' w' ∧ K st' = res := by
  unfold evDef at h
  split at h
  · rename_i id ops rest hbody
    split at h
    · rename_i o os hos
      split at h
      · rename_i d hd
        by_cases hc : (Nat.ble caps.length gn.ntmps && Nat.blt d gn.ntmps && gn.results.toList.isEmpty) = true
        · rw [hc, ifb_true] at h
          simp only [Bool.and_eq_true, List.isEmpty_iff] at hc
          obtain ⟨⟨h1, h2⟩, h3⟩ := hc
          have h1 := Nat.le_of_ble_eq_true h1
          have h2 : d < gn.ntmps := Nat.le_of_ble_eq_true h2
          have h3 : gn.results = #[] := by rw [← Array.toArray_toList (xs := gn.results), h3]
          refine callsD_of_wpS hf hbody fun c₀ cs hu => ?_
          refine wpS_seq (wpS_region ?_)
          have hsz : ops.size = os.length + 1 := by rw [← Array.length_toList, hos]; rfl
          rw [List.range_eq_range', hsz, List.range'_succ]
          have ho0 : ops[0]? = some o := by rw [← Array.getElem?_toList, hos]; rfl
          generalize hact : ({ tmps := (denL ν caps).toArray ++ Array.replicate (gn.ntmps - (denL ν caps).toArray.size) undef, defers := [] } : Act) = a0
          simp only [wpOpsS, ho0]
          obtain ⟨hgd, hdst, hrun⟩ := recDst_spec (P := P) hd a0 w
          rw [if_pos (wanted_none hgd), hrun]
          have hga : Good S w0 ⟨ν, st, w⟩ gn.ntmps ν ⟨(d, rv) :: argEnv caps 0, [], st.nx, []⟩ st (a0.put o.dst (den ν rv)) w := by
            have hg : Good S w0 ⟨ν, st, w⟩ gn.ntmps ν ⟨argEnv caps 0, [], st.nx, []⟩ st a0 w := by
              subst hact
              refine ⟨hR, ⟨?_, ?_, rfl, rfl⟩, rfl, Step.refl _ _ _⟩
              · simp [denL_length]; omega
              · intro t v hv
                exact argEnv_get ν st.nx caps 0 hb [] rfl _ t v hv
            have := hg.put (d := o.dst) (fun t ht => by rw [hdst] at ht; cases ht; exact h2) (v := rv) hrv
            rw [hdst] at this ⊢
            exact this
          have hops := evOps_sound (P := P) (S := S) (w0 := w0) (E := ⟨ν, st, w⟩) (n := gn.ntmps) hT hC (ops := ops) hne os [d] 1 (by rw [hos]; rfl) ν _ st _ w hga h
          have main : ∀ cs', cs' = { c₀ with mode := U } :: cs → wpOpsS P ops (Exit.thenS (rest.wpS P (bodyPostS P gn c₀ cs fun e u' w' => u' = U ∧ (∃ v, e = .returned v) ∧ ∃ ν' st', RelW S w0 ν' st' w' ∧ Step ν st w ν' st' w' ∧ K st' = res))
              (bodyPostS P gn c₀ cs fun e u' w' => u' = U ∧ (∃ v, e = .returned v) ∧ ∃ ν' st', RelW S w0 ν' st' w' ∧ Step ν st w ν' st' w' ∧ K st' = res)) (List.range' 1 os.length) (a0.put o.dst (den ν rv)) cs' w := by
            rintro cs' rfl
            refine wpOpsS_of_wpOps ?_ _ _ _ (wpOps_mono ?_ _ _ _ hops)
            · intro a1 w1 hq
              obtain ⟨_, _, ⟨v, hv⟩, _⟩ := hq
              cases hv
            · intro e a1 w1 hp
              cases e with
              | normal =>
                obtain ⟨ν', fr', st', hg', hk⟩ := hp
                refine wpS_of_wp (wp_mono (ev_sound hT hC hM nt k hne rest _ ν' fr' st' a1 w1 hg' hk) ?_)
                have fin : ∀ ν'' (fr'' : Fr) st'' (a2 : Act) w2, Good S w0 ⟨ν, st, w⟩ gn.ntmps ν'' fr'' st'' a2 w2 → fr''.dfs = [] → K st'' = res → a2.defers = [] ∧ ∃ u', ({ c₀ with mode := U } :: cs : List Frame) = { c₀ with mode := u' } :: cs ∧ ∃ v, (results gn a2.tmps).run P w2 = .ok v w2 ∧
                    (u' = U ∧ (∃ v', (Ending.returned v) = .returned v') ∧ ∃ ν' st', RelW S w0 ν' st' w2 ∧ Step ν st w ν' st' w2 ∧ K st' = res) := by
                  intro ν'' fr'' st'' a2 w2 hg'' hdf hk''
                  exact ⟨by rw [hg''.env.dfs, hdf]; simp [denL], U, rfl, _, results_none h3 _ _ _, rfl, ⟨_, rfl⟩, ν'', st'', hg''.rel, hg''.step, hk''⟩
                intro e a2 w2 hp2
                cases e with
                | normal =>
                  obtain ⟨ν'', fr'', st'', hg'', hk''⟩ := hp2
                  simp only [defK] at hk''
                  cases hdf : fr''.dfs with
                  | nil => rw [hdf] at hk''; exact fin ν'' fr'' st'' a2 w2 hg'' hdf hk''
                  | cons _ _ => rw [hdf] at hk''; exact absurd hk''.symm hne
                | ret =>
                  obtain ⟨ν'', fr'', st'', hg'', hk''⟩ := hp2
                  simp only [defK] at hk''
                  cases hdf : fr''.dfs with
                  | nil => rw [hdf] at hk''; exact fin ν'' fr'' st'' a2 w2 hg'' hdf hk''
                  | cons _ _ => rw [hdf] at hk''; exact absurd hk''.symm hne
                | exit id => obtain ⟨ν'', fr'', st'', hg'', hk''⟩ := hp2; exact absurd hk''.symm hne
                | panic ch => obtain ⟨ν'', fr'', st'', e, hg'', _, hk''⟩ := hp2; exact absurd hk''.symm hne
                | goto l => exact hp2.elim
                | outgrown => exact hp2.elim
              | exit id => obtain ⟨ν', fr', st', hg', hk⟩ := hp; exact absurd hk.symm hne
              | ret => obtain ⟨ν', fr', st', hg', hk⟩ := hp; exact absurd hk.symm hne
              | panic ch => obtain ⟨ν', fr', st', e, hg', _, hk⟩ := hp; exact absurd hk.symm hne
              | goto l => exact hp.elim
              | outgrown => exact hp.elim
          rcases hrec c₀ cs hu with ⟨v, hv, rfl⟩ | ⟨hn, hnil, rfl⟩
          · rw [hv]; exact main _ rfl
          · rw [hn]
            have := main (c₀ :: cs) (by subst hu; rfl)
            rw [hnil] at this
            exact this
        · rw [Bool.not_eq_true] at hc; rw [hc] at h; exact absurd h.symm hne
      · exact absurd h.symm hne
    · exact absurd h.symm hne
  · exact absurd h.symm hne

theorem evFnD_sound (hT : tabChk P tab = true) (hC : CalOk P cal) (hM : P.follows .mixedOrders = true) {D : Dfs} (hD : DfsOk P D) (f : FuncId) (fn : Func) (hf : P.funcs[f]? = some fn) (nt : Notes) (k : Nat) {args : List SV} (ha : Nat.ble args.length fn.ntmps = true) {st : St} {K : SV → St → O T} {Kp : PV → St → O T} {ν : Nat → Value} {w : World} {b : Nat} (hbx : b ≤ st.nx)
    (hR : RelW S w0 ν st w) (hb : belowL st.nx args = true) {res : O T} (h : evFnD tab cal D fn nt k b args st K Kp = res) (hne : res ≠ .no) :
    Calls P f (denL ν args).toArray w (CalPostB b S w0 ν st w K Kp res) := by
  unfold evFnD at h
  cases hc : fn.body with
  | some c =>
    rw [show bodyOf fn = c by unfold bodyOf; rw [hc]] at h
    rw [hc] at h
    simp only [Option.isSome_some, ifb] at h
    refine calls_of_wp_defers hf hc ?_
    have ha := Nat.le_of_ble_eq_true ha
    have hg : Good S w0 ⟨ν, ⟨b, st.dirty, []⟩, w⟩ fn.ntmps ν ⟨argEnv args 0, [], b, []⟩ st { tmps := (denL ν args).toArray ++ Array.replicate (fn.ntmps - (denL ν args).toArray.size) undef, defers := [] } w := by
      refine ⟨hR, ⟨?_, ?_, rfl, rfl⟩, rfl, ⟨hbx, fun _ _ => rfl, id, Nat.le_refl _, fun _ _ _ => rfl⟩⟩
      · simp [denL_length]; omega
      · intro t v hv
        exact argEnv_get ν st.nx args 0 hb [] rfl _ t v hv
    refine wp_mono (ev_sound hT hC hM nt k hne c _ ν _ st _ w hg h) ?_
    -- the results, behind all
    have last : ∀ ν' fr st' (a : Act) w', Good S w0 ⟨ν, ⟨b, st.dirty, []⟩, w⟩ fn.ntmps ν' fr st' a w' → ∀ vs, resVals tab fr st' fn.results.toList = some vs → K (resVal vs) st' = res →
        ∃ v, (results fn a.tmps).run P w' = .ok v w' ∧ CalPostB b S w0 ν st w K Kp res (.returned v) w' := by
      intro ν' fr st' a w' hg' vs hvs hk
      have hr := results_run (P := P) hT hg' hvs
      exact ⟨_, hr.1, ν', st', resVal vs, hg'.rel, hg'.step, rfl, hr.2, hk⟩
    -- a deferred closure, and the results
    have clo : ∀ ν' fr st' (a : Act) w' (g : FuncId) (caps : List SV) (gn : Func) (nt' : Notes) (rv : SV) (u U : FrameMode), Good S w0 ⟨ν, ⟨b, st.dirty, []⟩, w⟩ fn.ntmps ν' fr st' a w' → fr.dfs = [.clo g caps] → lkp g D = some (gn, nt') → svLt st'.nx rv = true → u ≠ .run → Go.settle U = .returning →
        (∀ (c₀ : Frame) (cs : List Frame), c₀.mode = u → (∃ v, recoverD (c₀ :: cs) = some (v, { c₀ with mode := U } :: cs) ∧ v = den ν' rv) ∨ (recoverD (c₀ :: cs) = none ∧ den ν' rv = .nilIface ∧ U = u)) →
        evDef tab cal gn nt' k caps st' rv (resK tab fn.results.toList K fr) = res → Leaves P fn a.tmps (CalPostB b S w0 ν st w K Kp res) a.defers u w' := by
      intro ν' fr st' a w' g caps gn nt' rv u U hg' hdf hl hrv hrun hU hrec hk
      obtain ⟨hgf, hent⟩ := hD.get hl
      have hdlt := hg'.env.dlt
      rw [hdf] at hdlt
      simp only [belowL, svLt, Bool.and_true] at hdlt
      rw [hg'.env.dfs, hdf]
      refine leaves_cons (f := g) (args := (denL ν' caps).toArray) hrun (by simp [invoke, hent]) ?_
      refine (evDef_sound hT hC hM hgf nt' k hne hg'.rel hdlt hrv hrec hk).mono ?_
      rintro e u' w'' ⟨rfl, ⟨v, rfl⟩, ν'', st'', hR'', hs'', hk''⟩
      show Leaves P fn a.tmps _ [] (Go.settle u') w''
      rw [hU]
      unfold resK at hk''
      split at hk''
      · rename_i vs hvs
        exact last ν'' fr st'' a w'' (hg'.next hR'' hs'') vs hvs hk''
      · exact absurd hk''.symm hne
    have recRet : ∀ (ν' : Nat → Value) (c₀ : Frame) (cs : List Frame), c₀.mode = .returning → (∃ v, recoverD (c₀ :: cs) = some (v, { c₀ with mode := .returning } :: cs) ∧ v = den ν' .nili) ∨ (recoverD (c₀ :: cs) = none ∧ den ν' .nili = .nilIface ∧ FrameMode.returning = FrameMode.returning) := by
      intro ν' c₀ cs hm
      exact .inr ⟨by simp [recoverD, hm], rfl, rfl⟩
    intro e a w' hp
    cases e with
    | normal =>
      obtain ⟨ν', fr, st', hg', hk⟩ := hp
      unfold finD at hk
      split at hk
      · rename_i hdf
        simp only [finK, hdf] at hk
        cases hvs : resVals tab fr st' fn.results.toList with
        | none => rw [hvs] at hk; exact absurd hk.symm hne
        | some vs =>
          rw [hvs] at hk
          show Leaves P fn a.tmps _ a.defers .returning w'
          rw [hg'.env.dfs, hdf]
          exact last ν' fr st' a w' hg' vs hvs hk
      · rename_i g caps hdf
        split at hk
        · rename_i gn nt' hl
          exact clo ν' fr st' a w' g caps gn nt' .nili .returning .returning hg' hdf hl rfl (by intro h; cases h) rfl (recRet ν') hk
        · exact absurd hk.symm hne
      · exact absurd hk.symm hne
    | ret =>
      obtain ⟨ν', fr, st', hg', hk⟩ := hp
      unfold finD at hk
      split at hk
      · rename_i hdf
        simp only [finK, hdf] at hk
        cases hvs : resVals tab fr st' fn.results.toList with
        | none => rw [hvs] at hk; exact absurd hk.symm hne
        | some vs =>
          rw [hvs] at hk
          show Leaves P fn a.tmps _ a.defers .returning w'
          rw [hg'.env.dfs, hdf]
          exact last ν' fr st' a w' hg' vs hvs hk
      · rename_i g caps hdf
        split at hk
        · rename_i gn nt' hl
          exact clo ν' fr st' a w' g caps gn nt' .nili .returning .returning hg' hdf hl rfl (by intro h; cases h) rfl (recRet ν') hk
        · exact absurd hk.symm hne
      · exact absurd hk.symm hne
    | exit id =>
      obtain ⟨ν', fr, st', hg', hk⟩ := hp
      unfold finD at hk
      split at hk
      · simp only [finK] at hk; exact absurd hk.symm hne
      · split at hk <;> exact absurd hk.symm hne
      · exact absurd hk.symm hne
    | panic ch =>
      obtain ⟨ν', fr, st', e, hg', rfl, hk⟩ := hp
      unfold finD at hk
      split at hk
      · rename_i hdf
        simp only [finK, hdf] at hk
        show Leaves P fn a.tmps _ a.defers (.panicking (panOf e)) w'
        rw [hg'.env.dfs, hdf]
        exact ⟨ν', st', e, hg'.rel, hg'.step, rfl, hk⟩
      · rename_i g caps hdf
        split at hk
        · rename_i gn nt' hl
          refine clo ν' fr st' a w' g caps gn nt' (ofPV e) (.panicking (panOf e)) (.panicking [{ v := den (fun _ => .pointer none) (ofPV e), recovered := true }]) hg' hdf hl (ofPV_lt _ e) (by intro h; cases h) rfl ?_ hk
          intro c₀ cs hm
          exact .inl ⟨den (fun _ => .pointer none) (ofPV e), by simp [recoverD, hm, panOf], (den_ofPV ν' e).symm⟩
        · exact absurd hk.symm hne
      · exact absurd hk.symm hne
    | goto l => exact hp.elim
    | outgrown => exact hp.elim
  | none => rw [hc] at h; exact absurd h.symm hne
end
theorem FnOkC.of_evD {P : Program} {tab : Tab} (hT : tabChk P tab = true) {C : Ct} (hg : C.good = true) {cal : Cal (AltsT C.ob C.outs)} (hC : CalOk P cal) (hM : P.follows .mixedOrders = true) {D : Dfs} (hD : DfsOk P D) {f : FuncId} {fn : Func} (hf : P.funcs[f]? = some fn) (nt : Notes) (k : Nat)
    {S : C.as.T → ObT C.ob → O (AltsT C.ob C.outs)} (ha : ∀ x g, Nat.ble (giveAs (γ0 C) C.as x (startO C g).nx).1.length fn.ntmps = true)
    (h : ∀ x g, evFnD tab cal D fn nt k C.ob.length (giveAs (γ0 C) C.as x (startO C g).nx).1 ((startO C g).adds (giveAs (γ0 C) C.as x (startO C g).nx).2) (fun v st => outK C.ob (γ0 C) C.outs v st.H .ok) (fun e st => outP C.ob (γ0 C) C.outs e st.H .ok) = S x g) : FnOkC P f C S := by
  intro x g hne w vs α F0 hO hnd hA
  obtain ⟨ν, hR, hden, hlt, hbx, hν⟩ := start_sound hg x g hO hnd hA
  have hp : ∀ k, k < C.ob.length → ∃ b, α k = .pointer (some ⟨b, 0, none⟩) := fun k hk => repO_ptr hO k (Nat.zero_le _) (by omega)
  rw [← hden]
  refine (evFnD_sound hT hC hM hD f fn hf nt k (ha x g) hbx hR hlt (h x g) hne).mono ?_
  intro e w' hp'
  cases e with
  | returned v =>
    obtain ⟨ν', st', r, hR', hs, rfl, _, hk⟩ := hp'
    have hGT := gamT_start (ν' := ν') hp hν (fun j hj => hs.agree j hj)
    obtain ⟨z, h1, h2⟩ := outK_sound hR' (by simp [γ0]) hGT hne r C.outs _ hk
    exact ⟨z, h1.symm, hR'.keep, h2⟩
  | panicked ch =>
    obtain ⟨ν', st', e, hR', hs, rfl, hk⟩ := hp'
    have hGT := gamT_start (ν' := ν') hp hν (fun j hj => hs.agree j hj)
    obtain ⟨z, h1, h2⟩ := outP_sound hR' (by simp [γ0]) hGT hne e C.outs _ hk
    exact ⟨z, h1.symm, hR'.keep, h2⟩
  | outgrown => exact hp'.elim
end Go.Aq
