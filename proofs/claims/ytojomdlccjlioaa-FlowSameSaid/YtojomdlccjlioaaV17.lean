/- Functions that panic with values of one type alone: what they hand back, or what they panic with. -/
import Derived.Test.YtojomdlccjlioaaV15
namespace Go.Aq
open Go.RowKit (Below)
set_option linter.unusedVariables false

theorem O.sum_ex : ∃ B : (ε α β : Type) → O (ε ⊕ α) → (ε → O β) → (α → O β) → O β, ∀ ε α β m g f, B ε α β m g f = (match m with | .ok (.inl e) => g e | .ok (.inr a) => f a | .pan _ => .no | .no => .no) := ⟨_, fun _ _ _ _ _ _ => rfl⟩
/-- What follows of what was panicked with, and of what was handed back. -/
noncomputable def O.sum {ε α β : Type} (m : O (ε ⊕ α)) (g : ε → O β) (f : α → O β) : O β := Classical.choose O.sum_ex ε α β m g f
theorem O.sum_eq {ε α β : Type} (m : O (ε ⊕ α)) (g : ε → O β) (f : α → O β) : O.sum m g f = (match m with | .ok (.inl e) => g e | .ok (.inr a) => f a | .pan _ => .no | .no => .no) := Classical.choose_spec O.sum_ex ε α β m g f
@[simp] theorem O.sum_inl {ε α β : Type} (e : ε) (g : ε → O β) (f : α → O β) : O.sum (.ok (.inl e)) g f = g e := O.sum_eq _ _ _
@[simp] theorem O.sum_inr {ε α β : Type} (a : α) (g : ε → O β) (f : α → O β) : O.sum (.ok (.inr a)) g f = f a := O.sum_eq _ _ _

def Lf.gl : (l : Lf) → l.T → GL
  | .int k, n => .int k n
  | .bool, b => .bool b
  | .str, s => .str s
def glsOf : (ls : List Lf) → LT ls → List GL
  | [], _ => []
  | [l], x => [l.gl x]
  | l :: m :: ls, x => l.gl x.1 :: glsOf (m :: ls) x.2
def Lf.ungl : (l : Lf) → GL → Option l.T
  | .int k, .int k' n => bif decide (k = k') then some n else none
  | .bool, .bool b => some b
  | .str, .str s => some s
  | _, _ => none
def unglsOf : (ls : List Lf) → List GL → Option (LT ls)
  | [], [] => some ()
  | [l], [g] => l.ungl g
  | l :: m :: ls, g :: gs => match l.ungl g with
    | some x => match unglsOf (m :: ls) gs with
      | some y => some (x, y)
      | none => none
    | none => none
  | _, _ => none
theorem ungl_of {l : Lf} {g : GL} {x : l.T} (h : l.ungl g = some x) : g = l.gl x := by
  cases l <;> cases g <;> simp only [Lf.ungl, reduceCtorEq] at h
  · rename_i k k' n
    by_cases hk : k = k'
    · subst hk
      rw [decide_eq_true rfl, cond_true] at h
      rw [← Option.some.inj h]; rfl
    · rw [decide_eq_false hk, cond_false] at h; cases h
  · rw [← Option.some.inj h]; rfl
  · rw [← Option.some.inj h]; rfl
theorem ungls_one (l : Lf) (g : GL) : unglsOf [l] [g] = l.ungl g := rfl
theorem ungls_more (l m : Lf) (ls : List Lf) (g : GL) (gs : List GL) : unglsOf (l :: m :: ls) (g :: gs) = (match l.ungl g with
    | some x => match unglsOf (m :: ls) gs with
      | some y => some (x, y)
      | none => none
    | none => none) := rfl
theorem ungls_of : ∀ (ls : List Lf) (gs : List GL) (x : LT ls), unglsOf ls gs = some x → gs = glsOf ls x := by
  intro ls
  induction ls with
  | nil =>
    intro gs x h
    cases gs with
    | nil => rfl
    | cons _ _ => exact nomatch h
  | cons l ls ih =>
    intro gs x h
    cases ls with
    | nil =>
      cases gs with
      | nil => exact nomatch h
      | cons g gs =>
        cases gs with
        | nil => rw [ungls_one] at h; rw [ungl_of h]; rfl
        | cons _ _ => exact nomatch h
    | cons m ls =>
      cases gs with
      | nil => exact nomatch h
      | cons g gs =>
        rw [ungls_more] at h
        split at h
        · rename_i y hy
          split at h
          · rename_i z hz
            rw [← Option.some.inj h, ungl_of hy, ih gs z hz]; rfl
          · exact nomatch h
        · exact nomatch h

def sameB : Bool → Bool → Bool
  | true, true => true
  | false, false => true
  | _, _ => false
theorem sameB_eq {a b : Bool} (h : sameB a b = true) : a = b := by cases a <;> cases b <;> simp_all [sameB]
/-- What is panicked with, if it is of the type. -/
def panE {α : Type} (t : TypeId) (agg : Bool) (ls : List Lf) (e : PV) (_ : St) : O (LT ls ⊕ α) :=
  match e with
  | ⟨t', agg', gs⟩ => ifb (Nat.beq t t' && sameB agg agg') (match unglsOf ls gs with
    | some x => .ok (.inl x)
    | none => .no) .no
theorem panE_of {α : Type} {t : TypeId} {agg : Bool} {ls : List Lf} {e : PV} {st : St} {res : O (LT ls ⊕ α)} (h : panE t agg ls e st = res) (hne : res ≠ .no) : ∃ x, res = .ok (.inl x) ∧ e = ⟨t, agg, glsOf ls x⟩ := by
  obtain ⟨t', agg', gs⟩ := e
  unfold panE at h
  simp only at h
  by_cases hc : (Nat.beq t t' && sameB agg agg') = true
  · rw [hc, ifb_true] at h
    simp only [Bool.and_eq_true] at hc
    obtain rfl := Nat.eq_of_beq_eq_true hc.1
    obtain rfl := sameB_eq hc.2
    split at h
    · rename_i x hx
      exact ⟨x, h.symm, by rw [ungls_of ls gs x hx]⟩
    · exact absurd h.symm hne
  · rw [Bool.not_eq_true] at hc; rw [hc] at h; exact absurd h.symm hne

/-- A call by plain things: what it hands back, or panics with; no old memory is turned. -/
def FnPostE (w : World) (rt : Rt) (t : TypeId) (agg : Bool) (ls : List Lf) (m : O (LT ls ⊕ rt.T)) : Ending → World → Prop
  | .returned v, w' => ∃ r F, m = .ok (.inr r) ∧ repR w' rt r v F ∧ F.Nodup ∧ (∀ b ∈ F, w.heap.size ≤ b) ∧ Below w.heap.size w w'
  | .panicked ch, w' => ∃ x, m = .ok (.inl x) ∧ ch = panOf ⟨t, agg, glsOf ls x⟩ ∧ Below w.heap.size w w'
  | .outgrown, _ => False
def FnOkE (P : Program) (f : FuncId) (as : As) (rt : Rt) (t : TypeId) (agg : Bool) (ls : List Lf) (S : as.T → O (LT ls ⊕ rt.T)) : Prop :=
  ∀ x, S x ≠ .no → ∀ w vs, repAs w as x vs → Calls P f vs.toArray w (FnPostE w rt t agg ls (S x))

theorem FnOkE.of_ev {P : Program} {tab : Tab} (hT : tabChk P tab = true) {as : As} {rt : Rt} {t : TypeId} {agg : Bool} {ls : List Lf} {cal : Cal (LT ls ⊕ rt.T)} (hC : CalOk P cal) (hM : P.follows .mixedOrders = true) {f : FuncId} {fn : Func} (hf : P.funcs[f]? = some fn) (nt : Notes) (k : Nat)
    {S : as.T → O (LT ls ⊕ rt.T)} (ha : ∀ x, Nat.ble (giveAs as x).1.length fn.ntmps = true)
    (h : ∀ x, evFn tab cal fn nt k (giveAs as x).1 [] (St.new.adds (giveAs as x).2) (fun v st => takeR rt v st.H (fun x => .ok (.inr x))) (panE t agg ls) = S x) : FnOkE P f as rt t agg ls S := by
  intro x hne w vs hrep
  obtain ⟨ν, hR, hden, hlt⟩ : ∃ ν, RelW (fun _ => False) w ν (St.new.adds (giveAs as x).2) w ∧ denL ν (giveAs as x).1 = vs ∧ belowL (St.new.adds (giveAs as x).2).nx (giveAs as x).1 = true := by
    cases as with
    | none =>
      simp only [repAs] at hrep
      subst hrep
      exact ⟨ν0, RelW.start w, rfl, rfl⟩
    | some f =>
      obtain ⟨ν, ⟨h1, _, _⟩, h2, h3⟩ := giveA_sound f x vs [] ν0 St.new (RelW.start w) hrep ⟨List.nodup_nil, fun b hb => (by cases hb), fun b hb => (by cases hb)⟩ (.inr fun b hb => ⟨hb, fun h => h⟩)
      refine ⟨ν, h1, h2, ?_⟩
      rw [adds_nx]
      exact h3
  rw [← hden]
  refine (evFn_sound hT hC hM f fn hf nt k (ha x) hR hlt (h x) hne).mono ?_
  intro e w' hp
  cases e with
  | returned v =>
    obtain ⟨ν', st', r, hR', _, rfl, _, hk⟩ := hp
    obtain ⟨y, F, h1, h2, h3, h4⟩ := takeR_sound hR' hne rt r _ hk
    exact ⟨y, F, h1.symm, h2, h3, fun b hb => (h4 b hb).elim (fun h => h.elim) id, hR'.toBelow⟩
  | panicked ch =>
    obtain ⟨ν', st', e, hR', _, rfl, hk⟩ := hp
    obtain ⟨x, h1, rfl⟩ := panE_of hk hne
    exact ⟨x, h1, rfl, hR'.toBelow⟩
  | outgrown => exact hp.elim

noncomputable def pureE {T : Type} (as : As) (rt : Rt) (t : TypeId) (agg : Bool) (ls : List Lf) (S : as.T → O (LT ls ⊕ rt.T)) : Hd T := fun args sl st K Kp =>
  takeAs as args st.H fun x => O.sum (S x) (fun e => Kp ⟨t, agg, glsOf ls e⟩ st) (fun r => K (giveR rt r st.nx).1 (st.adds (giveR rt r st.nx).2))
theorem pureE_ok {P : Program} {f : FuncId} {T : Type} {as : As} {rt : Rt} {t : TypeId} {agg : Bool} {ls : List Lf} {S : as.T → O (LT ls ⊕ rt.T)} (hs : as.seen = true) (hr : rt.fresh = true) (hF : FnOkE P f as rt t agg ls S) (hcall : ∀ as w, (callFunc f as).run P w = .ok (.enter f as) w) : HdOk P f (pureE (T := T) as rt t agg ls S) := by
  intro args sl st K Kp hne
  refine ⟨hcall, fun Sp w0 ν w hR hb => ?_⟩
  obtain ⟨x, hk, hrep⟩ := takeAs_sound hR hne as hs args _ rfl
  rw [O.sum_eq] at hk
  have hs : S x ≠ .no := by intro h; simp only [h] at hk; exact hne hk.symm
  refine (hF x hs w _ hrep).mono ?_
  intro e w' hp
  cases e with
  | returned v =>
    obtain ⟨r, F, hr', hrp, hnd, hfr, hB⟩ := hp
    have hR' := hR.below hB
    obtain ⟨ν', ⟨g1, g2, _⟩, g4, g5⟩ := giveR_sound rt hr r v F ν st hR' hrp ⟨hnd, fun b hb => .inr (Nat.le_trans hR.size (hfr b hb)), fun b hb j o hj hm => by
      have := hoSat_lt (hR.sat j o hj) b (mine_on hm)
      have := hfr b hb
      omega⟩
    refine ⟨ν', _, _, g1, ⟨by rw [adds_nx]; omega, g2, by rw [adds_dirty]; exact id, hB.size, fun _ b hb => hB.block b hb⟩, g4.symm, by rw [adds_nx]; exact g5, ?_⟩
    rw [← hk, hr']
  | panicked ch =>
    obtain ⟨p, hr', rfl, hB⟩ := hp
    refine ⟨ν, st, _, hR.below hB, Step.below ν st hB, rfl, ?_⟩
    rw [← hk, hr']
  | outgrown => exact hp.elim
end Go.Aq
