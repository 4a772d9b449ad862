/- Functions that are called by plain values: their contracts, and how callers use them. -/
import Derived.Test.YtmpmdfgjejkaiaaE8
namespace Go.Aq
open Go.RowKit (Below)

def ν0 : Nat → Value := fun _ => .pointer none

/-- A call by plain values: what it hands back, or panics with; no old memory is turned. -/
def FnPost {α : Type} (w : World) (m : O α) (enc : α → SV) : Ending → World → Prop
  | .returned v, w' => ∃ r, m = .ok r ∧ v = den ν0 (enc r) ∧ Below w.heap.size w w'
  | .panicked ch, w' => ∃ p, m = .pan p ∧ ch = panOf p ∧ Below w.heap.size w w'
  | .outgrown, _ => False
def FnOk (P : Program) (f : FuncId) (args : List SV) {α : Type} (m : O α) (enc : α → SV) : Prop :=
  m ≠ .no → ∀ w, Calls P f (denL ν0 args).toArray w (FnPost w m enc)

def O.opt {α : Type} : Option α → O α
  | some a => .ok a
  | none => .no
def panK {α : Type} (e : PV) (_ : St) : O α := .pan e
def St.new : St := ⟨0, false, []⟩

theorem RelW.start (w : World) : RelW (fun _ => False) w ν0 St.new w where
  sat j o h := by cases h
  lt j o h := by cases h
  inj i j oi oj h := by cases h
  mine j o h := by cases h
  os := rfl
  tape := rfl
  output := rfl
  size := Nat.le_refl _
  frame _ _ _ := rfl
theorem RelW.toBelow {w w' : World} {ν : Nat → Value} {st : St} (h : RelW (fun _ => False) w ν st w') : Below w.heap.size w w' :=
  ⟨h.os, h.tape, h.output, h.size, fun b hb => h.frame b hb (fun h => h)⟩
theorem den_ground {v : SV} (h : svLt 0 v = true) (ν ν' : Nat → Value) : den ν v = den ν' v := den_congr (n := 0) (fun j hj => absurd hj (Nat.not_lt_zero j)) v h
theorem denL_ground {vs : List SV} (h : belowL 0 vs = true) (ν ν' : Nat → Value) : denL ν vs = denL ν' vs := denL_congr (n := 0) (fun j hj => absurd hj (Nat.not_lt_zero j)) vs h

theorem FnOk.of_ev {P : Program} {tab : Tab} (hT : tabChk P tab = true) {α : Type} {cal : Cal α} (hC : CalOk P cal) (hM : P.follows .mixedOrders = true) {f : FuncId} {fn : Func} (hf : P.funcs[f]? = some fn) (nt : Notes) (k : Nat)
    {args : List SV} (ha : Nat.ble args.length fn.ntmps = true) (hb : belowL 0 args = true) {dec : SV → Option α} {enc : α → SV} (hdec : ∀ v r, dec v = some r → v = enc r) (henc : ∀ r, svLt 0 (enc r) = true) {m : O α}
    (h : evFn tab cal fn nt k args St.new (fun v _ => O.opt (dec v)) panK = m) : FnOk P f args m enc := by
  intro hne w
  refine (evFn_sound hT hC hM f fn hf nt k ha (RelW.start w) hb h hne).mono ?_
  intro e w' hp
  cases e with
  | returned v =>
    obtain ⟨ν', st', r, hR, _, rfl, _, hk⟩ := hp
    simp only at hk
    cases hd : dec r with
    | none => rw [hd] at hk; exact absurd hk.symm hne
    | some x =>
      rw [hd] at hk
      refine ⟨x, hk.symm, ?_, hR.toBelow⟩
      rw [hdec r x hd, den_ground (henc x)]
  | panicked ch =>
    obtain ⟨ν', st', e, hR, _, rfl, hk⟩ := hp
    exact ⟨e, hk.symm, rfl, hR.toBelow⟩
  | outgrown => exact hp.elim

/-- A callee, as its caller's evaluator uses it. -/
abbrev Hd (T : Type) := List SV → St → (SV → St → O T) → (PV → St → O T) → O T
def HdOk (P : Program) (f : FuncId) {T : Type} (h : Hd T) : Prop :=
  ∀ args st (K : SV → St → O T) (Kp : PV → St → O T), h args st K Kp ≠ .no → (∀ as w, (callFunc f as).run P w = .ok (.enter f as) w) ∧
    ∀ S w0 ν w, RelW S w0 ν st w → belowL st.nx args = true → Calls P f (denL ν args).toArray w (CalPost S w0 ν st w K Kp (h args st K Kp))
def calOf {T : Type} (l : List (FuncId × Hd T)) : Cal T := fun f args st K Kp =>
  match lkp f l with
  | some h => h args st K Kp
  | none => .no
def HdsOk (P : Program) {T : Type} : List (FuncId × Hd T) → Prop
  | [] => True
  | (f, h) :: r => HdOk P f h ∧ HdsOk P r
theorem calOf_ok {P : Program} {T : Type} {l : List (FuncId × Hd T)} (h : HdsOk P l) : CalOk P (calOf l) := by
  intro f args st K Kp hne
  unfold calOf at hne ⊢
  have : ∀ hd, lkp f l = some hd → HdOk P f hd := by
    clear hne
    induction l with
    | nil => intro hd hl; cases hl
    | cons x xs ih =>
      obtain ⟨g, hg⟩ := x
      intro hd hl
      rw [lkp_cons] at hl
      split at hl
      · rename_i e; subst e; cases hl; exact h.1
      · exact ih h.2 hd hl
  cases hl : lkp f l with
  | none => rw [hl] at hne; exact absurd rfl hne
  | some hd => rw [hl] at hne; exact this hd hl args st K Kp hne

/-- A callee by its plain function. -/
def pureH {T α β : Type} (decA : List SV → Option β) (S : β → O α) (enc : α → SV) : Hd T := fun args st K Kp =>
  match decA args with
  | some x => O.both (S x) (fun r => K (enc r) st) (fun e => Kp e st)
  | none => .no
theorem pureH_ok {P : Program} {f : FuncId} {T α β : Type} {decA : List SV → Option β} {encA : β → List SV} (hdec : ∀ a x, decA a = some x → a = encA x) (hA : ∀ x, belowL 0 (encA x) = true) {S : β → O α} {enc : α → SV} (henc : ∀ r, svLt 0 (enc r) = true)
    (hF : ∀ x, FnOk P f (encA x) (S x) enc) (hcall : ∀ as w, (callFunc f as).run P w = .ok (.enter f as) w) : HdOk P f (pureH (T := T) decA S enc) := by
  intro args st K Kp hne
  refine ⟨hcall, fun Sp w0 ν w hR hb => ?_⟩
  unfold pureH at hne ⊢
  cases hd : decA args with
  | none => rw [hd] at hne; exact absurd rfl hne
  | some x =>
    rw [hd] at hne
    simp only at hne ⊢
    obtain rfl := hdec args x hd
    have hs : S x ≠ .no := by intro h; rw [h] at hne; exact hne rfl
    rw [denL_ground (hA x) ν ν0]
    refine (hF x hs w).mono ?_
    intro e w' hp
    cases e with
    | returned v =>
      obtain ⟨r, hr, rfl, hB⟩ := hp
      exact ⟨ν, st, enc r, hR.below hB, Step.below hR hB, by rw [den_ground (henc r)], svLt_mono (Nat.zero_le _) _ (henc r), by rw [hr]; rfl⟩
    | panicked ch =>
      obtain ⟨p, hr, rfl, hB⟩ := hp
      exact ⟨ν, st, p, hR.below hB, Step.below hR hB, rfl, by rw [hr]; rfl⟩
    | outgrown => exact hp.elim
/-- A callee gone through in place. -/
def inlH {T : Type} (tab : Tab) (cal : Cal T) (fn : Func) (nt : Notes) (k : Nat) : Hd T := fun args st K Kp =>
  bif Nat.ble args.length fn.ntmps then evFn tab cal fn nt k args st K Kp else .no
theorem inlH_ok {P : Program} {tab : Tab} (hT : tabChk P tab = true) {T : Type} {cal : Cal T} (hC : CalOk P cal) (hM : P.follows .mixedOrders = true) {f : FuncId} {fn : Func} (hf : P.funcs[f]? = some fn) (nt : Notes) (k : Nat)
    (hcall : ∀ as w, (callFunc f as).run P w = .ok (.enter f as) w) : HdOk P f (inlH (T := T) tab cal fn nt k) := by
  intro args st K Kp hne
  refine ⟨hcall, fun Sp w0 ν w hR hb => ?_⟩
  unfold inlH at hne ⊢
  by_cases hl : Nat.ble args.length fn.ntmps = true
  · rw [hl, cond_true] at hne ⊢
    exact evFn_sound hT hC hM f fn hf nt k hl hR hb rfl hne
  · rw [Bool.not_eq_true] at hl; rw [hl] at hne; exact absurd rfl hne
end Go.Aq
