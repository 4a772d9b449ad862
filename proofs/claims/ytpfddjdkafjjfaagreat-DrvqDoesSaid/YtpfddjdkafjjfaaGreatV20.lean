/- Contracts of functions that only look at their objects, and hand back nothing but plain values. -/
import Derived.Test.YtpfddjdkafjjfaaGreatV19
namespace Go.Aq
open Go.RowKit (Below)
set_option linter.unusedVariables false

def Sh.flat : Sh → Bool
  | .leaf _ => true
  | _ => false
def Shs.flat : Shs → Bool
  | .one s ps => s.flat && ps.isEmpty
  | .cons s r => s.flat && r.flat
  | _ => false
def AK.flat : AK → Bool
  | .unit => true
  | .val s => s.flat
  | .tup f => f.flat
  | .pan _ _ _ _ => true
  | .pan0 _ _ => true
  | _ => false
theorem repV_flat {w : World} {α : Nat → Value} {Av : Nat → Prop} : ∀ {s : Sh} {x : s.T} {v : Value} {F : List Nat}, s.flat = true → repV w α Av s x v F → F = []
  | .leaf l, x, v, F, _, h => by obtain ⟨cs, h, _⟩ := h; exact h.2
  | .row _ _ _, _, _, _, h, _ => by cases h
  | .agg _, _, _, _, h, _ => by cases h
theorem repA_flat {w : World} {α : Nat → Value} {Av : Nat → Prop} : ∀ {f : Shs} {x : f.T} {vs : List Value} {F : List Nat}, f.flat = true → repA w α Av f x vs F → F = []
  | .one s [], x, vs, F, hf, h => by
    simp only [Shs.flat, Bool.and_eq_true] at hf
    simp only [repA] at h
    obtain ⟨v, h1, h2⟩ := h
    exact repV_flat hf.1 h2
  | .one s (_ :: _), x, vs, F, hf, h => by simp [Shs.flat] at hf
  | .cons s r, x, vs, F, hf, h => by
    simp only [Shs.flat, Bool.and_eq_true] at hf
    simp only [repA] at h
    obtain ⟨v, vs', F1, F2, h1, h2, h3, h4⟩ := h
    have e1 := repV_flat hf.1 h3
    have e2 := repA_flat hf.2 h4
    subst e1 e2
    exact h2
  | .pin _ _, _, _, _, hf, _ => by cases hf
  | .pins _, _, _, _, hf, _ => by cases hf
theorem repE_flat {w : World} {α : Nat → Value} {k : AK} {x : k.T} {e : Ending} {F : List Nat} (hf : k.flat = true) (h : repE w α k x e F) : F = [] := by
  cases k <;> cases e <;> simp only [repE] at h
  all_goals first
    | exact h.2
    | exact h.elim
    | exact repV_flat hf h
    | (obtain ⟨vs, _, h⟩ := h; exact repA_flat hf h)
    | cases hf

/-- How a call of a function that only looks ends. -/
def FnPostR (w : World) (C : Ct) (α : Nat → Value) (m : O (AltsT [] C.outs)) (e : Ending) (w' : World) : Prop :=
  ∃ z, m = .ok z ∧ Keep [] w w' ∧ isAlt [] C.outs z fun a y => ∃ α', repE w' α' a.k (prK a.k _ y) e []
def FnOkR (P : Program) (f : FuncId) (C : Ct) (S : C.as.T → ObT C.ob → O (AltsT [] C.outs)) : Prop :=
  ∀ x g, S x g ≠ .no → ∀ w vs α F0, repO w α Any 0 C.ob g F0 → F0.Nodup → repAs w α (fun b => b < w.heap.size ∧ b ∉ F0) C.as x vs → Calls P f vs.toArray w (FnPostR w C α (S x g))
def Ct.goodR (C : Ct) : Bool := Ct.good ⟨C.as, C.ob, []⟩ && C.outs.all fun a => a.new.isEmpty && a.k.flat && a.k.fresh && a.k.lt 0
theorem isAlt_mono {ob : Obs} : ∀ {l : List Alt} {z : AltsT ob l} {P Q : (a : Alt) → PT a.k (ob ++ a.new) → Prop}, isAlt ob l z P → (∀ a ∈ l, ∀ y, P a y → Q a y) → isAlt ob l z Q
  | [], _, _, _, h, _ => h
  | [a], y, _, _, h, k => k a (by simp) y h
  | a :: _ :: _, .inl y, _, _, h, k => k a (by simp) y h
  | _ :: b :: r, .inr z, _, _, h, k => isAlt_mono (l := b :: r) (z := z) h fun a ha => k a (List.mem_cons_of_mem _ ha)
theorem flatOf {l : List Alt} (h : (l.all fun a => a.new.isEmpty && a.k.flat && a.k.fresh && a.k.lt 0) = true) {a : Alt} (ha : a ∈ l) : a.new = [] ∧ a.k.flat = true ∧ a.k.fresh = true ∧ a.k.lt 0 = true := by
  have := List.all_eq_true.1 h a ha
  simp only [Bool.and_eq_true, List.isEmpty_iff] at this
  exact ⟨this.1.1.1, this.1.1.2, this.1.2, this.2⟩
theorem flatEnd {l : List Alt} (h : (l.all fun a => a.new.isEmpty && a.k.flat && a.k.fresh && a.k.lt 0) = true) {a : Alt} (ha : a ∈ l) {S : Nat → Prop} {w0 w : World} {α : Nat → Value} {e : Ending} {y : PT a.k ([] ++ a.new)} (hy : AltIs S w0 w α [] e a y) : ∃ α', repE w α' a.k (prK a.k _ y) e [] := by
  obtain ⟨α', F1, F2, _, _, h2, _⟩ := hy
  have := repE_flat (flatOf h ha).2.1 h2
  subst this
  exact ⟨α', h2⟩
theorem keepR {F0 : List Nat} {w w' : World} {ν ν' : Nat → Value} {st st' : St} (hR : RelW (· ∈ F0) w ν' st' w') (hs : Step ν st w ν' st' w') (hd : st'.dirty = false) : Keep [] w w' :=
  ⟨hR.os, hR.tape, hR.output, hR.size, fun b hb _ => hs.same hd b hb⟩
theorem FnOkR.of_ev {P : Program} {tab : Tab} (hT : tabChk P tab = true) {C : Ct} (hg : C.goodR = true) {cal : Cal (AltsT [] C.outs)} (hC : CalOk P cal) (hM : P.follows .mixedOrders = true) {f : FuncId} {fn : Func} (hf : P.funcs[f]? = some fn) (nt : Notes) (k : Nat)
    {S : C.as.T → ObT C.ob → O (AltsT [] C.outs)} (ha : ∀ x g, Nat.ble (giveAs (γ0 C) C.as x (startO C g).nx).1.length fn.ntmps = true)
    (h : ∀ x g, evFn tab cal fn nt k C.ob.length (giveAs (γ0 C) C.as x (startO C g).nx).1 [] ((startO C g).adds (giveAs (γ0 C) C.as x (startO C g).nx).2) (fun v st => ifb st.dirty .no (outK [] [] C.outs v st.H .ok)) (fun e st => ifb st.dirty .no (outP [] [] C.outs e st.H .ok)) = S x g) : FnOkR P f C S := by
  intro x g hne w vs α F0 hO hnd hA
  unfold Ct.goodR at hg
  rw [Bool.and_eq_true] at hg
  obtain ⟨hg, hg'⟩ := hg
  obtain ⟨ν, hR, hden, hlt, hbx, hν⟩ := start_sound (C := ⟨C.as, C.ob, []⟩) hg x g hO hnd hA
  have hp : ∀ k, k < C.ob.length → ∃ b, α k = .pointer (some ⟨b, 0, none⟩) := fun k hk => repO_ptr hO k (Nat.zero_le _) (by omega)
  rw [← hden]
  refine (evFn_sound hT hC hM f fn hf nt k (ha x g) hbx hR hlt (h x g) hne).mono ?_
  intro e w' hp'
  cases e with
  | returned v =>
    obtain ⟨ν', st', r, hR', hs, rfl, _, hk⟩ := hp'
    dsimp only at hk
    cases hd : st'.dirty with
    | true => rw [hd] at hk; exact absurd hk.symm hne
    | false =>
      rw [hd] at hk
      have hk' : outK [] [] C.outs r st'.H .ok = S x g := hk
      have hGT : GamT [] (fun _ => undef) ν' := fun i hi => by cases hi
      obtain ⟨z, h1, h2⟩ := outK_sound (α := fun _ => undef) hR' rfl hGT hne r C.outs _ hk'
      exact ⟨z, h1.symm, keepR hR' hs hd, isAlt_mono h2 fun a ha y hy => flatEnd hg' ha hy⟩
  | panicked ch =>
    obtain ⟨ν', st', e, hR', hs, rfl, hk⟩ := hp'
    dsimp only at hk
    cases hd : st'.dirty with
    | true => rw [hd] at hk; exact absurd hk.symm hne
    | false =>
      rw [hd] at hk
      have hk' : outP [] [] C.outs e st'.H .ok = S x g := hk
      have hGT : GamT [] (fun _ => undef) ν' := fun i hi => by cases hi
      obtain ⟨z, h1, h2⟩ := outP_sound (α := fun _ => undef) hR' rfl hGT hne e C.outs _ hk'
      exact ⟨z, h1.symm, keepR hR' hs hd, isAlt_mono h2 fun a ha y hy => flatEnd hg' ha hy⟩
  | outgrown => exact hp'.elim

/-- Such a callee by its plain function: the heap stays as it was. -/
noncomputable def pureR {T : Type} (C : Ct) (bd : List Pth) (S : C.as.T → ObT C.ob → O (AltsT [] C.outs)) : Hd T := fun args sl st K Kp =>
  match bindG args st.H bd [] with
  | some γ => ifb (Nat.beq γ.length C.ob.length) (takeO γ 0 C.ob st.H fun g H => takeAs γ C.as args H fun x => altsK [] C.outs (S x g) fun a y => giveK [] st K Kp a.k (prK a.k _ y)) .no
  | none => .no
theorem pureR_ok {P : Program} {f : FuncId} {T : Type} {C : Ct} (hg : C.goodR = true) (bd : List Pth) {S : C.as.T → ObT C.ob → O (AltsT [] C.outs)} (hF : FnOkR P f C S) (hcall : ∀ as w, (callFunc f as).run P w = .ok (.enter f as) w) : HdOk P f (pureR (T := T) C bd S) := by
  intro args sl st K Kp hne
  refine ⟨hcall, fun Sp w0 ν w hR hb => ?_⟩
  unfold Ct.goodR at hg
  rw [Bool.and_eq_true] at hg
  obtain ⟨hg, hg'⟩ := hg
  have G := Ct.good' hg
  generalize hres : pureR C bd S args sl st K Kp = res at hne ⊢
  unfold pureR at hres
  cases hbd : bindG args st.H bd [] with
  | none => rw [hbd] at hres; exact absurd hres.symm hne
  | some γ =>
    rw [hbd] at hres
    dsimp only at hres
    by_cases hlen : Nat.beq γ.length C.ob.length = true
    case neg => rw [Bool.not_eq_true] at hlen; rw [hlen] at hres; exact absurd hres.symm hne
    rw [hlen] at hres
    have hres : takeO γ 0 C.ob st.H (fun g H => takeAs γ C.as args H fun x => altsK [] C.outs (S x g) fun a y => giveK [] st K Kp a.k (prK a.k _ y)) = res := hres
    have hlen := Nat.eq_of_beq_eq_true hlen
    have hGT : GamT γ (fun i => den ν (.ptr (nth γ i) 0)) ν := fun i _ => rfl
    obtain ⟨g, H, F0, h1, hO, t⟩ := takeO_sound hR hGT hne C.ob 0 (by omega) st.H _ (fun _ _ h => h) (Av := Any) ⟨fun _ _ _ _ _ => trivial, fun _ _ _ => trivial⟩ hres
    have hav : Hangs Sp w0 ν H (fun b => b < w.heap.size ∧ b ∉ F0) := ⟨fun j o b hj hb => ⟨hoSat_lt (hR.sat j o (t.1 j o hj)) b hb, t.apart hR hj hb⟩, fun b hb hn => ⟨Nat.lt_of_lt_of_le hb hR.size, fun hf => by
      obtain ⟨j', o', q1, _, q3⟩ := t.2.2 b hf
      rcases hR.mine j' o' b q1 q3 with h | h
      · exact hn h
      · omega⟩⟩
    obtain ⟨x, h2, hA⟩ := takeAs_sound hR hGT hne C.as G.seen args H _ (t.sub (fun _ _ h => h)) hav h1
    obtain ⟨z, hz, hq⟩ := altsK_is hne h2
    refine (hF x g (by rw [hz]; intro h; cases h) w _ _ F0 hO t.2.1 hA).mono ?_
    intro e w' hp
    obtain ⟨z', hz', hK, hp⟩ := hp
    rw [hz] at hz'
    obtain rfl := O.ok.inj hz'
    obtain ⟨a, ha, y, hy, α', hr⟩ := isAlt_and hq hp
    have hR' : RelW Sp w0 ν st w' := hR.below ⟨hK.os, hK.tape, hK.output, hK.size, fun b hb => hK.heap b hb (by simp)⟩
    obtain ⟨q1, q2, q3, q4⟩ := flatOf hg' ha
    have hG : Gam [] 0 α' ν st.nx := fun i hi => by cases hi
    have hfree : Free Sp w0 ν st [] := ⟨List.nodup_nil, fun b hb => absurd hb List.not_mem_nil, fun b hb => absurd hb List.not_mem_nil⟩
    obtain ⟨ν3, st3, k1, k2, k3, k4, k5⟩ := giveK_sound hR' hG a.k q3 q4 (prK a.k _ y) e [] hr hfree hy
    have hstep : Step ν st w ν3 st3 w' := ⟨k2, k4, fun h => by rw [k3, h], hK.size, fun _ b hb => hK.heap b hb (by simp)⟩
    cases e with
    | returned v =>
      obtain ⟨r, e1, e2, e3⟩ := k5
      exact ⟨ν3, st3, r, k1, hstep, e1, e2, e3⟩
    | panicked ch =>
      obtain ⟨p, e1, e2⟩ := k5
      exact ⟨ν3, st3, p, k1, hstep, e1, e2⟩
    | outgrown => exact k5.elim
end Go.Aq
