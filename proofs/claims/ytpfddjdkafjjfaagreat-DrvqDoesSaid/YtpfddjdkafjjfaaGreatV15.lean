/- Contracts: from an evaluation to a contract, from a contract to a callee. -/
import Derived.Test.YtpfddjdkafjjfaaGreatV14
namespace Go.Aq
open Go.RowKit (Below)
set_option linter.unusedVariables false

section
variable {β : Type} {S : Nat → Prop} {w0 : World} {ν : Nat → Value} {st : St} {w : World} {γ : List Nat} {α : Nat → Value}
/-- What is known of how a call ended. -/
def AltIs (S : Nat → Prop) (w0 w : World) (α : Nat → Value) (ob : Obs) (e : Ending) (a : Alt) (y : PT a.k (ob ++ a.new)) : Prop :=
  ∃ α' F1 F2, (∀ i, i < ob.length → α' i = α i) ∧ repO w α' Any 0 (ob ++ a.new) (prO a.k _ y) F1 ∧ repE w α' a.k (prK a.k _ y) e F2 ∧ (F1 ++ F2).Nodup ∧ ∀ b ∈ F1 ++ F2, S b ∨ w0.heap.size ≤ b
theorem takeAlt_sound (hR : RelW S w0 ν st w) {ob : Obs} (hγ : γ.length = ob.length) (hG : GamT γ α ν) {res : O β} (hne : res ≠ .no) (a : Alt) (vs : List SV) (e : Ending) (X : List Nat → Heap → (a.k.T → O β) → O β) (k : PT a.k (ob ++ a.new) → O β)
    (hX : ∀ γ' α' H K, GamT γ' α' ν → (∀ j o, lkp j H = some o → lkp j st.H = some o) → X γ' H K = res → ∃ x H' F, K x = res ∧ repE w α' a.k x e F ∧ Taken ν H H' F)
    (h : takeAlt ob γ a vs st.H X k = res) : ∃ y, k y = res ∧ AltIs S w0 w α ob e a y := by
  unfold takeAlt at h
  split at h
  · rename_i γ' hb
    by_cases hc : Nat.ble (ob ++ a.new).length γ'.length = true
    · rw [hc, ifb_true] at h
      obtain ⟨ext, rfl⟩ := bindG_pre hb
      have hG' : GamT (γ ++ ext) (fun i => den ν (.ptr (nth (γ ++ ext) i) 0)) ν := fun i _ => rfl
      have hA : Hangs S w0 ν st.H Any := ⟨fun _ _ _ _ _ => trivial, fun _ _ _ => trivial⟩
      obtain ⟨g, H1, F1, h1, r1, t1⟩ := takeO_sound hR hG' hne (ob ++ a.new) 0 (by rw [Nat.zero_add]; exact Nat.le_of_ble_eq_true hc) st.H _ (fun _ _ h => h) hA h
      obtain ⟨x, H2, F2, h2, r2, t2⟩ := hX _ _ H1 _ hG' (t1.sub (fun _ _ h => h)) h1
      refine ⟨mkP a.k _ x g, h2, _, F1, F2, ?_, by rw [prO_mk]; exact r1, by rw [prK_mk]; exact r2, ?_, ?_⟩
      · intro i hi
        have hi' : i < γ.length := by omega
        show den ν (.ptr (nth (γ ++ ext) i) 0) = α i
        rw [nth_app hi']
        exact hG i hi'
      · exact (t1.trans hR (fun _ _ h => h) t2).2.1
      · intro b hb
        obtain ⟨j, o, hj, _, hm⟩ := (t1.trans hR (fun _ _ h => h) t2).2.2 b hb
        exact hR.mine j o b hj hm
    · rw [Bool.not_eq_true] at hc; rw [hc] at h; exact absurd h.symm hne
  · exact absurd h.symm hne
theorem outK_sound (hR : RelW S w0 ν st w) {ob : Obs} (hγ : γ.length = ob.length) (hG : GamT γ α ν) {res : O β} (hne : res ≠ .no) (v : SV) : ∀ (l : List Alt) (k : AltsT ob l → O β), outK ob γ l v st.H k = res →
    ∃ z, k z = res ∧ isAlt ob l z (AltIs S w0 w α ob (.returned (den ν v)))
  | [], _, h => absurd h.symm hne
  | [a], k, h => by
    obtain ⟨y, h1, h2⟩ := takeAlt_sound hR hγ hG hne a _ (.returned (den ν v)) _ k (fun γ' α' H K hG' hs hx => takeK_sound hR hG' hne a.k v H K hs hx) h
    exact ⟨y, h1, h2⟩
  | a :: b :: r, k, h => by
    simp only [outK] at h
    cases hf : fitK a.k v with
    | true =>
      rw [hf] at h
      obtain ⟨y, h1, h2⟩ := takeAlt_sound hR hγ hG hne a _ (.returned (den ν v)) _ _ (fun γ' α' H K hG' hs hx => takeK_sound hR hG' hne a.k v H K hs hx) h
      exact ⟨.inl y, h1, h2⟩
    | false =>
      rw [hf] at h
      obtain ⟨z, h1, h2⟩ := outK_sound hR hγ hG hne v (b :: r) _ h
      exact ⟨.inr z, h1, h2⟩
theorem outP_sound (hR : RelW S w0 ν st w) {ob : Obs} (hγ : γ.length = ob.length) (hG : GamT γ α ν) {res : O β} (hne : res ≠ .no) (e : PV) : ∀ (l : List Alt) (k : AltsT ob l → O β), outP ob γ l e st.H k = res →
    ∃ z, k z = res ∧ isAlt ob l z (AltIs S w0 w α ob (.panicked (panOf e)))
  | [], _, h => absurd h.symm hne
  | [a], k, h => by
    obtain ⟨y, h1, h2⟩ := takeAlt_sound hR hγ hG hne a _ (.panicked (panOf e)) _ k (fun γ' α' H K hG' hs hx => by
      obtain ⟨x, h1, h2⟩ := takeP_sound (w := w) (α := α') hne a.k e K hx
      exact ⟨x, H, [], h1, h2, Taken.refl ν H⟩) h
    exact ⟨y, h1, h2⟩
  | a :: b :: r, k, h => by
    simp only [outP] at h
    cases hf : fitP a.k e with
    | true =>
      rw [hf] at h
      obtain ⟨y, h1, h2⟩ := takeAlt_sound hR hγ hG hne a _ (.panicked (panOf e)) _ _ (fun γ' α' H K hG' hs hx => by
        obtain ⟨x, h1, h2⟩ := takeP_sound (w := w) (α := α') hne a.k e K hx
        exact ⟨x, H, [], h1, h2, Taken.refl ν H⟩) h
      exact ⟨.inl y, h1, h2⟩
    | false =>
      rw [hf] at h
      obtain ⟨z, h1, h2⟩ := outP_sound hR hγ hG hne e (b :: r) _ h
      exact ⟨.inr z, h1, h2⟩
end

/-! ### From an evaluation to a contract -/
def γ0 (C : Ct) : List Nat := List.range C.ob.length
/-- The objects, under the first names; then the arguments. -/
def startO (C : Ct) (g : ObT C.ob) : St := giveO (γ0 C) 0 C.ob g ⟨C.ob.length, false, []⟩
theorem nth_range {n k : Nat} (h : k < n) : nth (List.range n) k = k := by rw [List.range_eq_range', nth_range' h, Nat.zero_add]
theorem RelW.start (S : Nat → Prop) (w : World) (ν : Nat → Value) (n : Nat) : RelW S w ν ⟨n, false, []⟩ w where
  sat j o h := by cases h
  lt j o h := by cases h
  inj i j oi oj b h := by cases h
  mine j o b h := by cases h
  seen j o b h := by cases h
  tab j t f xs h := by cases h
  os := rfl
  tape := rfl
  output := rfl
  size := Nat.le_refl _
  frame _ _ _ := rfl
structure Good' (C : Ct) : Prop where
  seen : C.as.seen = true
  alt : C.as.lt C.ob.length = true
  fresh : obsFresh C.ob = true
  olt : obsLt C.ob.length C.ob = true
  outs : ∀ a ∈ C.outs, a.k.fresh = true ∧ obsFresh (C.ob ++ a.new) = true ∧ obsLt (C.ob ++ a.new).length (C.ob ++ a.new) = true ∧ a.k.lt (C.ob ++ a.new).length = true
theorem Ct.good' {C : Ct} (h : C.good = true) : Good' C := by
  unfold Ct.good at h
  simp only [Bool.and_eq_true, List.all_eq_true] at h
  obtain ⟨⟨⟨⟨h1, h2⟩, h3⟩, h4⟩, h5⟩ := h
  refine ⟨h1, h2, h3, h4, fun a ha => ?_⟩
  have := h5 a ha
  unfold altOk at this
  simp only [Bool.and_eq_true] at this
  exact ⟨this.1.1.1, this.1.1.2, this.1.2, this.2⟩
theorem giveAs_sound {S : Nat → Prop} {w0 w : World} {α : Nat → Value} {Av : Nat → Prop} {γ : List Nat} {n : Nat} : ∀ (a : As) (x : a.T) (vs : List Value) (ν : Nat → Value) (st : St), RelW S w0 ν st w → repAs w α Av a x vs → Gam γ n α ν st.nx → a.lt n = true → (∀ b, Av b → b < w0.heap.size ∧ ¬ S b) →
    ∃ ν', Given S w0 w ν st [] (giveAs γ a x st.nx).2 ν' ∧ denL ν' (giveAs γ a x st.nx).1 = vs ∧ belowL (st.nx + (giveAs γ a x st.nx).2.length) (giveAs γ a x st.nx).1 = true
  | .none, x, vs, ν, st, hR, hA, hG, hl, hv => by
    simp only [repAs] at hA
    subst hA
    exact ⟨ν, Given.refl hR _, rfl, rfl⟩
  | .some f, x, vs, ν, st, hR, hA, hG, hl, hv => giveA_sound f x vs [] ν st hR hA ⟨List.nodup_nil, fun b hb => (by cases hb), fun b hb => (by cases hb)⟩ hG hl (.inr hv)
/-- The arguments and objects, under names. -/
theorem start_sound {C : Ct} (hg : C.good = true) (x : C.as.T) (g : ObT C.ob) {w : World} {vs : List Value} {α : Nat → Value} {F0 : List Nat} (hO : repO w α Any 0 C.ob g F0) (hnd : F0.Nodup) (hA : repAs w α (fun b => b < w.heap.size ∧ b ∉ F0) C.as x vs) :
    ∃ ν, RelW (· ∈ F0) w ν ((startO C g).adds (giveAs (γ0 C) C.as x (startO C g).nx).2) w ∧ denL ν (giveAs (γ0 C) C.as x (startO C g).nx).1 = vs ∧ belowL ((startO C g).adds (giveAs (γ0 C) C.as x (startO C g).nx).2).nx (giveAs (γ0 C) C.as x (startO C g).nx).1 = true ∧
      C.ob.length ≤ ((startO C g).adds (giveAs (γ0 C) C.as x (startO C g).nx).2).nx ∧ ∀ j, j < C.ob.length → ν j = α j := by
  have G := Ct.good' hg
  have hG0 : Gam (γ0 C) C.ob.length α α C.ob.length := fun k hk => by
    unfold γ0
    rw [nth_range hk]
    exact ⟨hk, rfl, repO_ptr hO k (Nat.zero_le _) (by omega)⟩
  obtain ⟨ν1, g1⟩ := giveO_sound (S := (· ∈ F0)) (w0 := w) (γ := γ0 C) (n := C.ob.length) C.ob 0 (by omega) g F0 α ⟨C.ob.length, false, []⟩ (RelW.start _ w α _) hO ⟨hnd, fun b hb => .inl hb, fun b hb j o hj => by cases hj⟩ hG0 G.olt (.inl G.fresh)
  have hG1 := hG0.mono g1.2.1 g1.2.2.2.1
  have hx1 : C.ob.length ≤ (startO C g).nx := g1.2.1
  have hν1 : ∀ j, j < C.ob.length → ν1 j = α j := fun j hj => (g1.2.2.2.1 j hj).symm
  obtain ⟨ν2, g2, h2, h3⟩ := giveAs_sound (S := (· ∈ F0)) (w0 := w) (γ := γ0 C) (n := C.ob.length) C.as x vs ν1 (startO C g) g1.1 hA hG1 G.alt (fun b hb => hb)
  refine ⟨ν2, g2.1, h2, ?_, ?_, fun j hj => ?_⟩
  · rw [adds_nx]; exact h3
  · rw [adds_nx]; omega
  · rw [← g2.2.1 j (by omega), hν1 j hj]
theorem RelW.keep {F0 : List Nat} {w w' : World} {ν : Nat → Value} {st : St} (h : RelW (· ∈ F0) w ν st w') : Keep F0 w w' :=
  ⟨h.os, h.tape, h.output, h.size, fun b hb hn => h.frame b hb hn⟩
theorem gamT_start {C : Ct} {α ν ν' : Nat → Value} (hp : ∀ k, k < C.ob.length → ∃ b, α k = .pointer (some ⟨b, 0, none⟩)) (h : ∀ j, j < C.ob.length → ν j = α j) (h' : ∀ j, j < C.ob.length → ν j = ν' j) : GamT (γ0 C) α ν' := by
  intro k hk
  have hk : k < C.ob.length := by simpa [γ0] using hk
  unfold γ0
  obtain ⟨b, hb⟩ := hp k hk
  rw [nth_range hk]
  simp only [den]
  rw [← h' k hk, h k hk, hb]; rfl
theorem FnOkC.of_ev {P : Program} {tab : Tab} (hT : tabChk P tab = true) {C : Ct} (hg : C.good = true) {cal : Cal (AltsT C.ob C.outs)} (hC : CalOk P cal) (hM : P.follows .mixedOrders = true) {f : FuncId} {fn : Func} (hf : P.funcs[f]? = some fn) (nt : Notes) (k : Nat)
    {S : C.as.T → ObT C.ob → O (AltsT C.ob C.outs)} (ha : ∀ x g, Nat.ble (giveAs (γ0 C) C.as x (startO C g).nx).1.length fn.ntmps = true)
    (h : ∀ x g, evFn tab cal fn nt k C.ob.length (giveAs (γ0 C) C.as x (startO C g).nx).1 [] ((startO C g).adds (giveAs (γ0 C) C.as x (startO C g).nx).2) (fun v st => outK C.ob (γ0 C) C.outs v st.H .ok) (fun e st => outP C.ob (γ0 C) C.outs e st.H .ok) = S x g) : FnOkC P f C S := by
  intro x g hne w vs α F0 hO hnd hA
  obtain ⟨ν, hR, hden, hlt, hbx, hν⟩ := start_sound hg x g hO hnd hA
  have hp : ∀ k, k < C.ob.length → ∃ b, α k = .pointer (some ⟨b, 0, none⟩) := fun k hk => repO_ptr hO k (Nat.zero_le _) (by omega)
  rw [← hden]
  refine (evFn_sound hT hC hM f fn hf nt k (ha x g) hbx hR hlt (h x g) hne).mono ?_
  intro e w' hp'
  cases e with
  | returned v =>
    obtain ⟨ν', st', r, hR', hs, rfl, _, hk⟩ := hp'
    have hGT := gamT_start (ν' := ν') hp hν (fun j hj => hs.agree j hj)
    obtain ⟨z, h1, h2⟩ := outK_sound hR' (by simp [γ0]) hGT hne r C.outs _ hk
    exact ⟨z, h1.symm, hR'.keep, h2⟩
  | panicked ch =>
    obtain ⟨ν', st', e, hR', hs, rfl, hk⟩ := hp'
    have hGT := gamT_start (ν' := ν') hp hν (fun j hj => hs.agree j hj)
    obtain ⟨z, h1, h2⟩ := outP_sound hR' (by simp [γ0]) hGT hne e C.outs _ hk
    exact ⟨z, h1.symm, hR'.keep, h2⟩
  | outgrown => exact hp'.elim

/-! ### Callees -/
/-- A callee, as its caller's evaluator uses it. -/
abbrev Hd (T : Type) := List SV → List Nat → St → (SV → St → O T) → (PV → St → O T) → O T
def HdOk (P : Program) (f : FuncId) {T : Type} (h : Hd T) : Prop :=
  ∀ args sl st (K : SV → St → O T) (Kp : PV → St → O T), h args sl st K Kp ≠ .no → (∀ as w, (callFunc f as).run P w = .ok (.enter f as) w) ∧
    ∀ S w0 ν w, RelW S w0 ν st w → belowL st.nx args = true → Calls P f (denL ν args).toArray w (CalPost S w0 ν st w K Kp (h args sl st K Kp))
noncomputable def calOf {T : Type} (l : List (FuncId × Hd T)) : Cal T := fun f args sl st K Kp =>
  match lkp f l with
  | some h => h args sl st K Kp
  | none => .no
def HdsOk (P : Program) {T : Type} : List (FuncId × Hd T) → Prop
  | [] => True
  | (f, h) :: r => HdOk P f h ∧ HdsOk P r
theorem calOf_ok {P : Program} {T : Type} {l : List (FuncId × Hd T)} (h : HdsOk P l) : CalOk P (calOf l) := by
  intro f args sl st K Kp hne
  unfold calOf at hne ⊢
  have : ∀ hd, lkp f l = some hd → HdOk P f hd := by
    clear hne
    induction l with
    | nil => intro hd hl; cases hl
    | cons x xs ih =>
      obtain ⟨g, hg⟩ := x
      intro hd hl
      rw [lkp_cons] at hl
      split at hl
      · rename_i e; subst e; cases hl; exact h.1
      · exact ih h.2 hd hl
  cases hl : lkp f l with
  | none => rw [hl] at hne; exact absurd rfl hne
  | some hd => rw [hl] at hne; exact this hd hl args sl st K Kp hne

/-- What follows behind a call. -/
noncomputable def giveAlt {T : Type} (ob : Obs) (γ : List Nat) (H : Heap) (st : St) (K : SV → St → O T) (Kp : PV → St → O T) (a : Alt) (y : PT a.k (ob ++ a.new)) : O T :=
  giveK (γ ++ List.range' st.nx a.new.length) (giveO (γ ++ List.range' st.nx a.new.length) 0 (ob ++ a.new) (prO a.k _ y) ⟨st.nx + a.new.length, st.dirty || !ob.isEmpty, H⟩) K Kp a.k (prK a.k _ y)
/-- A callee by its plain function. -/
noncomputable def pureC {T : Type} (C : Ct) (bd : List Pth) (S : C.as.T → ObT C.ob → O (AltsT C.ob C.outs)) : Hd T := fun args sl st K Kp =>
  match bindG args st.H bd [] with
  | some γ => ifb (Nat.beq γ.length C.ob.length) (takeO γ 0 C.ob st.H fun g H => takeAs γ C.as args H fun x => altsK C.ob C.outs (S x g) (giveAlt C.ob γ H st K Kp)) .no
  | none => .no

section
variable {β : Type} {S : Nat → Prop} {w0 : World} {ν : Nat → Value} {st : St} {w w' : World} {γ : List Nat} {α : Nat → Value}
/-- Where the looks of what isn't taken hang nothing has turned. -/
theorem Taken.apart (hR : RelW S w0 ν st w) {H : Heap} {F0 : List Nat} (t : Taken ν st.H H F0) {j : Nat} {o : HO} {b : Nat} (hj : lkp j H = some o) (hb : onOf (ν j) o = some b) : b ∉ F0 := by
  intro hF
  obtain ⟨j', o', h1, h2, h3⟩ := t.2.2 b hF
  rcases on_cases hb with h | h
  · have := hR.inj j j' o o' b (t.1 j o hj) h1 h h3
    subst this
    rw [h2] at hj; cases hj
  · have hs := hR.seen j o b (t.1 j o hj) h
    rcases hR.mine j' o' b h1 h3 with hm | hm
    · exact hs.2 hm
    · have := hs.1; omega
theorem RelW.after (hR : RelW S w0 ν st w) {H : Heap} {F0 : List Nat} (t : Taken ν st.H H F0) (hK : Keep F0 w w') (m : Nat) (d : Bool) (ν1 : Nat → Value) (hν : ∀ j, j < st.nx → ν j = ν1 j) : RelW S w0 ν1 ⟨st.nx + m, d, H⟩ w' where
  sat j o hj := hoSat_congr hν (hR.lt j o (t.1 j o hj)).1 (fun b hb => hK.heap b (hoSat_lt (hR.sat j o (t.1 j o hj)) b hb) (t.apart hR hj hb)) (hR.lt j o (t.1 j o hj)).2 (hR.sat j o (t.1 j o hj))
  lt j o hj := ⟨by have := (hR.lt j o (t.1 j o hj)).1; show j < st.nx + m; omega, hoLt_mono (by show st.nx ≤ st.nx + m; omega) o (hR.lt j o (t.1 j o hj)).2⟩
  inj i j oi oj b hi hj hbi hbj := by
    rw [← hν i (hR.lt i oi (t.1 i oi hi)).1] at hbi
    rw [← hν j (hR.lt j oj (t.1 j oj hj)).1] at hbj
    exact hR.inj i j oi oj b (t.1 _ _ hi) (t.1 _ _ hj) hbi hbj
  mine j o b hj hb := by
    rw [← hν j (hR.lt j o (t.1 j o hj)).1] at hb
    exact hR.mine j o b (t.1 _ _ hj) hb
  seen j o b hj hb := by
    rw [← hν j (hR.lt j o (t.1 j o hj)).1] at hb
    exact hR.seen j o b (t.1 _ _ hj) hb
  tab j t' f xs hj := by
    rw [← hν j (hR.lt j _ (t.1 j _ hj)).1]
    exact hR.tab j t' f xs (t.1 _ _ hj)
  os := hK.os.trans hR.os
  tape := hK.tape.trans hR.tape
  output := hK.output.trans hR.output
  size := Nat.le_trans hR.size hK.size
  frame b hb hS := by
    have hn : b ∉ F0 := by
      intro hF
      obtain ⟨j', o', h1, _, h3⟩ := t.2.2 b hF
      rcases hR.mine j' o' b h1 h3 with hm | hm
      · exact hS hm
      · omega
    exact (hK.heap b (Nat.lt_of_lt_of_le hb hR.size) hn).trans (hR.frame b hb hS)
theorem giveK_sound {T : Type} (hR : RelW S w0 ν st w) {n : Nat} (hG : Gam γ n α ν st.nx) (k : AK) (hf : k.fresh = true) (hl : k.lt n = true) (x : k.T) (e : Ending) (F : List Nat) (hr : repE w α k x e F) (hF : Free S w0 ν st F) {K : SV → St → O T} {Kp : PV → St → O T} {res : O T} (h : giveK γ st K Kp k x = res) :
    ∃ ν' st', RelW S w0 ν' st' w ∧ st.nx ≤ st'.nx ∧ st'.dirty = st.dirty ∧ (∀ j, j < st.nx → ν j = ν' j) ∧ match e with
      | .returned v => ∃ r, v = den ν' r ∧ svLt st'.nx r = true ∧ K r st' = res
      | .panicked ch => ∃ p, ch = panOf p ∧ Kp p st' = res
      | .outgrown => False := by
  cases k with
  | unit =>
    cases e with
    | returned v => exact ⟨ν, st, hR, Nat.le_refl _, rfl, fun _ _ => rfl, .tup [], by rw [hr.1]; simp [den, denL], by simp [svLt, belowL], h⟩
    | _ => exact hr.elim
  | val s =>
    cases e with
    | returned v =>
      obtain ⟨ν', g, h2, h3⟩ := giveV_sound s x v F ν st hR hr hF hG hl (.inl hf)
      exact ⟨ν', _, g.1, by rw [adds_nx]; omega, adds_dirty _ _, g.2.1, _, h2.symm, by rw [adds_nx]; exact h3, h⟩
    | _ => exact hr.elim
  | pin p =>
    cases e with
    | returned v =>
      obtain ⟨p1, p2⟩ := pinV_den hG hl
      exact ⟨ν, st, hR, Nat.le_refl _, rfl, fun _ _ => rfl, pinV γ p, by rw [hr.1, p1], p2, h⟩
    | _ => exact hr.elim
  | tup f =>
    cases e with
    | returned v =>
      obtain ⟨vs, rfl, hr⟩ := hr
      obtain ⟨ν', g, h2, h3⟩ := giveA_sound f x vs F ν st hR hr hF hG hl (.inl hf)
      exact ⟨ν', _, g.1, by rw [adds_nx]; omega, adds_dirty _ _, g.2.1, _, by simp only [den, h2], by rw [adds_nx]; simpa only [svLt] using h3, h⟩
    | _ => exact hr.elim
  | pins ps =>
    cases e with
    | returned v =>
      obtain ⟨p1, p2⟩ := pinsV_den hG hl
      exact ⟨ν, st, hR, Nat.le_refl _, rfl, fun _ _ => rfl, .tup (ps.map (pinV γ)), by rw [hr.1]; simp only [den, p1], by simpa only [svLt] using p2, h⟩
    | _ => exact hr.elim
  | pan t g l ls =>
    cases e with
    | panicked ch => exact ⟨ν, st, hR, Nat.le_refl _, rfl, fun _ _ => rfl, _, hr.1, h⟩
    | _ => exact hr.elim
  | pan0 t g =>
    cases e with
    | panicked ch => exact ⟨ν, st, hR, Nat.le_refl _, rfl, fun _ _ => rfl, _, hr.1, h⟩
    | _ => exact hr.elim
end
theorem pureC_ok {P : Program} {f : FuncId} {T : Type} {C : Ct} (hg : C.good = true) (bd : List Pth) {S : C.as.T → ObT C.ob → O (AltsT C.ob C.outs)} (hF : FnOkC P f C S) (hcall : ∀ as w, (callFunc f as).run P w = .ok (.enter f as) w) : HdOk P f (pureC (T := T) C bd S) := by
  intro args sl st K Kp hne
  refine ⟨hcall, fun Sp w0 ν w hR hb => ?_⟩
  have G := Ct.good' hg
  generalize hres : pureC C bd S args sl st K Kp = res at hne ⊢
  unfold pureC at hres
  cases hbd : bindG args st.H bd [] with
  | none => rw [hbd] at hres; exact absurd hres.symm hne
  | some γ =>
    rw [hbd] at hres
    dsimp only at hres
    by_cases hlen : Nat.beq γ.length C.ob.length = true
    case neg => rw [Bool.not_eq_true] at hlen; rw [hlen] at hres; exact absurd hres.symm hne
    rw [hlen] at hres
    have hres : takeO γ 0 C.ob st.H (fun g H => takeAs γ C.as args H fun x => altsK C.ob C.outs (S x g) (giveAlt C.ob γ H st K Kp)) = res := hres
    have hlen := Nat.eq_of_beq_eq_true hlen
    have hGT : GamT γ (fun i => den ν (.ptr (nth γ i) 0)) ν := fun i _ => rfl
    have hnames := takeO_names hR hne C.ob 0 st.H _ (fun _ _ h => h) hres
    obtain ⟨g, H, F0, h1, hO, t⟩ := takeO_sound hR hGT hne C.ob 0 (by omega) st.H _ (fun _ _ h => h) (Av := Any) ⟨fun _ _ _ _ _ => trivial, fun _ _ _ => trivial⟩ hres
    have hav : Hangs Sp w0 ν H (fun b => b < w.heap.size ∧ b ∉ F0) := ⟨fun j o b hj hb => ⟨hoSat_lt (hR.sat j o (t.1 j o hj)) b hb, t.apart hR hj hb⟩, fun b hb hn => ⟨Nat.lt_of_lt_of_le hb hR.size, fun hf => by
      obtain ⟨j', o', q1, _, q3⟩ := t.2.2 b hf
      rcases hR.mine j' o' b q1 q3 with h | h
      · exact hn h
      · omega⟩⟩
    obtain ⟨x, h2, hA⟩ := takeAs_sound hR hGT hne C.as G.seen args H _ (t.sub (fun _ _ h => h)) hav h1
    obtain ⟨z, hz, hq⟩ := altsK_is hne h2
    refine (hF x g (by rw [hz]; intro h; cases h) w _ _ F0 hO t.2.1 hA).mono ?_
    intro e w' hp
    obtain ⟨z', hz', hK, hp⟩ := hp
    rw [hz] at hz'
    obtain rfl := O.ok.inj hz'
    obtain ⟨a, ha, y, hy, hal⟩ := isAlt_and hq hp
    obtain ⟨α', F1, F2, hα, r1, r2, hnd, hF⟩ := hal
    obtain ⟨f1, f2, f3, f4⟩ := G.outs a ha
    -- names of what is new
    generalize hm : a.new.length = m at *
    have hν : ∀ j, j < st.nx → ν j = (fun j => if j < st.nx then ν j else α' (C.ob.length + (j - st.nx))) j := fun j hj => by simp [hj]
    have hR1 := hR.after t hK m (st.dirty || !C.ob.isEmpty) _ hν
    have hlo : (C.ob ++ a.new).length = C.ob.length + m := by rw [List.length_append, hm]
    have hG : Gam (γ ++ List.range' st.nx m) (C.ob ++ a.new).length α' (fun j => if j < st.nx then ν j else α' (C.ob.length + (j - st.nx))) (st.nx + m) := by
      intro i hi
      rw [hlo] at hi
      refine ⟨?_, ?_, repO_ptr r1 i (Nat.zero_le _) (by omega)⟩
      · by_cases hi' : i < C.ob.length
        · rw [nth_app (by omega)]
          have := (hnames i (Nat.zero_le _) (by omega)).1
          omega
        · rw [show i = γ.length + (i - C.ob.length) by omega, nth_app2, nth_range' (by omega)]
          omega
      · by_cases hi' : i < C.ob.length
        · rw [nth_app (by omega)]
          obtain ⟨n1, n2⟩ := hnames i (Nat.zero_le _) (by omega)
          simp only [n1, if_true]
          rw [n2, hα i hi']
        · rw [show nth (γ ++ List.range' st.nx m) i = st.nx + (i - C.ob.length) by rw [show i = γ.length + (i - C.ob.length) by omega, nth_app2, nth_range' (by omega)]; omega]
          simp only [show ¬ (st.nx + (i - C.ob.length) < st.nx) by omega, if_false]
          congr 1; omega
    have hmine : ∀ b ∈ F1 ++ F2, Sp b ∨ w0.heap.size ≤ b := by
      intro b hb
      rcases hF b hb with h | h
      · obtain ⟨j', o', h1, _, h3⟩ := t.2.2 b h
        exact hR.mine j' o' b h1 h3
      · have := hR.size; exact .inr (by omega)
    have hfree : Free Sp w0 (fun j => if j < st.nx then ν j else α' (C.ob.length + (j - st.nx))) ⟨st.nx + m, st.dirty || !C.ob.isEmpty, H⟩ (F1 ++ F2) := by
      refine ⟨hnd, hmine, fun b hb j o hj hmb => ?_⟩
      have hlt := (hR.lt j o (t.1 j o hj)).1
      have hmb : mineOf (ν j) o = some b := by rw [hν j hlt]; exact hmb
      rcases hF b hb with h | h
      · exact t.apart hR hj (mine_on hmb) h
      · have := hoSat_lt (hR.sat j o (t.1 j o hj)) b (mine_on hmb)
        omega
    obtain ⟨ν2, g2⟩ := giveO_sound (C.ob ++ a.new) 0 (by omega) (prO a.k _ y) F1 _ _ hR1 r1 hfree.left hG f3 (.inl f2)
    have hy : giveK (γ ++ List.range' st.nx m) (giveO (γ ++ List.range' st.nx m) 0 (C.ob ++ a.new) (prO a.k _ y) ⟨st.nx + m, st.dirty || !C.ob.isEmpty, H⟩) K Kp a.k (prK a.k _ y) = res := by
      have : giveAlt C.ob γ H st K Kp a y = res := hy
      unfold giveAlt at this
      rw [hm] at this
      exact this
    obtain ⟨ν3, st3, k1, k2, k3, k4, k5⟩ := giveK_sound g2.1 (hG.mono g2.2.1 g2.2.2.2.1) a.k f1 f4 (prK a.k _ y) e F2 r2 (hfree.rightS g2) hy
    have hstep : Step ν st w ν3 st3 w' := by
      have e1 : st.nx + m ≤ (giveO (γ ++ List.range' st.nx m) 0 (C.ob ++ a.new) (prO a.k _ y) ⟨st.nx + m, st.dirty || !C.ob.isEmpty, H⟩).nx := g2.2.1
      have ed : st3.dirty = (st.dirty || !C.ob.isEmpty) := k3.trans g2.2.2.1
      refine ⟨by omega, fun j hj => ?_, fun hd => ?_, hK.size, fun hd b hb => ?_⟩
      · rw [hν j hj]
        exact (g2.2.2.2.1 j (by show j < st.nx + m; omega)).trans (k4 j (by omega))
      · rw [ed, hd]; rfl
      · rw [ed] at hd
        have : C.ob.isEmpty = true := by
          cases hq : C.ob.isEmpty
          · rw [hq] at hd; simp at hd
          · rfl
        have hF0 : F0 = [] := repO_lt (List.isEmpty_iff.1 this) hO
        exact hK.heap b hb (by rw [hF0]; simp)
    cases e with
    | returned v =>
      obtain ⟨r, e1, e2, e3⟩ := k5
      exact ⟨ν3, st3, r, k1, hstep, e1, e2, e3⟩
    | panicked ch =>
      obtain ⟨p, e1, e2⟩ := k5
      exact ⟨ν3, st3, p, k1, hstep, e1, e2⟩
    | outgrown => exact k5.elim
/-- A callee gone through in place. -/
noncomputable def inlH {T : Type} (tab : Tab) (cal : Cal T) (fn : Func) (nt : Notes) (k : Nat) : Hd T := fun args sl st K Kp =>
  ifb (Nat.ble args.length fn.ntmps) (evFn tab cal fn nt k st.nx args sl st K Kp) .no
theorem inlH_ok {P : Program} {tab : Tab} (hT : tabChk P tab = true) {T : Type} {cal : Cal T} (hC : CalOk P cal) (hM : P.follows .mixedOrders = true) {f : FuncId} {fn : Func} (hf : P.funcs[f]? = some fn) (nt : Notes) (k : Nat)
    (hcall : ∀ as w, (callFunc f as).run P w = .ok (.enter f as) w) : HdOk P f (inlH (T := T) tab cal fn nt k) := by
  intro args sl st K Kp hne
  refine ⟨hcall, fun Sp w0 ν w hR hb => ?_⟩
  unfold inlH at hne ⊢
  by_cases hl : Nat.ble args.length fn.ntmps = true
  · rw [hl, ifb_true] at hne ⊢
    refine (evFn_sound hT hC hM f fn hf nt k hl (Nat.le_refl _) hR hb rfl hne).mono ?_
    intro e w' hp
    cases e with
    | returned v =>
      obtain ⟨ν', st', r, h1, h2, h3⟩ := hp
      exact ⟨ν', st', r, h1, ⟨h2.nx, h2.agree, h2.dirt, h2.size, h2.same⟩, h3⟩
    | panicked ch =>
      obtain ⟨ν', st', r, h1, h2, h3⟩ := hp
      exact ⟨ν', st', r, h1, ⟨h2.nx, h2.agree, h2.dirt, h2.size, h2.same⟩, h3⟩
    | outgrown => exact hp.elim
  · rw [Bool.not_eq_true] at hl; rw [hl] at hne; exact absurd rfl hne
end Go.Aq
