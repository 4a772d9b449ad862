/- Texts of this proof, joined (2 of them): V15, V16.
   Conditions: none but those that stand at each theorem. -/
import Derived.Test.YtpfddjdkafjjfaaE3
import Derived.Recover
section
namespace Go.Aq
open Go.RowKit (Below)
set_option linter.unusedVariables false
section
variable {β : Type} {S : Bl} {w0 : World} {ν : Nat → Value} {st : St} {w : World} {γ : List Nat} {α : Nat → Value}
def AltIs (S : Bl) (w0 w : World) (α : Nat → Value) (ob : Obs) (e : Ending) (a : Alt) (y : PT a.k (ob ++ a.new)) : Prop :=
 ∃ α' F1 F2 Z', (∀ i, i < ob.length → α' i = α i) ∧ repO w α' Z' 0 (ob ++ a.new) (prO a.k _ y) F1 ∧ repE w α' Z' a.k (prK a.k _ y) e F2 ∧ (F1 ++ F2).Nodup ∧ (∀ b ∈ F1 ++ F2, S b ∨ w0.heap.size ≤ b) ∧ ∀ b, Z' b → (w0.heap.size ≤ b ∨ S b ∨ S.frz b) ∧ b ∉ F1 ++ F2 ∧ b < w.heap.size
theorem takeAlt_sound (hR : RelW S w0 ν st w) {ob : Obs} (hγ : γ.length = ob.length) (hγl : ∀ k, k < γ.length → nth γ k < st.nx) (hG : GamT γ α ν) {res : O β} (hne : res ≠ .no) (a : Alt) (vs : List SV) (e : Ending) (Fz : St → St) (X : List Nat → Heap → (a.k.T → O β) → O β) (k : PT a.k (ob ++ a.new) → O β)
  (hFz : ∀ (ν1 : Nat → Value) (st1 : St), RelW S w0 ν1 st1 w → ∃ ν2, Frz S w0 w ν1 st1 ν2 (Fz st1))
  (hX : ∀ (ν2 : Nat → Value) (st2 : St), Re S w0 w ν st ν2 st2 → ∀ γ' α' Av H K, GamT γ' α' ν2 → (∀ j o, lkp j H = some o → lkp j st2.H = some o) → Hangs true ν2 H Av → X γ' H K = res → ∃ x H' F, K x = res ∧ repE w α' Av a.k x e F ∧ Taken ν2 H H' F)
  (h : takeAlt ob γ a vs Fz st X k = res) : ∃ y, k y = res ∧ AltIs S w0 w α ob e a y := by
 unfold takeAlt at h
 obtain ⟨ν1, st1, hre, h⟩ := foldJs_sound hne (opns st.H) hR h
 split at h
 ·rename_i γ' hb
  by_cases hc : Nat.ble (ob ++ a.new).length γ'.length = true
  ·rw [hc, ifb_true] at h
   obtain ⟨ext, rfl⟩ := bindG_pre hb
   obtain ⟨ν2, z1⟩ := frzO_sound (γ := γ ++ ext) (ob ++ a.new) 0 hre.rel
   obtain ⟨ν3, z2⟩ := hFz _ _ z1.rel
   have z := z1.trans z2
   have hre3 := hre.trans z.re
   generalize hst3 : Fz (frzO (γ ++ ext) 0 (ob ++ a.new) st1) = st3 at h z z2 hre3
   have hR3 := hre3.rel
   have hG' : GamT (γ ++ ext) (fun i => den ν3 (.ptr (nth (γ ++ ext) i) 0)) ν3 := fun i _ => rfl
   have hA : Hangs true ν3 st3.H (fun b => ∃ j o, lkp j st3.H = some o ∧ b ∈ seenL ν3 j o) := fun j o b hj hb => by
    rcases hb with hb | hb
    ·exact ⟨j, o, hj, hb⟩
    ·cases hb.1
   obtain ⟨g, H1, F1, h1, r1, t1⟩ := takeO_sound hR3 hG' hne (ob ++ a.new) 0 (by rw [Nat.zero_add]; exact Nat.le_of_ble_eq_true hc) st3.H _ (fun _ _ h => h) hA h
   obtain ⟨x, H2, F2, h2, r2, t2⟩ := hX ν3 st3 hre3 _ _ _ H1 _ hG' (t1.sub (fun _ _ h => h)) (hA.sub t1) h1
   have t := t1.trans hR3 (fun _ _ h => h) t2
   refine ⟨mkP a.k _ x g, h2, _, F1, F2, _, ?_, by rw [prO_mk]; exact r1, by rw [prK_mk]; exact r2, t.2.1, ?_, ?_⟩
   ·intro i hi
    have hi' : i < γ.length := by omega
    show den ν3 (.ptr (nth (γ ++ ext) i) 0) = α i
    rw [nth_app hi', ← hG i hi']
    simp only [den]
    rw [hre3.agree _ (hγl i hi')]
   ·intro b hb
    obtain ⟨j, o, hj, _, hm⟩ := t.2.2 b hb
    exact hR3.mine j o b hj hm
   ·rintro b ⟨j, o, hj, hb⟩
    refine ⟨hR3.seen j o b hj hb, fun hb' => ?_, hoSat_lt (hR3.sat j o hj) b (.inr hb)⟩
    obtain ⟨j', o', hj', _, hm⟩ := t.2.2 b hb'
    exact hR3.apart j' j o' o b hj' hj hm hb
  ·rw [Bool.not_eq_true] at hc; rw [hc] at h; exact absurd h.symm hne
 ·exact absurd h.symm hne
theorem frzK_sound {k : AK} {v : SV} (hR : RelW S w0 ν st w) : ∃ ν', Frz S w0 w ν st ν' (frzK k v st) := by
 unfold frzK
 split
 ·exact frzW_sound _ _ hR
 ·exact frzA_sound _ _ hR
 ·exact ⟨ν, Frz.refl hR⟩
theorem takeK_re {v : SV} (hv : svLt st.nx v = true) {res : O β} (hne : res ≠ .no) (k : AK) : ∀ (ν2 : Nat → Value) (st2 : St), Re S w0 w ν st ν2 st2 → ∀ γ' α' Av H K, GamT γ' α' ν2 → (∀ j o, lkp j H = some o → lkp j st2.H = some o) → Hangs true ν2 H Av → takeK γ' k v H K = res → ∃ x H' F, K x = res ∧ repE w α' Av k x (.returned (den ν v)) F ∧ Taken ν2 H H' F := by
 intro ν2 st2 hre γ' α' Av H K hG' hs hA hx
 rw [den_congr hre.agree v hv]
 exact takeK_sound hre.rel hG' hne k v H K hs hA hx
theorem outK_sound (hR : RelW S w0 ν st w) {ob : Obs} (hγ : γ.length = ob.length) (hγl : ∀ k, k < γ.length → nth γ k < st.nx) (hG : GamT γ α ν) {res : O β} (hne : res ≠ .no) (v : SV) (hv : svLt st.nx v = true) : ∀ (l : List Alt) (k : AltsT ob l → O β), outK ob γ l v st k = res →
  ∃ z, k z = res ∧ isAlt ob l z (AltIs S w0 w α ob (.returned (den ν v)))
 | [], _, h => absurd h.symm hne
 | [a], k, h => by
  obtain ⟨y, h1, h2⟩ := takeAlt_sound hR hγ hγl hG hne a _ (.returned (den ν v)) _ _ k (fun _ _ h => frzK_sound h) (takeK_re hv hne a.k) h
  exact ⟨y, h1, h2⟩
 | a :: b :: r, k, h => by
  simp only [outK] at h
  cases hf : fitK a.k v with
  | true =>
   rw [hf] at h
   obtain ⟨y, h1, h2⟩ := takeAlt_sound hR hγ hγl hG hne a _ (.returned (den ν v)) _ _ _ (fun _ _ h => frzK_sound h) (takeK_re hv hne a.k) h
   exact ⟨.inl y, h1, h2⟩
  | false =>
   rw [hf] at h
   obtain ⟨z, h1, h2⟩ := outK_sound hR hγ hγl hG hne v hv (b :: r) _ h
   exact ⟨.inr z, h1, h2⟩
theorem outP_sound (hR : RelW S w0 ν st w) {ob : Obs} (hγ : γ.length = ob.length) (hγl : ∀ k, k < γ.length → nth γ k < st.nx) (hG : GamT γ α ν) {res : O β} (hne : res ≠ .no) (e : PV) : ∀ (l : List Alt) (k : AltsT ob l → O β), outP ob γ l e st k = res →
  ∃ z, k z = res ∧ isAlt ob l z (AltIs S w0 w α ob (.panicked (panOf e)))
 | [], _, h => absurd h.symm hne
 | [a], k, h => by
  obtain ⟨y, h1, h2⟩ := takeAlt_sound hR hγ hγl hG hne a _ (.panicked (panOf e)) id _ k (fun ν1 _ h => ⟨ν1, Frz.refl h⟩) (fun ν2 st2 hre γ' α' Av H K hG' hs hA hx => by
   obtain ⟨x, h1, h2⟩ := takeP_sound (w := w) (α := α') (Av := Av) hne a.k e K hx
   exact ⟨x, H, [], h1, h2, Taken.refl ν2 H⟩) h
  exact ⟨y, h1, h2⟩
 | a :: b :: r, k, h => by
  simp only [outP] at h
  cases hf : fitP a.k e with
  | true =>
   rw [hf] at h
   obtain ⟨y, h1, h2⟩ := takeAlt_sound hR hγ hγl hG hne a _ (.panicked (panOf e)) id _ _ (fun ν1 _ h => ⟨ν1, Frz.refl h⟩) (fun ν2 st2 hre γ' α' Av H K hG' hs hA hx => by
    obtain ⟨x, h1, h2⟩ := takeP_sound (w := w) (α := α') (Av := Av) hne a.k e K hx
    exact ⟨x, H, [], h1, h2, Taken.refl ν2 H⟩) h
   exact ⟨.inl y, h1, h2⟩
  | false =>
   rw [hf] at h
   obtain ⟨z, h1, h2⟩ := outP_sound hR hγ hγl hG hne e (b :: r) _ h
   exact ⟨.inr z, h1, h2⟩
end
def γ0 (C : Ct) : List Nat := List.range C.ob.length
def startO (C : Ct) (g : ObT C.ob) : St := giveO (γ0 C) 0 C.ob g ⟨C.ob.length, false, []⟩
theorem nth_range {n k : Nat} (h : k < n) : nth (List.range n) k = k := by rw [List.range_eq_range', nth_range' h, Nat.zero_add]
theorem RelW.start (S : Bl) (w : World) (ν : Nat → Value) (n : Nat) : RelW S w ν ⟨n, false, []⟩ w where
 sat j o h := by cases h
 lt j o h := by cases h
 inj i j oi oj b h := by cases h
 nd j o h := by cases h
 mine j o b h := by cases h
 seen j o b h := by cases h
 apart i j oi oj b h := by cases h
 os := rfl
 tape := rfl
 output := rfl
 size := Nat.le_refl _
 frame _ _ _ := rfl
structure Good' (C : Ct) : Prop where
 seen : C.as.seen = true
 alt : C.as.lt C.ob.length = true
 olt : obsLt C.ob.length C.ob = true
 outs : ∀ a ∈ C.outs, obsLt (C.ob ++ a.new).length (C.ob ++ a.new) = true ∧ a.k.lt (C.ob ++ a.new).length = true
theorem Ct.good' {C : Ct} (h : C.good = true) : Good' C := by
 unfold Ct.good at h
 simp only [Bool.and_eq_true, List.all_eq_true] at h
 obtain ⟨⟨⟨h1, h2⟩, h4⟩, h5⟩ := h
 refine ⟨h1, h2, h4, fun a ha => ?_⟩
 have := h5 a ha
 unfold altOk at this
 simp only [Bool.and_eq_true] at this
 exact this
theorem giveAs_sound {S : Bl} {w0 w : World} {α : Nat → Value} {Av : Nat → Prop} {γ : List Nat} {n : Nat} : ∀ (a : As) (x : a.T) (vs : List Value) (ν : Nat → Value) (st : St), RelW S w0 ν st w → repAs w α Av a x vs → Gam γ n α ν st.nx → a.lt n = true → Free S w0 w ν st Av [] →
  ∃ ν', Given S w0 w ν st Av [] (giveAs γ a x st.nx).2 ν' ∧ denL ν' (giveAs γ a x st.nx).1 = vs ∧ belowL (st.nx + (giveAs γ a x st.nx).2.length) (giveAs γ a x st.nx).1 = true
 | .none, x, vs, ν, st, hR, hA, hG, hl, hv => by
  simp only [repAs] at hA
  subst hA
  exact ⟨ν, Given.refl hR _ _, rfl, rfl⟩
 | .some f, x, vs, ν, st, hR, hA, hG, hl, hv => giveA_sound f x vs [] ν st hR hA hv hG hl
theorem start_sound {C : Ct} (hg : C.good = true) (x : C.as.T) (g : ObT C.ob) {w : World} {vs : List Value} {α : Nat → Value} {F0 : List Nat} {Z : Nat → Prop} (hZ : ∀ b, Z b → b < w.heap.size ∧ b ∉ F0) (hO : repO w α Z 0 C.ob g F0) (hnd : F0.Nodup) (hA : repAs w α Z C.as x vs) :
  ∃ ν, RelW ⟨(· ∈ F0), Z⟩ w ν ((startO C g).adds (giveAs (γ0 C) C.as x (startO C g).nx).2) w ∧ denL ν (giveAs (γ0 C) C.as x (startO C g).nx).1 = vs ∧ belowL ((startO C g).adds (giveAs (γ0 C) C.as x (startO C g).nx).2).nx (giveAs (γ0 C) C.as x (startO C g).nx).1 = true ∧
   C.ob.length ≤ ((startO C g).adds (giveAs (γ0 C) C.as x (startO C g).nx).2).nx ∧ ∀ j, j < C.ob.length → ν j = α j := by
 have G := Ct.good' hg
 have hG0 : GamO (γ0 C) C.ob.length α α C.ob.length := ⟨by simp [γ0], fun k hk => by
  unfold γ0
  rw [nth_range hk]
  exact ⟨hk, rfl, repO_ptr hO k (Nat.zero_le _) (by omega)⟩⟩
 obtain ⟨ν1, g1⟩ := giveO_sound (S := ⟨(· ∈ F0), Z⟩) (w0 := w) (γ := γ0 C) (n := C.ob.length) C.ob 0 (by omega) g F0 α ⟨C.ob.length, false, []⟩ (RelW.start _ w α _) hO ⟨hnd, fun b hb => .inl hb, fun b hb j o hj => (by cases hj), fun b hb => ⟨.inr (.inr hb), (hZ b hb).2, (hZ b hb).1, fun j o hj => (by cases hj)⟩⟩ hG0 G.olt
 have hG1 := hG0.mono g1.2.1 g1.2.2.2.1
 have hx1 : C.ob.length ≤ (startO C g).nx := g1.2.1
 have hν1 : ∀ j, j < C.ob.length → ν1 j = α j := fun j hj => (g1.2.2.2.1 j hj).symm
 obtain ⟨ν2, g2, h2, h3⟩ := giveAs_sound (S := ⟨(· ∈ F0), Z⟩) (w0 := w) (γ := γ0 C) (n := C.ob.length) C.as x vs ν1 (startO C g) g1.1 hA hG1.gam G.alt ⟨List.nodup_nil, fun b hb => (by cases hb), fun b hb => (by cases hb), fun b hb => ⟨.inr (.inr hb), fun h => (by cases h), (hZ b hb).1, fun j o hj hb' => by
  rcases (g1.2.2.2.2 j o b hj).1 hb' with ⟨i, o', ho', _⟩ | h
  ·cases ho'
  ·exact (hZ b hb).2 h⟩⟩
 refine ⟨ν2, g2.1, h2, ?_, ?_, fun j hj => ?_⟩
 ·rw [adds_nx]; exact h3
 ·rw [adds_nx]; omega
 ·rw [← g2.2.1 j (by omega), hν1 j hj]
theorem RelW.keep {F0 : List Nat} {Z : Nat → Prop} {w w' : World} {ν : Nat → Value} {st : St} (h : RelW ⟨(· ∈ F0), Z⟩ w ν st w') : Keep F0 w w' :=
 ⟨h.os, h.tape, h.output, h.size, fun b hb hn => h.frame b hb hn⟩
theorem AltIs.post {F0 : List Nat} {Z : Nat → Prop} {w w' : World} {α : Nat → Value} {ob : Obs} {e : Ending} {a : Alt} {y : PT a.k (ob ++ a.new)} (h : AltIs ⟨(· ∈ F0), Z⟩ w w' α ob e a y) :
  ∃ α' F1 F2 Z', (∀ k, k < ob.length → α' k = α k) ∧ repO w' α' Z' 0 (ob ++ a.new) (prO a.k _ y) F1 ∧ repE w' α' Z' a.k (prK a.k _ y) e F2 ∧ (F1 ++ F2).Nodup ∧ (∀ b ∈ F1 ++ F2, b ∈ F0 ∨ w.heap.size ≤ b) ∧ ∀ b, Z' b → (Z b ∨ b ∈ F0 ∨ w.heap.size ≤ b) ∧ b ∉ F1 ++ F2 ∧ b < w'.heap.size := by
 obtain ⟨α', F1, F2, Z', h1, h2, h3, h4, h5, h6⟩ := h
 refine ⟨α', F1, F2, Z', h1, h2, h3, h4, h5, fun b hb => ⟨?_, (h6 b hb).2⟩⟩
 rcases (h6 b hb).1 with h | h | h
 ·exact .inr (.inr h)
 ·exact .inr (.inl h)
 ·exact .inl h
theorem isAlt_mono {ob : Obs} : ∀ {l : List Alt} {z : AltsT ob l} {P Q : (a : Alt) → PT a.k (ob ++ a.new) → Prop}, isAlt ob l z P → (∀ a y, P a y → Q a y) → isAlt ob l z Q
 | [], _, _, _, h, _ => h.elim
 | [a], y, _, _, h, k => k a y h
 | a :: _ :: _, .inl y, _, _, h, k => k a y h
 | _ :: b :: r, .inr z, _, _, h, k => isAlt_mono (l := b :: r) h k
theorem gamT_start {C : Ct} {α ν ν' : Nat → Value} (hp : ∀ k, k < C.ob.length → ∃ b, α k = .pointer (some ⟨b, 0, none⟩)) (h : ∀ j, j < C.ob.length → ν j = α j) (h' : ∀ j, j < C.ob.length → ν j = ν' j) : GamT (γ0 C) α ν' := by
 intro k hk
 have hk : k < C.ob.length := by simpa [γ0] using hk
 unfold γ0
 obtain ⟨b, hb⟩ := hp k hk
 rw [nth_range hk]
 simp only [den]
 rw [← h' k hk, h k hk, hb]; rfl
theorem FnOkC.of_ev {P : Program} {tab : Tab} (hT : tabChk P tab = true) {C : Ct} (hg : C.good = true) {cal : Cal (AltsT C.ob C.outs)} (hC : CalOk P cal) (hM : P.follows .mixedOrders = true) {f : FuncId} {fn : Func} (hf : P.funcs[f]? = some fn) (nt : Notes) (k : Nat)
  {S : C.as.T → ObT C.ob → O (AltsT C.ob C.outs)} (ha : ∀ x g, Nat.ble (giveAs (γ0 C) C.as x (startO C g).nx).1.length fn.ntmps = true)
  (h : ∀ x g, evFn tab cal fn nt k C.ob.length (giveAs (γ0 C) C.as x (startO C g).nx).1 [] ((startO C g).adds (giveAs (γ0 C) C.as x (startO C g).nx).2) (fun v st => outK C.ob (γ0 C) C.outs v st .ok) (fun e st => outP C.ob (γ0 C) C.outs e st .ok) = S x g) : FnOkC P f C S := by
 intro x g hne w vs α F0 Z hZ hO hnd hA
 obtain ⟨ν, hR, hden, hlt, hbx, hν⟩ := start_sound hg x g hZ hO hnd hA
 have hp : ∀ k, k < C.ob.length → ∃ b, α k = .pointer (some ⟨b, 0, none⟩) := fun k hk => repO_ptr hO k (Nat.zero_le _) (by omega)
 rw [← hden]
 refine (evFn_sound hT hC hM f fn hf nt k (ha x g) hbx hR hlt (h x g) hne).mono ?_
 intro e w' hp'
 cases e with
 | returned v =>
  obtain ⟨ν', st', r, hR', hs, rfl, hrl, hk⟩ := hp'
  have hGT := gamT_start (ν' := ν') hp hν (fun j hj => hs.agree j hj)
  have hgl : ∀ k, k < (γ0 C).length → nth (γ0 C) k < st'.nx := fun k hk => by
   have hk' : k < C.ob.length := by simpa [γ0] using hk
   unfold γ0
   rw [nth_range hk']
   have h2 : C.ob.length ≤ st'.nx := hs.nx
   omega
  obtain ⟨z, h1, h2⟩ := outK_sound hR' (by simp [γ0]) hgl hGT hne r hrl C.outs _ hk
  exact ⟨z, h1.symm, hR'.keep, isAlt_mono h2 fun a y h => h.post⟩
 | panicked ch =>
  obtain ⟨ν', st', e, hR', hs, rfl, hk⟩ := hp'
  have hGT := gamT_start (ν' := ν') hp hν (fun j hj => hs.agree j hj)
  have hgl : ∀ k, k < (γ0 C).length → nth (γ0 C) k < st'.nx := fun k hk => by
   have hk' : k < C.ob.length := by simpa [γ0] using hk
   unfold γ0
   rw [nth_range hk']
   have h2 : C.ob.length ≤ st'.nx := hs.nx
   omega
  obtain ⟨z, h1, h2⟩ := outP_sound hR' (by simp [γ0]) hgl hGT hne e C.outs _ hk
  exact ⟨z, h1.symm, hR'.keep, isAlt_mono h2 fun a y h => h.post⟩
 | outgrown => exact hp'.elim
abbrev Hd (T : Type) := List SV → List Nat → St → (SV → St → O T) → (PV → St → O T) → O T
def HdOk (P : Program) (f : FuncId) {T : Type} (h : Hd T) : Prop :=
 ∀ args sl st (K : SV → St → O T) (Kp : PV → St → O T), h args sl st K Kp ≠ .no → (∀ as w, (callFunc f as).run P w = .ok (.enter f as) w) ∧
  ∀ S w0 ν w, RelW S w0 ν st w → belowL st.nx args = true → Calls P f (denL ν args).toArray w (CalPost S w0 ν st w K Kp (h args sl st K Kp))
noncomputable def calOf {T : Type} (l : List (FuncId × Hd T)) : Cal T := fun f args sl st K Kp =>
 match lkp f l with
 | some h => h args sl st K Kp
 | none => .no
def HdsOk (P : Program) {T : Type} : List (FuncId × Hd T) → Prop
 | [] => True
 | (f, h) :: r => HdOk P f h ∧ HdsOk P r
theorem calOf_ok {P : Program} {T : Type} {l : List (FuncId × Hd T)} (h : HdsOk P l) : CalOk P (calOf l) := by
 intro f args sl st K Kp hne
 unfold calOf at hne ⊢
 have : ∀ hd, lkp f l = some hd → HdOk P f hd := by
  clear hne
  induction l with
  | nil => intro hd hl; cases hl
  | cons x xs ih =>
   obtain ⟨g, hg⟩ := x
   intro hd hl
   rw [lkp_cons] at hl
   split at hl
   ·rename_i e; subst e; cases hl; exact h.1
   ·exact ih h.2 hd hl
 cases hl : lkp f l with
 | none => rw [hl] at hne; exact absurd rfl hne
 | some hd => rw [hl] at hne; exact this hd hl args sl st K Kp hne
noncomputable def giveAlt {T : Type} (ob : Obs) (γ : List Nat) (H : Heap) (st : St) (K : SV → St → O T) (Kp : PV → St → O T) (a : Alt) (y : PT a.k (ob ++ a.new)) : O T :=
 giveK (γ ++ List.range' st.nx a.new.length) (giveO (γ ++ List.range' st.nx a.new.length) 0 (ob ++ a.new) (prO a.k _ y) ⟨st.nx + a.new.length, st.dirty || !ob.isEmpty, H⟩) K Kp a.k (prK a.k _ y)
def frzArgs (C : Ct) (args : List SV) (st : St) : St := match C.ret with
 | true => frzAs C.as args st
 | false => st
def clearOf (args : List SV) (H : Heap) : Bool := (namesL args).all fun j => match lkp j H with
 | some o => !isOpn o
 | none => true
def opnsFor (C : Ct) (args : List SV) (H : Heap) : List Nat := bif C.ob.isEmpty && !C.ret && clearOf args H then [] else opns H
noncomputable def pureC {T : Type} (C : Ct) (bd : List Pth) (S : C.as.T → ObT C.ob → O (AltsT C.ob C.outs)) : Hd T := fun args sl st K Kp =>
 foldJs (opnsFor C args st.H) st fun st => match bindG args st.H bd [] with
 | some γ => ifb (Nat.beq γ.length C.ob.length) (takeO γ 0 C.ob (frzArgs C args (frzO γ 0 C.ob st)).H fun g H => takeAs γ C.ret C.as args H fun x => altsK C.ob C.outs (S x g) (giveAlt C.ob γ H (frzArgs C args (frzO γ 0 C.ob st)) K Kp)) .no
 | none => .no
section
variable {β : Type} {S : Bl} {w0 : World} {ν : Nat → Value} {st : St} {w w' : World} {γ : List Nat} {α : Nat → Value}
theorem Taken.apart (hR : RelW S w0 ν st w) {H : Heap} {F0 : List Nat} (t : Taken ν st.H H F0) {j : Nat} {o : HO} {b : Nat} (hj : lkp j H = some o) (hb : b ∈ mineL ν j o ∨ b ∈ seenL ν j o) : b ∉ F0 := by
 intro hF
 obtain ⟨j', o', h1, h2, h3⟩ := t.2.2 b hF
 rcases hb with h | h
 ·have := hR.inj j j' o o' b (t.1 j o hj) h1 h h3
  subst this
  rw [h2] at hj; cases hj
 ·exact hR.apart j' j o' o b h1 (t.1 j o hj) h3 h
theorem RelW.after (hR : RelW S w0 ν st w) {H : Heap} {F0 : List Nat} (t : Taken ν st.H H F0) (hK : Keep F0 w w') (m : Nat) (d : Bool) (ν1 : Nat → Value) (hν : ∀ j, j < st.nx → ν j = ν1 j) : RelW S w0 ν1 ⟨st.nx + m, d, H⟩ w' := by
 refine ((hR.part t.1 d).world ⟨hK.os, hK.tape, hK.output, hK.size⟩ (fun j o b hj hb => hK.heap b (hoSat_lt (hR.sat j o (t.1 j o hj)) b hb) (t.apart hR hj hb)) (fun b hb hS => ?_)).less hν (Nat.le_add_right _ _) (fun _ _ h => h) d
 refine hK.heap b (Nat.lt_of_lt_of_le hb hR.size) fun hF => ?_
 obtain ⟨j', o', h1, _, h3⟩ := t.2.2 b hF
 rcases hR.mine j' o' b h1 h3 with hm | hm
 ·exact hS hm
 ·omega
mutual
theorem fresh_S {Av : Nat → Prop} : ∀ (s : Sh) (x : s.T) (vs : List Value) (F : List Nat), s.fresh = true → repS w α Av s x vs F → repS w α (fun _ => False) s x vs F
 | .leaf _, _, _, _, _, h => h
 | .row own t ls, x, vs, F, hs, h => by
  obtain ⟨v, h1, h2, h3, h4, _⟩ := h
  have hs : own = true := hs
  subst hs
  exact ⟨v, h1, h2, h3, h4, fun b hb => by simp [rowSeen] at hb⟩
 | .map _ _ _ _ _, _, _, _, _, h => h
 | .tab own t f, xs, vs, F, hs, h => by
  simp only [Sh.fresh, Bool.and_eq_true] at hs
  obtain ⟨hs1, hs2⟩ := hs
  subst hs1
  obtain ⟨v, us, F0, F1, h1, h2, h3, h4, h5⟩ := h
  refine ⟨v, us, F0, F1, h1, h2, h3, ?_, h5.imp fun x v F' _ hr => fresh_F f x v F' hs2 hr⟩
  rcases h4 with h | ⟨a, cap, k1, k2, _, k4⟩
  ·exact .inl h
  ·exact .inr ⟨a, cap, k1, k2, (fun h => by cases h), k4⟩
 | .box t f, x, vs, F, hs, h => by
  obtain ⟨b, cs, F', h1, h2, h3, h4⟩ := h
  exact ⟨b, cs, F', h1, h2, fresh_F f x cs F' hs h3, h4⟩
 | .agg f, x, vs, F, hs, h => fresh_F f x vs F hs h
theorem fresh_F {Av : Nat → Prop} : ∀ (f : Shs) (x : f.T) (vs : List Value) (F : List Nat), f.fresh = true → repF w α Av f x vs F → repF w α (fun _ => False) f x vs F
 | .one s ps, x, vs, F, hs, h => by
  obtain ⟨us, h1, h2⟩ := h
  exact ⟨us, h1, fresh_S s x us F hs h2⟩
 | .cons s r, x, vs, F, hs, h => by
  simp only [Shs.fresh, Bool.and_eq_true] at hs
  obtain ⟨v1, v2, F1, F2, h1, h2, h3, h4⟩ := h
  exact ⟨v1, v2, F1, F2, h1, h2, fresh_S s x.1 v1 F1 hs.1 h3, fresh_F r x.2 v2 F2 hs.2 h4⟩
 | .pin p r, x, vs, F, hs, h => by
  obtain ⟨us, h1, h2⟩ := h
  exact ⟨us, h1, fresh_F r x us F hs h2⟩
 | .pins _, _, _, _, _, h => h
end
theorem fresh_V {Av : Nat → Prop} (s : Sh) (x : s.T) (v : Value) (F : List Nat) (hs : s.fresh = true) (h : repV w α Av s x v F) : repV w α (fun _ => False) s x v F := by
 obtain ⟨cs, h1, h2⟩ := h
 exact ⟨cs, fresh_S s x cs F hs h1, h2⟩
theorem fresh_A {Av : Nat → Prop} : ∀ (f : Shs) (x : f.T) (vs : List Value) (F : List Nat), f.fresh = true → repA w α Av f x vs F → repA w α (fun _ => False) f x vs F
 | .one s ps, x, vs, F, hs, h => by
  obtain ⟨v, h1, h2⟩ := h
  exact ⟨v, h1, fresh_V s x v F hs h2⟩
 | .cons s r, x, vs, F, hs, h => by
  simp only [Shs.fresh, Bool.and_eq_true] at hs
  obtain ⟨v, vs', F1, F2, h1, h2, h3, h4⟩ := h
  exact ⟨v, vs', F1, F2, h1, h2, fresh_V s x.1 v F1 hs.1 h3, fresh_A r x.2 vs' F2 hs.2 h4⟩
 | .pin p r, x, vs, F, hs, h => by
  obtain ⟨us, h1, h2⟩ := h
  exact ⟨us, h1, fresh_A r x us F hs h2⟩
 | .pins _, _, _, _, _, h => h
theorem fresh_O {Av : Nat → Prop} : ∀ (os : Obs) (i : Nat) (x : ObT os) (F : List Nat), obsFresh os = true → repO w α Av i os x F → repO w α (fun _ => False) i os x F
 | [], _, _, _, _, h => h
 | [o], i, x, F, hs, h => by
  simp only [obsFresh, Bool.and_eq_true] at hs
  obtain ⟨b, cs, F', h1, h2, h3, h4⟩ := h
  exact ⟨b, cs, F', h1, h2, fresh_F o.2 x cs F' hs.1 h3, h4⟩
 | o :: p :: os, i, x, F, hs, h => by
  rw [obsFresh, Bool.and_eq_true] at hs
  obtain ⟨F1, F2, h0, ⟨b, cs, F', h1, h2, h3, h4⟩, h5⟩ := h
  exact ⟨F1, F2, h0, ⟨b, cs, F', h1, h2, fresh_F o.2 x.1 cs F' hs.1 h3, h4⟩, fresh_O (p :: os) (Nat.succ i) x.2 F2 hs.2 h5⟩
theorem fresh_E {Av : Nat → Prop} {e : Ending} (k : AK) (x : k.T) (F : List Nat) (hs : k.fresh = true) (h : repE w α Av k x e F) : repE w α (fun _ => False) k x e F := by
 cases k with
 | val s => cases e <;> first | exact fresh_V s x _ F hs h | exact h.elim
 | tup f =>
  cases e with
  | returned v =>
   obtain ⟨vs, h1, h2⟩ := h
   exact ⟨vs, h1, fresh_A f x vs F hs h2⟩
  | _ => exact h.elim
 | _ => cases e <;> first | exact h | exact h.elim
theorem mono_O {A Av : Nat → Prop} (hA : ∀ b, A b → Av b) : ∀ (os : Obs) (i : Nat) (x : ObT os) (F : List Nat), repO w α A i os x F → repO w α Av i os x F
 | [], _, _, _, h => h
 | [o], i, x, F, h => by
  obtain ⟨b, cs, F', h1, h2, h3, h4⟩ := h
  exact ⟨b, cs, F', h1, h2, repF_congr (fun _ _ => rfl) hA o.2 x cs F' (fun _ _ => rfl) h3, h4⟩
 | o :: p :: os, i, x, F, h => by
  obtain ⟨F1, F2, h0, ⟨b, cs, F', h1, h2, h3, h4⟩, h5⟩ := h
  exact ⟨F1, F2, h0, ⟨b, cs, F', h1, h2, repF_congr (fun _ _ => rfl) hA o.2 x.1 cs F' (fun _ _ => rfl) h3, h4⟩, mono_O hA (p :: os) (Nat.succ i) x.2 F2 h5⟩
theorem mono_A {A Av : Nat → Prop} (hA : ∀ b, A b → Av b) : ∀ (f : Shs) (x : f.T) (vs : List Value) (F : List Nat), repA w α A f x vs F → repA w α Av f x vs F
 | .one s ps, x, vs, F, h => by
  obtain ⟨v, h1, cs, h2, h3⟩ := h
  exact ⟨v, h1, cs, repS_congr (fun _ _ => rfl) hA s x cs F (fun _ _ => rfl) h2, h3⟩
 | .cons s r, x, vs, F, h => by
  obtain ⟨v, vs', F1, F2, h1, h2, ⟨cs, h3, h4⟩, h5⟩ := h
  exact ⟨v, vs', F1, F2, h1, h2, ⟨cs, repS_congr (fun _ _ => rfl) hA s x.1 cs F1 (fun _ _ => rfl) h3, h4⟩, mono_A hA r x.2 vs' F2 h5⟩
 | .pin p r, x, vs, F, h => by
  obtain ⟨us, h1, h2⟩ := h
  exact ⟨us, h1, mono_A hA r x us F h2⟩
 | .pins _, _, _, _, h => h
theorem mono_As {A Av : Nat → Prop} (hA : ∀ b, A b → Av b) (a : As) (x : a.T) (vs : List Value) (h : repAs w α A a x vs) : repAs w α Av a x vs := by
 cases a with
 | none => exact h
 | some f => exact mono_A hA f x vs [] h
theorem giveK_sound {T : Type} (hR : RelW S w0 ν st w) {n : Nat} (hG : Gam γ n α ν st.nx) {Av : Nat → Prop} (k : AK) (hl : k.lt n = true) (x : k.T) (e : Ending) (F : List Nat) (hr : repE w α Av k x e F) (hF : Free S w0 w ν st Av F) {K : SV → St → O T} {Kp : PV → St → O T} {res : O T} (h : giveK γ st K Kp k x = res) :
  ∃ ν' st', RelW S w0 ν' st' w ∧ st.nx ≤ st'.nx ∧ st'.dirty = st.dirty ∧ (∀ j, j < st.nx → ν j = ν' j) ∧ match e with
   | .returned v => ∃ r, v = den ν' r ∧ svLt st'.nx r = true ∧ K r st' = res
   | .panicked ch => ∃ p, ch = panOf p ∧ Kp p st' = res
   | .outgrown => False := by
 cases k with
 | unit =>
  cases e with
  | returned v => exact ⟨ν, st, hR, Nat.le_refl _, rfl, fun _ _ => rfl, .tup [], by rw [hr.1]; simp [den, denL], by simp [svLt, belowL], h⟩
  | _ => exact hr.elim
 | val s =>
  cases e with
  | returned v =>
   obtain ⟨ν', g, h2, h3⟩ := giveV_sound s x v F ν st hR hr hF hG hl
   exact ⟨ν', _, g.1, by rw [adds_nx]; omega, adds_dirty _ _, g.2.1, _, h2.symm, by rw [adds_nx]; exact h3, h⟩
  | _ => exact hr.elim
 | pin p =>
  cases e with
  | returned v =>
   obtain ⟨p1, p2⟩ := pinV_den hG hl
   exact ⟨ν, st, hR, Nat.le_refl _, rfl, fun _ _ => rfl, pinV γ p, by rw [hr.1, p1], p2, h⟩
  | _ => exact hr.elim
 | tup f =>
  cases e with
  | returned v =>
   obtain ⟨vs, rfl, hr⟩ := hr
   obtain ⟨ν', g, h2, h3⟩ := giveA_sound f x vs F ν st hR hr hF hG hl
   exact ⟨ν', _, g.1, by rw [adds_nx]; omega, adds_dirty _ _, g.2.1, _, by simp only [den, h2], by rw [adds_nx]; simpa only [svLt] using h3, h⟩
  | _ => exact hr.elim
 | pins ps =>
  cases e with
  | returned v =>
   obtain ⟨p1, p2⟩ := pinsV_den hG hl
   exact ⟨ν, st, hR, Nat.le_refl _, rfl, fun _ _ => rfl, .tup (ps.map (pinV γ)), by rw [hr.1]; simp only [den, p1], by simpa only [svLt] using p2, h⟩
  | _ => exact hr.elim
 | pan t g l ls =>
  cases e with
  | panicked ch => exact ⟨ν, st, hR, Nat.le_refl _, rfl, fun _ _ => rfl, _, hr.1, h⟩
  | _ => exact hr.elim
 | pan0 t g =>
  cases e with
  | panicked ch => exact ⟨ν, st, hR, Nat.le_refl _, rfl, fun _ _ => rfl, _, hr.1, h⟩
  | _ => exact hr.elim
end
theorem pureC_ok {P : Program} {f : FuncId} {T : Type} {C : Ct} (hg : C.good = true) (bd : List Pth) {S : C.as.T → ObT C.ob → O (AltsT C.ob C.outs)} (hF : FnOkC P f C S) (hcall : ∀ as w, (callFunc f as).run P w = .ok (.enter f as) w) : HdOk P f (pureC (T := T) C bd S) := by
 intro args sl st K Kp hne
 refine ⟨hcall, fun Sp w0 ν w hR hb => ?_⟩
 have G := Ct.good' hg
 generalize hres : pureC C bd S args sl st K Kp = res at hne ⊢
 unfold pureC at hres
 obtain ⟨ν0', st0, hre0, hres⟩ := foldJs_sound hne (opnsFor C args st.H) hR hres
 have hdargs : denL ν args = denL ν0' args := denL_congr hre0.agree args hb
 have hb0 : belowL st0.nx args = true := belowL_mono hre0.nx args hb
 rw [hdargs]
 cases hbd : bindG args st0.H bd [] with
 | none => rw [hbd] at hres; exact absurd hres.symm hne
 | some γ =>
  rw [hbd] at hres
  dsimp only at hres
  by_cases hlen : Nat.beq γ.length C.ob.length = true
  case neg => rw [Bool.not_eq_true] at hlen; rw [hlen] at hres; exact absurd hres.symm hne
  rw [hlen, ifb_true] at hres
  have hlen := Nat.eq_of_beq_eq_true hlen
  obtain ⟨ν1', z1⟩ := frzO_sound (γ := γ) C.ob 0 hre0.rel
  obtain ⟨ν', z2⟩ : ∃ ν', Frz Sp w0 w ν1' (frzO γ 0 C.ob st0) ν' (frzArgs C args (frzO γ 0 C.ob st0)) := by
   unfold frzArgs
   split
   ·unfold frzAs
    split
    ·exact ⟨_, Frz.refl z1.rel⟩
    ·exact frzA_sound _ _ z1.rel
   ·exact ⟨_, Frz.refl z1.rel⟩
  have hre := hre0.trans (z1.trans z2).re
  have hag := (z1.trans z2).agree
  generalize hst2 : frzArgs C args (frzO γ 0 C.ob st0) = st2 at hres z2 hre hag
  rw [denL_congr hag args hb0]
  have hstep0 := hre.step
  have hR := hre.rel
  clear hdargs hag z1 z2
  have hGT : GamT γ (fun i => den ν' (.ptr (nth γ i) 0)) ν' := fun i _ => rfl
  have hnames := takeO_names hR hne C.ob 0 st2.H _ (fun _ _ h => h) hres
  obtain ⟨g, H, F0, h1, hO, t⟩ := takeO_sound hR hGT hne C.ob 0 (by omega) st2.H _ (fun _ _ h => h) (Av := fun b => ∃ j o, lkp j st2.H = some o ∧ b ∈ seenL ν' j o) (fun j o b hj hb => by
   rcases hb with hb | hb
   ·exact ⟨j, o, hj, hb⟩
   ·cases hb.1) hres
  obtain ⟨x, h2, hA⟩ := takeAs_sound (fz := C.ret) (Av := fun b => ∃ j o, lkp j H = some o ∧ (b ∈ seenL ν' j o ∨ (C.ret = false ∧ b ∈ mineL ν' j o))) hR hGT hne C.as G.seen args H _ (t.sub (fun _ _ h => h)) (fun j o b hj hb => ⟨j, o, hj, hb⟩) h1
  obtain ⟨z, hz, hq⟩ := altsK_is hne h2
  let Z : Nat → Prop := fun b => (∃ j o, lkp j st2.H = some o ∧ b ∈ seenL ν' j o) ∨ (C.ret = false ∧ ∃ j o, lkp j H = some o ∧ b ∈ mineL ν' j o)
  have hZ : ∀ b, Z b → b < w.heap.size ∧ b ∉ F0 := by
   intro b hb
   rcases hb with ⟨j, o, hj, hb⟩ | ⟨_, j, o, hj, hb⟩
   ·refine ⟨hoSat_lt (hR.sat j o hj) b (.inr hb), fun hF => ?_⟩
    obtain ⟨j', o', q1, _, q3⟩ := t.2.2 b hF
    exact hR.apart j' j o' o b q1 hj q3 hb
   ·exact ⟨hoSat_lt (hR.sat j o (t.1 j o hj)) b (.inl hb), t.apart hR hj (.inl hb)⟩
  refine (hF x g (by rw [hz]; intro h; cases h) w _ _ F0 Z hZ (mono_O (fun b hb => .inl hb) C.ob 0 g F0 hO) t.2.1 (mono_As (fun b hb => by
   obtain ⟨j, o, hj, hb⟩ := hb
   rcases hb with hb | hb
   ·exact .inl ⟨j, o, t.1 j o hj, hb⟩
   ·exact .inr ⟨hb.1, j, o, hj, hb.2⟩) C.as x _ hA)).mono ?_
  intro e w' hp
  obtain ⟨z', hz', hK, hp⟩ := hp
  rw [hz] at hz'
  obtain rfl := O.ok.inj hz'
  obtain ⟨a, ha, y, hy, hal⟩ := isAlt_and hq hp
  obtain ⟨α', F1, F2, Z', hα, r1, r2, hnd, hF, hZ'⟩ := hal
  obtain ⟨f3, f4⟩ := G.outs a ha
  obtain ⟨Z2, r1, r2, hZ2⟩ : ∃ Z2 : Nat → Prop, repO w' α' Z2 0 (C.ob ++ a.new) (prO a.k _ y) F1 ∧ repE w' α' Z2 a.k (prK a.k _ y) e F2 ∧ ∀ b, Z2 b → (w0.heap.size ≤ b ∨ Sp b ∨ Sp.frz b) ∧ b ∉ F1 ++ F2 ∧ b < w'.heap.size ∧ ∀ j o, lkp j H = some o → b ∉ mineL ν' j o := by
   cases hret : C.ret with
   | false =>
    unfold Ct.ret at hret
    simp only [Bool.not_eq_false', List.all_eq_true, Bool.and_eq_true] at hret
    obtain ⟨q1, q2⟩ := hret a ha
    exact ⟨fun _ => False, fresh_O _ 0 _ F1 q2 r1, fresh_E a.k _ F2 q1 r2, fun b hb => hb.elim⟩
   | true =>
    refine ⟨Z', r1, r2, fun b hb => ?_⟩
    obtain ⟨p1, p2, p3⟩ := hZ' b hb
    rcases p1 with p1 | p1 | p1
    ·rcases p1 with ⟨j, o, hj, hb⟩ | ⟨e, _⟩
     ·exact ⟨hR.seen j o b hj hb, p2, p3, fun i q hq hb' => hR.apart i j q o b (t.1 i q hq) hj hb' hb⟩
     ·rw [hret] at e; cases e
    ·obtain ⟨j, o, q1, _, q3⟩ := t.2.2 b p1
     refine ⟨?_, p2, p3, fun i q hq hb' => t.apart hR hq (.inl hb') p1⟩
     rcases hR.mine j o b q1 q3 with h | h
     ·exact .inr (.inl h)
     ·exact .inl h
    ·refine ⟨.inl (by have := hR.size; omega), p2, p3, fun i q hq hb' => ?_⟩
     have := hoSat_lt (hR.sat i q (t.1 i q hq)) b (.inl hb')
     omega
  generalize hm : a.new.length = m at *
  have hν : ∀ j, j < st2.nx → ν' j = (fun j => if j < st2.nx then ν' j else α' (C.ob.length + (j - st2.nx))) j := fun j hj => by simp [hj]
  have hR1 := hR.after t hK m (st2.dirty || !C.ob.isEmpty) _ hν
  have hlo : (C.ob ++ a.new).length = C.ob.length + m := by rw [List.length_append, hm]
  have hG : GamO (γ ++ List.range' st2.nx m) (C.ob ++ a.new).length α' (fun j => if j < st2.nx then ν' j else α' (C.ob.length + (j - st2.nx))) (st2.nx + m) := by
   refine ⟨by rw [hlo, List.length_append, List.length_range', hlen], fun i hi => ?_⟩
   rw [hlo] at hi
   refine ⟨?_, ?_, repO_ptr r1 i (Nat.zero_le _) (by omega)⟩
   ·by_cases hi' : i < C.ob.length
    ·rw [nth_app (by omega)]
     have := (hnames i (Nat.zero_le _) (by omega)).1
     omega
    ·rw [show i = γ.length + (i - C.ob.length) by omega, nth_app2, nth_range' (by omega)]
     omega
   ·by_cases hi' : i < C.ob.length
    ·rw [nth_app (by omega)]
     obtain ⟨n1, n2⟩ := hnames i (Nat.zero_le _) (by omega)
     simp only [n1, if_true]
     rw [n2, hα i hi']
    ·rw [show nth (γ ++ List.range' st2.nx m) i = st2.nx + (i - C.ob.length) by rw [show i = γ.length + (i - C.ob.length) by omega, nth_app2, nth_range' (by omega)]; omega]
     simp only [show ¬ (st2.nx + (i - C.ob.length) < st2.nx) by omega, if_false]
     congr 1; omega
  have hmine : ∀ b ∈ F1 ++ F2, Sp b ∨ w0.heap.size ≤ b := by
   intro b hb
   rcases hF b hb with h | h
   ·obtain ⟨j', o', h1, _, h3⟩ := t.2.2 b h
    exact hR.mine j' o' b h1 h3
   ·have := hR.size; exact .inr (by omega)
  have hfree : Free Sp w0 w' (fun j => if j < st2.nx then ν' j else α' (C.ob.length + (j - st2.nx))) ⟨st2.nx + m, st2.dirty || !C.ob.isEmpty, H⟩ Z2 (F1 ++ F2) := by
   have cm : ∀ j o, lkp j H = some o → mineL (fun j => if j < st2.nx then ν' j else α' (C.ob.length + (j - st2.nx))) j o = mineL ν' j o := fun j o hj => (mineL_congr hν (hR.lt j o (t.1 j o hj)).1 (hR.lt j o (t.1 j o hj)).2).symm
   have cs : ∀ j o, lkp j H = some o → seenL (fun j => if j < st2.nx then ν' j else α' (C.ob.length + (j - st2.nx))) j o = seenL ν' j o := fun j o hj => (seenL_congr hν (hR.lt j o (t.1 j o hj)).1 (hR.lt j o (t.1 j o hj)).2).symm
   refine ⟨hnd, hmine, fun b hb j o hj => ?_, fun b hb => ⟨(hZ2 b hb).1, (hZ2 b hb).2.1, (hZ2 b hb).2.2.1, fun j o hj => ?_⟩⟩
   ·have hj : lkp j H = some o := hj
    rw [cm j o hj, cs j o hj]
    have : ¬ (b ∈ mineL ν' j o ∨ b ∈ seenL ν' j o) := fun hmb => by
     rcases hF b hb with h | h
     ·exact t.apart hR hj hmb h
     ·have := hoSat_lt (hR.sat j o (t.1 j o hj)) b hmb
      omega
    exact ⟨fun h => this (.inl h), fun h => this (.inr h)⟩
   ·have hj : lkp j H = some o := hj
    rw [cm j o hj]
    exact (hZ2 b hb).2.2.2 j o hj
  obtain ⟨ν2, g2⟩ := giveO_sound (C.ob ++ a.new) 0 (by omega) (prO a.k _ y) F1 _ _ hR1 r1 hfree.left hG f3
  have hy : giveK (γ ++ List.range' st2.nx m) (giveO (γ ++ List.range' st2.nx m) 0 (C.ob ++ a.new) (prO a.k _ y) ⟨st2.nx + m, st2.dirty || !C.ob.isEmpty, H⟩) K Kp a.k (prK a.k _ y) = res := by
   have : giveAlt C.ob γ H st2 K Kp a y = res := hy
   unfold giveAlt at this
   rw [hm] at this
   exact this
  obtain ⟨ν3, st3, k1, k2, k3, k4, k5⟩ := giveK_sound g2.1 (hG.mono g2.2.1 g2.2.2.2.1).gam a.k f4 (prK a.k _ y) e F2 r2 (hfree.rightS g2) hy
  have hstep : Step ν' st2 w ν3 st3 w' := by
   have e1 : st2.nx + m ≤ (giveO (γ ++ List.range' st2.nx m) 0 (C.ob ++ a.new) (prO a.k _ y) ⟨st2.nx + m, st2.dirty || !C.ob.isEmpty, H⟩).nx := g2.2.1
   have ed : st3.dirty = (st2.dirty || !C.ob.isEmpty) := k3.trans g2.2.2.1
   refine ⟨by omega, fun j hj => ?_, fun hd => ?_, hK.size, fun hd b hb => ?_⟩
   ·rw [hν j hj]
    exact (g2.2.2.2.1 j (by show j < st2.nx + m; omega)).trans (k4 j (by omega))
   ·rw [ed, hd]; rfl
   ·rw [ed] at hd
    have : C.ob.isEmpty = true := by
     cases hq : C.ob.isEmpty
     ·rw [hq] at hd; simp at hd
     ·rfl
    have hF0 : F0 = [] := repO_lt (List.isEmpty_iff.1 this) hO
    exact hK.heap b hb (by rw [hF0]; simp)
  cases e with
  | returned v =>
   obtain ⟨r, e1, e2, e3⟩ := k5
   exact ⟨ν3, st3, r, k1, hstep0.trans hstep, e1, e2, e3⟩
  | panicked ch =>
   obtain ⟨p, e1, e2⟩ := k5
   exact ⟨ν3, st3, p, k1, hstep0.trans hstep, e1, e2⟩
  | outgrown => exact k5.elim
noncomputable def inlH {T : Type} (tab : Tab) (cal : Cal T) (fn : Func) (nt : Notes) (k : Nat) : Hd T := fun args sl st K Kp =>
 ifb (Nat.ble args.length fn.ntmps) (evFn tab cal fn nt k st.nx args sl st K Kp) .no
theorem inlH_ok {P : Program} {tab : Tab} (hT : tabChk P tab = true) {T : Type} {cal : Cal T} (hC : CalOk P cal) (hM : P.follows .mixedOrders = true) {f : FuncId} {fn : Func} (hf : P.funcs[f]? = some fn) (nt : Notes) (k : Nat)
  (hcall : ∀ as w, (callFunc f as).run P w = .ok (.enter f as) w) : HdOk P f (inlH (T := T) tab cal fn nt k) := by
 intro args sl st K Kp hne
 refine ⟨hcall, fun Sp w0 ν w hR hb => ?_⟩
 unfold inlH at hne ⊢
 by_cases hl : Nat.ble args.length fn.ntmps = true
 ·rw [hl, ifb_true] at hne ⊢
  refine (evFn_sound hT hC hM f fn hf nt k hl (Nat.le_refl _) hR hb rfl hne).mono ?_
  intro e w' hp
  cases e with
  | returned v =>
   obtain ⟨ν', st', r, h1, h2, h3⟩ := hp
   exact ⟨ν', st', r, h1, ⟨h2.nx, h2.agree, h2.dirt, h2.size, h2.same⟩, h3⟩
  | panicked ch =>
   obtain ⟨ν', st', r, h1, h2, h3⟩ := hp
   exact ⟨ν', st', r, h1, ⟨h2.nx, h2.agree, h2.dirt, h2.size, h2.same⟩, h3⟩
  | outgrown => exact hp.elim
 ·rw [Bool.not_eq_true] at hl; rw [hl] at hne; exact absurd rfl hne
end Go.Aq
end
section
namespace Go.Aq
open Go.RowKit (Below)
set_option linter.unusedVariables false
noncomputable section
variable {T : Type}
def recDst (o : Oper) : Option Tmp :=
 match o.guard, o.op with
 | none, .call c => match c.callee, c.args.toList with
  | .builtin .recover, [] => o.dst
  | _, _ => none
 | _, _ => none
def defK (K : St → O T) : Ex → Fr → St → O T := fun e fr st =>
 match e, fr.dfs with
 | .normal, [] | .ret, [] => K st
 | _, _ => .no
def evDef (tab : Tab) (cal : Cal T) (fn : Func) (nt : Notes) (k : Nat) (caps : List SV) (st : St) (rv : SV) (K : St → O T) : O T :=
 match fn.body with
 | some (.seq (.region _ ops false) rest) => match ops.toList with
  | o :: os => match recDst o with
   | some d => ifb (Nat.ble caps.length fn.ntmps && Nat.blt d fn.ntmps && fn.results.toList.isEmpty)
     (evOps tab cal fn.ntmps ops.toList os [d] ⟨(d, rv) :: argEnv caps 0, [], st.nx, []⟩ st (fun fr st => ev tab cal fn.ntmps nt k rest fr st (defK K)) (fun _ _ _ => .no)) .no
   | none => .no
  | [] => .no
 | _ => .no
abbrev Dfs := List (FuncId × Func × Notes)
def resK (tab : Tab) (rs : List ResultVar) (K : SV → St → O T) (fr : Fr) (st : St) : O T :=
 match resVals tab fr st rs with
 | some vs => K (resVal vs) st
 | none => .no
def finD (tab : Tab) (cal : Cal T) (D : Dfs) (k : Nat) (rs : List ResultVar) (K : SV → St → O T) (Kp : PV → St → O T) : Ex → Fr → St → O T := fun e fr st =>
 match fr.dfs with
 | [] => finK tab rs K Kp e fr st
 | [.clo g caps] => match lkp g D with
  | some (gn, nt) => match e with
   | .normal => evDef tab cal gn nt k caps st .nili (resK tab rs K fr)
   | .ret => evDef tab cal gn nt k caps st .nili (resK tab rs K fr)
   | .panic p => evDef tab cal gn nt k caps st (ofPV p) (resK tab rs K fr)
   | _ => .no
  | none => .no
 | _ => .no
def evFnD (tab : Tab) (cal : Cal T) (D : Dfs) (fn : Func) (nt : Notes) (k : Nat) (b : Nat) (args : List SV) (st : St) (K : SV → St → O T) (Kp : PV → St → O T) : O T :=
 ifb (fn.body.isSome) (ev tab cal fn.ntmps nt k (bodyOf fn) ⟨argEnv args 0, [], b, []⟩ st (finD tab cal D k fn.results.toList K Kp)) (.no)
end
def DfsOk (P : Program) : Dfs → Prop
 | [] => True
 | (g, gn, _) :: r => (P.funcs[g]? = some gn ∧ ∀ as w, (callFunc g as).run P w = .ok (.enter g as) w) ∧ DfsOk P r
theorem DfsOk.get {P : Program} : ∀ {D : Dfs}, DfsOk P D → ∀ {g : FuncId} {gn : Func} {nt : Notes}, lkp g D = some (gn, nt) → P.funcs[g]? = some gn ∧ ∀ as w, (callFunc g as).run P w = .ok (.enter g as) w
 | (s, x) :: r, h, g, gn, nt, hl => by
  rw [lkp_cons] at hl
  split at hl
  ·rename_i e; subst e; cases hl; exact h.1
  ·exact DfsOk.get h.2 hl
section
variable {P : Program} {tab : Tab} {T : Type} {cal : Cal T} {S : Bl} {w0 : World}
theorem wpOpsS_of_wpOps {ops : Array Oper} {Q : Exit → Act → List Frame → World → Prop} {cs : List Frame} (hno : ∀ a w, ¬ Q .outgrown a cs w) : ∀ (l : List Nat) (a : Act) (w : World), wpOps P ops (fun e a w => Q e a cs w) l a w → wpOpsS P ops Q l a cs w
 | [], a, w, h => h
 | i :: rest, a, w, h => by
  simp only [wpOps, wpOpsS] at h ⊢
  cases ho : ops[i]? with
  | none => rw [ho] at h; exact wpOpsS_of_wpOps hno rest a w h
  | some o =>
   rw [ho] at h
   simp only at h ⊢
   split
   ·rename_i hw
    rw [if_pos hw] at h
    rcases h with h | ⟨_, a1, w1, hl⟩
    ·unfold Oper.wp at h
     split
     ·rename_i w' hr
      rw [hr] at h
      exact h.elim
     ·rename_i r hnot
      generalize (execOp a.eval o).run P w = r' at h ⊢
      cases r' with
      | ok x w' =>
       cases x with
       | value v => exact wpOpsS_of_wpOps hno rest _ _ h
       | skip => exact wpOpsS_of_wpOps hno rest _ _ h
       | defer d => exact wpOpsS_of_wpOps hno rest _ _ h
       | enter f args =>
        refine Calls.mono h ?_
        intro e w'' hp
        cases e with
        | returned v => exact wpOpsS_of_wpOps hno rest _ _ hp
        | panicked ch => exact hp
        | outgrown => obtain ⟨a1, w1, hq⟩ := hp; exact absurd hq (hno a1 w1)
       | row r args => exact Rows.mono h fun v w'' hp => wpOpsS_of_wpOps hno rest _ _ hp
       | _ => exact h.elim
      | halt x w' => cases x <;> first | exact h | exact h.elim
    ·exact absurd hl (hno a1 w1)
   ·rename_i hw
    rw [if_neg hw] at h
    exact wpOpsS_of_wpOps hno rest _ _ h
theorem wpOps_mono {ops : Array Oper} {Q Q' : Exit → Act → World → Prop} (hq : ∀ e a w, Q e a w → Q' e a w) : ∀ (l : List Nat) (a : Act) (w : World), wpOps P ops Q l a w → wpOps P ops Q' l a w
 | [], a, w, h => hq _ _ _ h
 | i :: rest, a, w, h => by
  simp only [wpOps] at h ⊢
  cases ho : ops[i]? with
  | none => rw [ho] at h; exact wpOps_mono hq rest a w h
  | some o =>
   rw [ho] at h
   simp only at h ⊢
   split
   ·rename_i hw
    rw [if_pos hw] at h
    rcases h with h | ⟨h1, a1, w1, hl⟩
    ·refine .inl ?_
     unfold Oper.wp at h ⊢
     generalize (execOp a.eval o).run P w = r' at h ⊢
     cases r' with
     | ok x w' =>
      cases x with
      | value v => exact wpOps_mono hq rest _ _ h
      | skip => exact wpOps_mono hq rest _ _ h
      | defer d => exact wpOps_mono hq rest _ _ h
      | enter f args =>
       refine Calls.mono h ?_
       intro e w'' hp
       cases e with
       | returned v => exact wpOps_mono hq rest _ _ hp
       | panicked ch => exact hq _ _ _ hp
       | outgrown => obtain ⟨a1, w1, hl⟩ := hp; exact ⟨a1, w1, hq _ _ _ hl⟩
      | row r args => exact Rows.mono h fun v w'' hp => wpOps_mono hq rest _ _ hp
      | _ => exact h.elim
     | halt x w' => cases x <;> first | exact hq _ _ _ h | exact h.elim
    ·exact .inr ⟨h1, a1, w1, hq _ _ _ hl⟩
   ·rename_i hw
    rw [if_neg hw] at h
    exact wpOps_mono hq rest _ _ h
theorem recDst_spec {o : Oper} {d : Tmp} (h : recDst o = some d) (a : Act) (w : World) : o.guard = none ∧ o.dst = some d ∧ (execOp a.eval o).run P w = .ok .recover w := by
 unfold recDst at h
 split at h
 ·rename_i c hg ho
  split at h
  ·rename_i hc ha
   refine ⟨hg, h, ?_⟩
   have hz : c.args = #[] := by rw [← Array.toArray_toList (xs := c.args), ha]
   simp [execOp, ho, resolve, hc, hz, invoke, builtin]
  ·cases h
 ·cases h
theorem evDef_sound (hT : tabChk P tab = true) (hC : CalOk P cal) (hM : P.follows .mixedOrders = true) {g : FuncId} {gn : Func} (hf : P.funcs[g]? = some gn) (nt : Notes) (k : Nat) {caps : List SV} {st : St} {rv : SV} {K : St → O T} {res : O T} (hne : res ≠ .no) {ν : Nat → Value} {w : World}
  (hR : RelW S w0 ν st w) (hb : belowL st.nx caps = true) (hrv : svLt st.nx rv = true) {u U : FrameMode}
  (hrec : ∀ (c₀ : Frame) (cs : List Frame), c₀.mode = u → (∃ v, recoverD (c₀ :: cs) = some (v, { c₀ with mode := U } :: cs) ∧ v = den ν rv) ∨ (recoverD (c₀ :: cs) = none ∧ den ν rv = .nilIface ∧ U = u))
  (h : evDef tab cal gn nt k caps st rv K = res) :
  CallsD P g (denL ν caps).toArray u w fun e u' w' => u' = U ∧ (∃ v, e = .returned v) ∧ ∃ ν' st', RelW S w0 ν' st' w' ∧ Step ν st w ν' st' w' ∧ K st' = res := by
 unfold evDef at h
 split at h
 ·rename_i id ops rest hbody
  split at h
  ·rename_i o os hos
   split at h
   ·rename_i d hd
    by_cases hc : (Nat.ble caps.length gn.ntmps && Nat.blt d gn.ntmps && gn.results.toList.isEmpty) = true
    ·rw [hc, ifb_true] at h
     simp only [Bool.and_eq_true, List.isEmpty_iff] at hc
     obtain ⟨⟨h1, h2⟩, h3⟩ := hc
     have h1 := Nat.le_of_ble_eq_true h1
     have h2 : d < gn.ntmps := Nat.le_of_ble_eq_true h2
     have h3 : gn.results = #[] := by rw [← Array.toArray_toList (xs := gn.results), h3]
     refine callsD_of_wpS hf hbody fun c₀ cs hu => ?_
     refine wpS_seq (wpS_region ?_)
     have hsz : ops.size = os.length + 1 := by rw [← Array.length_toList, hos]; rfl
     rw [List.range_eq_range', hsz, List.range'_succ]
     have ho0 : ops[0]? = some o := by rw [← Array.getElem?_toList, hos]; rfl
     generalize hact : ({ tmps := (denL ν caps).toArray ++ Array.replicate (gn.ntmps - (denL ν caps).toArray.size) undef, defers := [] } : Act) = a0
     simp only [wpOpsS, ho0]
     obtain ⟨hgd, hdst, hrun⟩ := recDst_spec (P := P) hd a0 w
     rw [if_pos (wanted_none hgd), hrun]
     have hga : Good S w0 ⟨ν, st, w⟩ gn.ntmps ν ⟨(d, rv) :: argEnv caps 0, [], st.nx, []⟩ st (a0.put o.dst (den ν rv)) w := by
      have hg : Good S w0 ⟨ν, st, w⟩ gn.ntmps ν ⟨argEnv caps 0, [], st.nx, []⟩ st a0 w := by
       subst hact
       refine ⟨hR, ⟨?_, ?_, rfl, rfl⟩, rfl, Step.refl _ _ _⟩
       ·simp [denL_length]; omega
       ·intro t v hv
        exact argEnv_get ν st.nx caps 0 hb [] rfl _ t v hv
      have := hg.put (d := o.dst) (fun t ht => by rw [hdst] at ht; cases ht; exact h2) (v := rv) hrv
      rw [hdst] at this ⊢
      exact this
     have hops := evOps_sound (P := P) (S := S) (w0 := w0) (E := ⟨ν, st, w⟩) (n := gn.ntmps) hT hC (ops := ops) hne os [d] 1 (by rw [hos]; rfl) ν _ st _ w hga h
     have main : ∀ cs', cs' = { c₀ with mode := U } :: cs → wpOpsS P ops (Exit.thenS (rest.wpS P (bodyPostS P gn c₀ cs fun e u' w' => u' = U ∧ (∃ v, e = .returned v) ∧ ∃ ν' st', RelW S w0 ν' st' w' ∧ Step ν st w ν' st' w' ∧ K st' = res))
       (bodyPostS P gn c₀ cs fun e u' w' => u' = U ∧ (∃ v, e = .returned v) ∧ ∃ ν' st', RelW S w0 ν' st' w' ∧ Step ν st w ν' st' w' ∧ K st' = res)) (List.range' 1 os.length) (a0.put o.dst (den ν rv)) cs' w := by
      rintro cs' rfl
      refine wpOpsS_of_wpOps ?_ _ _ _ (wpOps_mono ?_ _ _ _ hops)
      ·intro a1 w1 hq
       obtain ⟨_, _, ⟨v, hv⟩, _⟩ := hq
       cases hv
      ·intro e a1 w1 hp
       cases e with
       | normal =>
        obtain ⟨ν', fr', st', hg', hk⟩ := hp
        refine wpS_of_wp (wp_mono (ev_sound hT hC hM nt k hne rest _ ν' fr' st' a1 w1 hg' hk) ?_)
        have fin : ∀ ν'' (fr'' : Fr) st'' (a2 : Act) w2, Good S w0 ⟨ν, st, w⟩ gn.ntmps ν'' fr'' st'' a2 w2 → fr''.dfs = [] → K st'' = res → a2.defers = [] ∧ ∃ u', ({ c₀ with mode := U } :: cs : List Frame) = { c₀ with mode := u' } :: cs ∧ ∃ v, (results gn a2.tmps).run P w2 = .ok v w2 ∧
          (u' = U ∧ (∃ v', (Ending.returned v) = .returned v') ∧ ∃ ν' st', RelW S w0 ν' st' w2 ∧ Step ν st w ν' st' w2 ∧ K st' = res) := by
         intro ν'' fr'' st'' a2 w2 hg'' hdf hk''
         exact ⟨by rw [hg''.env.dfs, hdf]; simp [denL], U, rfl, _, results_none h3 _ _ _, rfl, ⟨_, rfl⟩, ν'', st'', hg''.rel, hg''.step, hk''⟩
        intro e a2 w2 hp2
        cases e with
        | normal =>
         obtain ⟨ν'', fr'', st'', hg'', hk''⟩ := hp2
         simp only [defK] at hk''
         cases hdf : fr''.dfs with
         | nil => rw [hdf] at hk''; exact fin ν'' fr'' st'' a2 w2 hg'' hdf hk''
         | cons _ _ => rw [hdf] at hk''; exact absurd hk''.symm hne
        | ret =>
         obtain ⟨ν'', fr'', st'', hg'', hk''⟩ := hp2
         simp only [defK] at hk''
         cases hdf : fr''.dfs with
         | nil => rw [hdf] at hk''; exact fin ν'' fr'' st'' a2 w2 hg'' hdf hk''
         | cons _ _ => rw [hdf] at hk''; exact absurd hk''.symm hne
        | exit id => obtain ⟨ν'', fr'', st'', hg'', hk''⟩ := hp2; exact absurd hk''.symm hne
        | panic ch => obtain ⟨ν'', fr'', st'', e, hg'', _, hk''⟩ := hp2; exact absurd hk''.symm hne
        | goto l => exact hp2.elim
        | outgrown => exact hp2.elim
       | exit id => obtain ⟨ν', fr', st', hg', hk⟩ := hp; exact absurd hk.symm hne
       | ret => obtain ⟨ν', fr', st', hg', hk⟩ := hp; exact absurd hk.symm hne
       | panic ch => obtain ⟨ν', fr', st', e, hg', _, hk⟩ := hp; exact absurd hk.symm hne
       | goto l => exact hp.elim
       | outgrown => exact hp.elim
     rcases hrec c₀ cs hu with ⟨v, hv, rfl⟩ | ⟨hn, hnil, rfl⟩
     ·rw [hv]; exact main _ rfl
     ·rw [hn]
      have := main (c₀ :: cs) (by subst hu; rfl)
      rw [hnil] at this
      exact this
    ·rw [Bool.not_eq_true] at hc; rw [hc] at h; exact absurd h.symm hne
   ·exact absurd h.symm hne
  ·exact absurd h.symm hne
 ·exact absurd h.symm hne
theorem evFnD_sound (hT : tabChk P tab = true) (hC : CalOk P cal) (hM : P.follows .mixedOrders = true) {D : Dfs} (hD : DfsOk P D) (f : FuncId) (fn : Func) (hf : P.funcs[f]? = some fn) (nt : Notes) (k : Nat) {args : List SV} (ha : Nat.ble args.length fn.ntmps = true) {st : St} {K : SV → St → O T} {Kp : PV → St → O T} {ν : Nat → Value} {w : World} {b : Nat} (hbx : b ≤ st.nx)
  (hR : RelW S w0 ν st w) (hb : belowL st.nx args = true) {res : O T} (h : evFnD tab cal D fn nt k b args st K Kp = res) (hne : res ≠ .no) :
  Calls P f (denL ν args).toArray w (CalPostB b S w0 ν st w K Kp res) := by
 unfold evFnD at h
 cases hc : fn.body with
 | some c =>
  rw [show bodyOf fn = c by unfold bodyOf; rw [hc]] at h
  rw [hc] at h
  simp only [Option.isSome_some, ifb] at h
  refine calls_of_wp_defers hf hc ?_
  have ha := Nat.le_of_ble_eq_true ha
  have hg : Good S w0 ⟨ν, ⟨b, st.dirty, []⟩, w⟩ fn.ntmps ν ⟨argEnv args 0, [], b, []⟩ st { tmps := (denL ν args).toArray ++ Array.replicate (fn.ntmps - (denL ν args).toArray.size) undef, defers := [] } w := by
   refine ⟨hR, ⟨?_, ?_, rfl, rfl⟩, rfl, ⟨hbx, fun _ _ => rfl, id, Nat.le_refl _, fun _ _ _ => rfl⟩⟩
   ·simp [denL_length]; omega
   ·intro t v hv
    exact argEnv_get ν st.nx args 0 hb [] rfl _ t v hv
  refine wp_mono (ev_sound hT hC hM nt k hne c _ ν _ st _ w hg h) ?_
  have last : ∀ ν' fr st' (a : Act) w', Good S w0 ⟨ν, ⟨b, st.dirty, []⟩, w⟩ fn.ntmps ν' fr st' a w' → ∀ vs, resVals tab fr st' fn.results.toList = some vs → K (resVal vs) st' = res →
    ∃ v, (results fn a.tmps).run P w' = .ok v w' ∧ CalPostB b S w0 ν st w K Kp res (.returned v) w' := by
   intro ν' fr st' a w' hg' vs hvs hk
   have hr := results_run (P := P) hT hg' hvs
   exact ⟨_, hr.1, ν', st', resVal vs, hg'.rel, hg'.step, rfl, hr.2, hk⟩
  have clo : ∀ ν' fr st' (a : Act) w' (g : FuncId) (caps : List SV) (gn : Func) (nt' : Notes) (rv : SV) (u U : FrameMode), Good S w0 ⟨ν, ⟨b, st.dirty, []⟩, w⟩ fn.ntmps ν' fr st' a w' → fr.dfs = [.clo g caps] → lkp g D = some (gn, nt') → svLt st'.nx rv = true → u ≠ .run → Go.settle U = .returning →
    (∀ (c₀ : Frame) (cs : List Frame), c₀.mode = u → (∃ v, recoverD (c₀ :: cs) = some (v, { c₀ with mode := U } :: cs) ∧ v = den ν' rv) ∨ (recoverD (c₀ :: cs) = none ∧ den ν' rv = .nilIface ∧ U = u)) →
    evDef tab cal gn nt' k caps st' rv (resK tab fn.results.toList K fr) = res → Leaves P fn a.tmps (CalPostB b S w0 ν st w K Kp res) a.defers u w' := by
   intro ν' fr st' a w' g caps gn nt' rv u U hg' hdf hl hrv hrun hU hrec hk
   obtain ⟨hgf, hent⟩ := hD.get hl
   have hdlt := hg'.env.dlt
   rw [hdf] at hdlt
   simp only [belowL, svLt, Bool.and_true] at hdlt
   rw [hg'.env.dfs, hdf]
   refine leaves_cons (f := g) (args := (denL ν' caps).toArray) hrun (by simp [invoke, hent]) ?_
   refine (evDef_sound hT hC hM hgf nt' k hne hg'.rel hdlt hrv hrec hk).mono ?_
   rintro e u' w'' ⟨rfl, ⟨v, rfl⟩, ν'', st'', hR'', hs'', hk''⟩
   show Leaves P fn a.tmps _ [] (Go.settle u') w''
   rw [hU]
   unfold resK at hk''
   split at hk''
   ·rename_i vs hvs
    exact last ν'' fr st'' a w'' (hg'.next hR'' hs'') vs hvs hk''
   ·exact absurd hk''.symm hne
  have recRet : ∀ (ν' : Nat → Value) (c₀ : Frame) (cs : List Frame), c₀.mode = .returning → (∃ v, recoverD (c₀ :: cs) = some (v, { c₀ with mode := .returning } :: cs) ∧ v = den ν' .nili) ∨ (recoverD (c₀ :: cs) = none ∧ den ν' .nili = .nilIface ∧ FrameMode.returning = FrameMode.returning) := by
   intro ν' c₀ cs hm
   exact .inr ⟨by simp [recoverD, hm], rfl, rfl⟩
  intro e a w' hp
  cases e with
  | normal =>
   obtain ⟨ν', fr, st', hg', hk⟩ := hp
   unfold finD at hk
   split at hk
   ·rename_i hdf
    simp only [finK, hdf] at hk
    cases hvs : resVals tab fr st' fn.results.toList with
    | none => rw [hvs] at hk; exact absurd hk.symm hne
    | some vs =>
     rw [hvs] at hk
     show Leaves P fn a.tmps _ a.defers .returning w'
     rw [hg'.env.dfs, hdf]
     exact last ν' fr st' a w' hg' vs hvs hk
   ·rename_i g caps hdf
    split at hk
    ·rename_i gn nt' hl
     exact clo ν' fr st' a w' g caps gn nt' .nili .returning .returning hg' hdf hl rfl (by intro h; cases h) rfl (recRet ν') hk
    ·exact absurd hk.symm hne
   ·exact absurd hk.symm hne
  | ret =>
   obtain ⟨ν', fr, st', hg', hk⟩ := hp
   unfold finD at hk
   split at hk
   ·rename_i hdf
    simp only [finK, hdf] at hk
    cases hvs : resVals tab fr st' fn.results.toList with
    | none => rw [hvs] at hk; exact absurd hk.symm hne
    | some vs =>
     rw [hvs] at hk
     show Leaves P fn a.tmps _ a.defers .returning w'
     rw [hg'.env.dfs, hdf]
     exact last ν' fr st' a w' hg' vs hvs hk
   ·rename_i g caps hdf
    split at hk
    ·rename_i gn nt' hl
     exact clo ν' fr st' a w' g caps gn nt' .nili .returning .returning hg' hdf hl rfl (by intro h; cases h) rfl (recRet ν') hk
    ·exact absurd hk.symm hne
   ·exact absurd hk.symm hne
  | exit id =>
   obtain ⟨ν', fr, st', hg', hk⟩ := hp
   unfold finD at hk
   split at hk
   ·simp only [finK] at hk; exact absurd hk.symm hne
   ·split at hk <;> exact absurd hk.symm hne
   ·exact absurd hk.symm hne
  | panic ch =>
   obtain ⟨ν', fr, st', e, hg', rfl, hk⟩ := hp
   unfold finD at hk
   split at hk
   ·rename_i hdf
    simp only [finK, hdf] at hk
    show Leaves P fn a.tmps _ a.defers (.panicking (panOf e)) w'
    rw [hg'.env.dfs, hdf]
    exact ⟨ν', st', e, hg'.rel, hg'.step, rfl, hk⟩
   ·rename_i g caps hdf
    split at hk
    ·rename_i gn nt' hl
     refine clo ν' fr st' a w' g caps gn nt' (ofPV e) (.panicking (panOf e)) (.panicking [{ v := den (fun _ => .pointer none) (ofPV e), recovered := true }]) hg' hdf hl (ofPV_lt _ e) (by intro h; cases h) rfl ?_ hk
     intro c₀ cs hm
     exact .inl ⟨den (fun _ => .pointer none) (ofPV e), by simp [recoverD, hm, panOf], (den_ofPV ν' e).symm⟩
    ·exact absurd hk.symm hne
   ·exact absurd hk.symm hne
  | goto l => exact hp.elim
  | outgrown => exact hp.elim
 | none => rw [hc] at h; exact absurd h.symm hne
end
theorem FnOkC.of_evD {P : Program} {tab : Tab} (hT : tabChk P tab = true) {C : Ct} (hg : C.good = true) {cal : Cal (AltsT C.ob C.outs)} (hC : CalOk P cal) (hM : P.follows .mixedOrders = true) {D : Dfs} (hD : DfsOk P D) {f : FuncId} {fn : Func} (hf : P.funcs[f]? = some fn) (nt : Notes) (k : Nat)
  {S : C.as.T → ObT C.ob → O (AltsT C.ob C.outs)} (ha : ∀ x g, Nat.ble (giveAs (γ0 C) C.as x (startO C g).nx).1.length fn.ntmps = true)
  (h : ∀ x g, evFnD tab cal D fn nt k C.ob.length (giveAs (γ0 C) C.as x (startO C g).nx).1 ((startO C g).adds (giveAs (γ0 C) C.as x (startO C g).nx).2) (fun v st => outK C.ob (γ0 C) C.outs v st .ok) (fun e st => outP C.ob (γ0 C) C.outs e st .ok) = S x g) : FnOkC P f C S := by
 intro x g hne w vs α F0 Z hZ hO hnd hA
 obtain ⟨ν, hR, hden, hlt, hbx, hν⟩ := start_sound hg x g hZ hO hnd hA
 have hp : ∀ k, k < C.ob.length → ∃ b, α k = .pointer (some ⟨b, 0, none⟩) := fun k hk => repO_ptr hO k (Nat.zero_le _) (by omega)
 rw [← hden]
 refine (evFnD_sound hT hC hM hD f fn hf nt k (ha x g) hbx hR hlt (h x g) hne).mono ?_
 intro e w' hp'
 cases e with
 | returned v =>
  obtain ⟨ν', st', r, hR', hs, rfl, hrl, hk⟩ := hp'
  have hGT := gamT_start (ν' := ν') hp hν (fun j hj => hs.agree j hj)
  have hgl : ∀ k, k < (γ0 C).length → nth (γ0 C) k < st'.nx := fun k hk => by
   have hk' : k < C.ob.length := by simpa [γ0] using hk
   unfold γ0
   rw [nth_range hk']
   have h2 : C.ob.length ≤ st'.nx := hs.nx
   omega
  obtain ⟨z, h1, h2⟩ := outK_sound hR' (by simp [γ0]) hgl hGT hne r hrl C.outs _ hk
  exact ⟨z, h1.symm, hR'.keep, isAlt_mono h2 fun a y h => h.post⟩
 | panicked ch =>
  obtain ⟨ν', st', e, hR', hs, rfl, hk⟩ := hp'
  have hGT := gamT_start (ν' := ν') hp hν (fun j hj => hs.agree j hj)
  have hgl : ∀ k, k < (γ0 C).length → nth (γ0 C) k < st'.nx := fun k hk => by
   have hk' : k < C.ob.length := by simpa [γ0] using hk
   unfold γ0
   rw [nth_range hk']
   have h2 : C.ob.length ≤ st'.nx := hs.nx
   omega
  obtain ⟨z, h1, h2⟩ := outP_sound hR' (by simp [γ0]) hgl hGT hne e C.outs _ hk
  exact ⟨z, h1.symm, hR'.keep, isAlt_mono h2 fun a y h => h.post⟩
 | outgrown => exact hp'.elim
end Go.Aq
end
