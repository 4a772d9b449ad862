/- What is taken out of what is known, and given back: the evaluator is right. -/
import Derived.Test.YtpfddjdkafjjfaaGreatV12
namespace Go.Aq
open Go.RowKit (Below)
set_option linter.unusedVariables false

theorem RelW.part {S : Nat → Prop} {w0 : World} {ν : Nat → Value} {st : St} {w : World} (h : RelW S w0 ν st w) {H : Heap} (hs : ∀ j o, lkp j H = some o → lkp j st.H = some o) (d : Bool) : RelW S w0 ν ⟨st.nx, d, H⟩ w :=
  ⟨fun j o hj => h.sat j o (hs j o hj), fun j o hj => h.lt j o (hs j o hj), fun i j oi oj b hi hj => h.inj i j oi oj b (hs _ _ hi) (hs _ _ hj), fun j o b hj => h.mine j o b (hs _ _ hj), fun j o b hj => h.seen j o b (hs _ _ hj), h.os, h.tape, h.output, h.size, h.frame, fun j t f xs hj => h.tab j t f xs (hs _ _ hj)⟩
theorem Reads.sat {w : World} {v : Value} {ls : List Lf} {xs : List (LT ls)} (h : Reads w v ls xs) (t : TypeId) : RowSat w v false t ls xs := by
  rcases h with h | ⟨a, cap, e, hl, hc⟩
  · exact .inl h
  · refine .inr ⟨a, cap, e, hl, fun _ => ⟨hc, fun hx hls => ?_⟩, fun h => by cases h⟩
    have hp : 0 < (flat ls xs).length := by
      rw [flat_length]
      exact Nat.mul_pos (List.length_pos_iff.2 hx) (List.length_pos_iff.2 hls)
    have := hc 0 _ (List.getElem?_eq_getElem hp)
    rw [show a.add 0 = a from rfl] at this
    unfold World.cell? at this
    split at this
    · split at this
      · cases this
      · rename_i h; simpa using h
    · cases this
theorem hdr_row {v : Value} {n : Nat} (h : RowVal v n) : hdr v = v := by
  rcases h with ⟨rfl, _⟩ | ⟨_, _, rfl, _⟩ <;> rfl
/-- The block in which a slice's elements lie is that on which its looks hang. -/
theorem reads_on {w : World} {v : Value} {t : TypeId} {ls : List Lf} {xs : List (LT ls)} {c : Option Nat} (hls : ls ≠ []) (h : ∀ w', (∀ b, b < w.heap.size → c = some b → w'.heap[b]? = w.heap[b]?) → Reads w' v ls xs) :
    ∀ b, seenOf v (.row false t ls xs) = some b → c = some b := by
  intro b hb
  cases xs with
  | nil => simp [seenOf] at hb
  | cons x xs =>
    apply Decidable.byContradiction
    intro hc
    have hr := h { w with heap := w.heap.setIfInBounds b (.cells #[] 0 (0, 0)) } (fun b' hb' hc' => by
      have : b ≠ b' := fun e => hc (e ▸ hc')
      simp [this])
    rcases hr with ⟨e, hx⟩ | ⟨a, cap, e, hl, hcell⟩
    · cases hx
    · rw [e] at hb
      simp only [seenOf, Option.some.injEq] at hb
      subst hb
      have hp : 0 < (flat ls (x :: xs)).length := by
        rw [flat_length]
        exact Nat.mul_pos (by simp) (List.length_pos_iff.2 hls)
      have := hcell 0 _ (List.getElem?_eq_getElem hp)
      rw [show a.add 0 = a from rfl] at this
      unfold World.cell? at this
      split at this
      · rename_i cs t' fz hcs
        have hcs' : (w.heap.setIfInBounds a.block (.cells #[] 0 (0, 0)))[a.block]? = some (.cells cs t' fz) := by assumption
        by_cases hin : a.block < w.heap.size
        · simp [hin] at hcs'
          obtain ⟨rfl, _⟩ := hcs'
          simp at this
        · simp [hin] at hcs'
      · cases this

section
variable {β : Type} {S : Nat → Prop} {w0 : World} {ν : Nat → Value} {st : St} {w : World}
/-- What is taken is there. -/
def Taken (ν : Nat → Value) (H H' : Heap) (F : List Nat) : Prop :=
  (∀ j o, lkp j H' = some o → lkp j H = some o) ∧ F.Nodup ∧ ∀ b ∈ F, ∃ j o, lkp j H = some o ∧ lkp j H' = none ∧ mineOf (ν j) o = some b
theorem Taken.refl (ν : Nat → Value) (H : Heap) : Taken ν H H [] := ⟨fun _ _ h => h, List.nodup_nil, fun b hb => by cases hb⟩
theorem Taken.trans {H H' H'' : Heap} {F F' : List Nat} (hR : RelW S w0 ν st w) (hs : ∀ j o, lkp j H = some o → lkp j st.H = some o) (h : Taken ν H H' F) (k : Taken ν H' H'' F') : Taken ν H H'' (F ++ F') := by
  refine ⟨fun j o hj => h.1 j o (k.1 j o hj), ?_, ?_⟩
  · rw [List.nodup_append]
    refine ⟨h.2.1, k.2.1, fun b hb b' hb' e => ?_⟩
    subst e
    obtain ⟨j, o, h1, h2, h3⟩ := h.2.2 b hb
    obtain ⟨j', o', k1, k2, k3⟩ := k.2.2 b hb'
    have := hR.inj j j' o o' b (hs _ _ h1) (hs _ _ (h.1 _ _ k1)) h3 k3
    subst this
    rw [h2] at k1; cases k1
  · intro b hb
    rcases List.mem_append.1 hb with hb | hb
    · obtain ⟨j, o, h1, h2, h3⟩ := h.2.2 b hb
      refine ⟨j, o, h1, ?_, h3⟩
      cases hq : lkp j H'' with
      | none => rfl
      | some q => rw [k.1 j q hq] at h2; cases h2
    · obtain ⟨j', o', k1, k2, k3⟩ := k.2.2 b hb
      exact ⟨j', o', h.1 _ _ k1, k2, k3⟩
theorem Taken.sub {H H' : Heap} {F : List Nat} (h : Taken ν H H' F) (hs : ∀ j o, lkp j H = some o → lkp j st.H = some o) : ∀ j o, lkp j H' = some o → lkp j st.H = some o := fun j o hj => hs j o (h.1 j o hj)
/-- Where looks may hang. -/
def Hangs (S : Nat → Prop) (w0 : World) (ν : Nat → Value) (H : Heap) (Av : Nat → Prop) : Prop := (∀ j o b, lkp j H = some o → onOf (ν j) o = some b → Av b) ∧ ∀ b, b < w0.heap.size → ¬ S b → Av b
theorem Hangs.sub {H H' : Heap} {F : List Nat} {Av : Nat → Prop} (h : Hangs S w0 ν H Av) (t : Taken ν H H' F) : Hangs S w0 ν H' Av := ⟨fun j o b hj hb => h.1 j o b (t.1 j o hj) hb, h.2⟩

theorem row_sound {α : Nat → Value} {Av : Nat → Prop} (hR : RelW S w0 ν st w) {res : O β} (hne : res ≠ .no) (own : Bool) (t : TypeId) (ls : List Lf) (v : SV) (H : Heap) (K : List (LT ls) → Heap → O β) (hs : ∀ j o, lkp j H = some o → lkp j st.H = some o) (hA : Hangs S w0 ν H Av) (h : takeRow own t ls v H K = res) :
    ∃ x H' F, K x H' = res ∧ repS w α Av (.row own t ls) x [den ν v] F ∧ Taken ν H H' F := by
  unfold takeRow at h
  split at h
  · by_cases hl : (!ls.isEmpty) = true
    · rw [hl, ifb_true] at h
      refine ⟨[], H, [], h, ⟨_, rfl, ?_, .inl ⟨rfl, rfl⟩, ?_, ?_⟩, Taken.refl ν H⟩
      · rintro rfl; simp at hl
      · cases own <;> rfl
      · intro b hb; cases own <;> simp [seenOf] at hb
    · rw [Bool.not_eq_true] at hl; rw [hl] at h; exact absurd h.symm hne
  · rename_i hnn
    split at h
    · split at h
      · rename_i j
        split at h
        · rename_i t' ls' xs' hj
          by_cases ht : Nat.beq t t' = true
          · rw [ht, ifb_true] at h
            obtain rfl := Nat.eq_of_beq_eq_true ht
            split at h
            · rename_i xs hxs
              obtain ⟨e, hxs⟩ := castL_of hxs
              subst e
              simp only at hxs
              subst hxs
              have hsat := hR.sat j _ (hs j _ hj)
              have hd : den ν (.osl j) = ν j := by simp only [den]; exact hdr_row (hsat.2.rowVal hsat.1)
              refine ⟨xs, del j H, _, h, ⟨ν j, by rw [hd], hsat.1, hsat.2, rfl, fun b hb => by simp [seenOf] at hb⟩, fun i o hi => (lkp_del_some hi).2, ?_, fun b hb => ⟨j, _, hj, by rw [lkp_del, if_pos rfl], ?_⟩⟩
              · cases mineOf (ν j) (.row true t ls' xs) <;> simp
              · simpa using hb
            · exact absurd h.symm hne
          · rw [Bool.not_eq_true] at ht; rw [ht] at h; exact absurd h.symm hne
        · exact absurd h.symm hne
      · exact absurd h.symm hne
    · obtain ⟨j, o, ls', t', xs', hk, hls, hj, _, hrd⟩ := evList_reads (hR.part hs st.dirty) h hne
      split at hk
      · rename_i xs hxs
        obtain ⟨e, hxs⟩ := castL_of hxs
        subst e
        simp only at hxs
        subst hxs
        refine ⟨xs, H, [], hk, ⟨_, rfl, hls, (hrd w fun _ _ _ => rfl).sat t, rfl, fun b hb => ?_⟩, Taken.refl ν H⟩
        exact hA.1 j o b hj (reads_on hls (fun w' hw => hrd w' hw) b hb)
      · exact absurd hk.symm hne

theorem castM_of {kl vl kl' vl' : List Lf} {es : List (LT kl × LT vl)} {es' : List (LT kl' × LT vl')} (h : castM kl vl kl' vl' es = some es') : ∃ (a : kl = kl') (b : vl = vl'), es' = a ▸ b ▸ es := by
  unfold castM at h
  split at h
  · split at h
    · cases h; exact ⟨by assumption, by assumption, rfl⟩
    · cases h
  · cases h
theorem map_sound {α : Nat → Value} {Av : Nat → Prop} (hR : RelW S w0 ν st w) {res : O β} (hne : res ≠ .no) (t : TypeId) (ka va : Bool) (kl vl : List Lf) (v : SV) (H : Heap) (K : List (LT kl × LT vl) → Heap → O β) (hs : ∀ j o, lkp j H = some o → lkp j st.H = some o) (h : takeMap t ka va kl vl v H K = res) :
    ∃ x H' F, K x H' = res ∧ repS w α Av (.map t ka va kl vl) x [den ν v] F ∧ Taken ν H H' F := by
  unfold takeMap at h
  split at h
  · rename_i j
    split at h
    · rename_i t' ka' va' kl' vl' es' hj
      by_cases ht : (Nat.beq t t' && sameB ka ka' && sameB va va') = true
      · rw [ht, ifb_true] at h
        simp only [Bool.and_eq_true] at ht
        obtain rfl := Nat.eq_of_beq_eq_true ht.1.1
        obtain rfl := sameB_eq ht.1.2
        obtain rfl := sameB_eq ht.2
        split at h
        · rename_i es hes
          obtain ⟨e1, e2, hes⟩ := castM_of hes
          subst e1; subst e2
          simp only at hes
          subst hes
          have hsat := hR.sat j _ (hs j _ hj)
          obtain ⟨b, hb, hm⟩ := hsat
          refine ⟨es, del j H, [b], h, ⟨b, by simp only [den, hb]; rfl, hm, rfl⟩, fun i o hi => (lkp_del_some hi).2, by simp, fun c hc => ⟨j, _, hj, by rw [lkp_del, if_pos rfl], ?_⟩⟩
          rw [List.mem_singleton] at hc
          subst hc
          rw [hb]; rfl
        · exact absurd h.symm hne
      · rw [Bool.not_eq_true] at ht; rw [ht] at h; exact absurd h.symm hne
    · exact absurd h.symm hne
  · exact absurd h.symm hne
theorem castT_of {f f' : Shs} {xs : List f.T} {xs' : List f'.T} (h : castT f f' xs = some xs') : ∃ e : f = f', xs' = e ▸ xs := by
  unfold castT at h
  split at h
  · rename_i hb
    cases h
    exact ⟨Shs.beq_eq hb, rfl⟩
  · cases h
theorem tab_sound {α : Nat → Value} {Av : Nat → Prop} (hR : RelW S w0 ν st w) {res : O β} (hne : res ≠ .no) (t : TypeId) (f : Shs) (v : SV) (H : Heap) (K : List f.T → Heap → O β) (hs : ∀ j o, lkp j H = some o → lkp j st.H = some o) (hA : Hangs S w0 ν H Av) (h : takeTab t f v H K = res) :
    ∃ x H' F, K x H' = res ∧ repS w α Av (.tab t f) x [den ν v] F ∧ Taken ν H H' F := by
  unfold takeTab at h
  split at h
  · exact ⟨[], H, [], h, ⟨_, rfl, rfl, .inl ⟨by simp only [den], rfl⟩⟩, Taken.refl ν H⟩
  · rename_i j
    split at h
    · rename_i t' f' xs' hj
      by_cases ht : Nat.beq t t' = true
      · rw [ht, ifb_true] at h
        split at h
        · rename_i xs hxs
          obtain ⟨e, hxs⟩ := castT_of hxs
          subst e
          simp only at hxs
          subst hxs
          have hsat := hR.tab j _ _ _ (hs j _ hj)
          refine ⟨xs, H, [], h, ⟨_, rfl, rfl, ?_⟩, Taken.refl ν H⟩
          simp only [den]
          rw [hsat.hdr]
          exact hsat.mono (fun b hb => hR.frame b hb.1 hb.2) (fun b hb => hA.2 b hb.1 hb.2)
        · exact absurd h.symm hne
      · rw [Bool.not_eq_true] at ht; rw [ht] at h; exact absurd h.symm hne
    · exact absurd h.symm hne
  · exact absurd h.symm hne
theorem leaf_sound {α : Nat → Value} {Av : Nat → Prop} {res : O β} (hne : res ≠ .no) (l : Lf) (v : SV) (H : Heap) (K : l.T → Heap → O β) (h : (match l.dec v with | some x => K x H | none => .no) = res) :
    ∃ x H' F, K x H' = res ∧ repS w α Av (.leaf l) x [den ν v] F ∧ Taken ν H H' F := by
  split at h
  · rename_i x hx
    refine ⟨x, H, [], h, ⟨?_, rfl⟩, Taken.refl ν H⟩
    rw [lf_dec hx]
    rw [den_congr (n := 0) (ν := ν) (ν' := ν0) (fun j hj => absurd hj (Nat.not_lt_zero j)) _ (lf_enc_lt 0 l x)]
  · exact absurd h.symm hne
/-- The objects' places, as their names have them. -/
def GamT (γ : List Nat) (α ν : Nat → Value) : Prop := ∀ k, k < γ.length → den ν (.ptr (nth γ k) 0) = α k
theorem pin_sound {γ : List Nat} {α : Nat → Value} (hG : GamT γ α ν) {p : Pin} {v : SV} (h : pinOk γ p v = true) : den ν v = pinD α p := by
  unfold pinOk at h
  split at h
  · rename_i k j
    simp only [Bool.and_eq_true] at h
    rw [Nat.eq_of_beq_eq_true h.2]
    exact hG k (Nat.le_of_ble_eq_true h.1)
  · simp [den, pinD]
  · cases h
theorem pins_sound {γ : List Nat} {α : Nat → Value} (hG : GamT γ α ν) : ∀ {ps : List Pin} {vs : List SV}, pinsOk γ ps vs = true → denL ν vs = ps.map (pinD α)
  | [], [], _ => rfl
  | p :: ps, v :: vs, h => by
    simp only [pinsOk, Bool.and_eq_true] at h
    simp only [denL, List.map_cons, pin_sound hG h.1, pins_sound hG h.2]
  | [], _ :: _, h => by cases h
  | _ :: _, [], h => by cases h
mutual
theorem takeS_sound {γ : List Nat} {α : Nat → Value} {Av : Nat → Prop} (hR : RelW S w0 ν st w) (hG : GamT γ α ν) {res : O β} (hne : res ≠ .no) : ∀ (s : Sh) (cs : List SV) (H : Heap) (K : s.T → Heap → O β), (∀ j o, lkp j H = some o → lkp j st.H = some o) → Hangs S w0 ν H Av → takeS γ s cs H K = res →
    ∃ x H' F, K x H' = res ∧ repS w α Av s x (denL ν cs) F ∧ Taken ν H H' F
  | .leaf l, [v], H, K, hs, hA, h => leaf_sound hne l v H K h
  | .leaf l, [], H, K, hs, hA, h => by unfold takeS at h; exact absurd h.symm hne
  | .leaf l, _ :: _ :: _, H, K, hs, hA, h => by unfold takeS at h; exact absurd h.symm hne
  | .row own t ls, [v], H, K, hs, hA, h => row_sound hR hne own t ls v H K hs hA h
  | .row own t ls, [], H, K, hs, hA, h => by unfold takeS at h; exact absurd h.symm hne
  | .row own t ls, _ :: _ :: _, H, K, hs, hA, h => by unfold takeS at h; exact absurd h.symm hne
  | .map t ka va kl vl, [v], H, K, hs, hA, h => map_sound hR hne t ka va kl vl v H K hs h
  | .map t ka va kl vl, [], H, K, hs, hA, h => by unfold takeS at h; exact absurd h.symm hne
  | .map t ka va kl vl, _ :: _ :: _, H, K, hs, hA, h => by unfold takeS at h; exact absurd h.symm hne
  | .tab t f, [v], H, K, hs, hA, h => tab_sound hR hne t f v H K hs hA h
  | .tab t f, [], H, K, hs, hA, h => by unfold takeS at h; exact absurd h.symm hne
  | .tab t f, _ :: _ :: _, H, K, hs, hA, h => by unfold takeS at h; exact absurd h.symm hne
  | .agg f, cs, H, K, hs, hA, h => by unfold takeS at h; exact takeF_sound hR hG hne f cs H K hs hA h
theorem takeF_sound {γ : List Nat} {α : Nat → Value} {Av : Nat → Prop} (hR : RelW S w0 ν st w) (hG : GamT γ α ν) {res : O β} (hne : res ≠ .no) : ∀ (f : Shs) (cs : List SV) (H : Heap) (K : f.T → Heap → O β), (∀ j o, lkp j H = some o → lkp j st.H = some o) → Hangs S w0 ν H Av → takeF γ f cs H K = res →
    ∃ x H' F, K x H' = res ∧ repF w α Av f x (denL ν cs) F ∧ Taken ν H H' F
  | .one s ps, cs, H, K, hs, hA, h => by
    unfold takeF at h
    by_cases hp : pinsOk γ ps (cs.drop s.sz) = true
    · rw [hp, ifb_true] at h
      obtain ⟨x, H', F, h1, h2, h3⟩ := takeS_sound hR hG hne s _ H K hs hA h
      refine ⟨x, H', F, h1, ⟨_, ?_, h2⟩, h3⟩
      rw [← pins_sound hG hp, ← denL_append, List.take_append_drop]
    · rw [Bool.not_eq_true] at hp; rw [hp] at h; exact absurd h.symm hne
  | .cons s r, cs, H, K, hs, hA, h => by
    unfold takeF at h
    obtain ⟨x, H1, F1, h1, r1, t1⟩ := takeS_sound hR hG hne s _ H _ hs hA h
    obtain ⟨y, H2, F2, h2, r2, t2⟩ := takeF_sound hR hG hne r _ H1 _ (t1.sub hs) (hA.sub t1) h1
    refine ⟨(x, y), H2, F1 ++ F2, h2, ⟨_, _, F1, F2, ?_, rfl, r1, r2⟩, t1.trans hR hs t2⟩
    rw [← denL_append, List.take_append_drop]
  | .pin p r, [], H, K, hs, hA, h => by unfold takeF at h; exact absurd h.symm hne
  | .pin p r, v :: cs, H, K, hs, hA, h => by
    unfold takeF at h
    by_cases hp : pinOk γ p v = true
    · rw [hp, ifb_true] at h
      obtain ⟨x, H', F, h1, h2, h3⟩ := takeF_sound hR hG hne r cs H K hs hA h
      exact ⟨x, H', F, h1, ⟨_, by simp only [denL, pin_sound hG hp], h2⟩, h3⟩
    · rw [Bool.not_eq_true] at hp; rw [hp] at h; exact absurd h.symm hne
  | .pins ps, cs, H, K, hs, hA, h => by
    unfold takeF at h
    by_cases hp : pinsOk γ ps cs = true
    · rw [hp, ifb_true] at h
      exact ⟨(), H, [], h, ⟨pins_sound hG hp, rfl⟩, Taken.refl ν H⟩
    · rw [Bool.not_eq_true] at hp; rw [hp] at h; exact absurd h.symm hne
end
theorem takeV_sound {γ : List Nat} {α : Nat → Value} {Av : Nat → Prop} (hR : RelW S w0 ν st w) (hG : GamT γ α ν) {res : O β} (hne : res ≠ .no) (s : Sh) (v : SV) (H : Heap) (K : s.T → Heap → O β) (hs : ∀ j o, lkp j H = some o → lkp j st.H = some o) (hA : Hangs S w0 ν H Av) (h : takeV γ s v H K = res) :
    ∃ x H' F, K x H' = res ∧ repV w α Av s x (den ν v) F ∧ Taken ν H H' F := by
  cases s with
  | leaf l =>
    obtain ⟨x, H', F, h1, h2, h3⟩ := leaf_sound (ν := ν) (w := w) (α := α) (Av := Av) hne l v H K h
    exact ⟨x, H', F, h1, ⟨_, h2, rfl⟩, h3⟩
  | row own t ls =>
    obtain ⟨x, H', F, h1, h2, h3⟩ := row_sound (α := α) hR hne own t ls v H K hs hA h
    exact ⟨x, H', F, h1, ⟨_, h2, rfl⟩, h3⟩
  | map t ka va kl vl =>
    obtain ⟨x, H', F, h1, h2, h3⟩ := map_sound (α := α) (Av := Av) hR hne t ka va kl vl v H K hs h
    exact ⟨x, H', F, h1, ⟨_, h2, rfl⟩, h3⟩
  | tab t f =>
    obtain ⟨x, H', F, h1, h2, h3⟩ := tab_sound (α := α) (Av := Av) hR hne t f v H K hs hA h
    exact ⟨x, H', F, h1, ⟨_, h2, rfl⟩, h3⟩
  | agg f =>
    cases v with
    | agg cs =>
      obtain ⟨x, H', F, h1, h2, h3⟩ := takeF_sound hR hG hne f cs H K hs hA h
      exact ⟨x, H', F, h1, ⟨denL ν cs, h2, by simp [den, valIs]⟩, h3⟩
    | _ => exact absurd h.symm hne
theorem takeA_sound {γ : List Nat} {α : Nat → Value} {Av : Nat → Prop} (hR : RelW S w0 ν st w) (hG : GamT γ α ν) {res : O β} (hne : res ≠ .no) : ∀ (f : Shs) (vs : List SV) (H : Heap) (K : f.T → Heap → O β), (∀ j o, lkp j H = some o → lkp j st.H = some o) → Hangs S w0 ν H Av → takeA γ f vs H K = res →
    ∃ x H' F, K x H' = res ∧ repA w α Av f x (denL ν vs) F ∧ Taken ν H H' F
  | .one s ps, [], H, K, hs, hA, h => by unfold takeA at h; exact absurd h.symm hne
  | .one s ps, v :: vs, H, K, hs, hA, h => by
    unfold takeA at h
    by_cases hp : pinsOk γ ps vs = true
    · rw [hp, ifb_true] at h
      obtain ⟨x, H', F, h1, h2, h3⟩ := takeV_sound hR hG hne s v H K hs hA h
      exact ⟨x, H', F, h1, ⟨_, by simp only [denL, pins_sound hG hp], h2⟩, h3⟩
    · rw [Bool.not_eq_true] at hp; rw [hp] at h; exact absurd h.symm hne
  | .cons s r, [], H, K, hs, hA, h => by unfold takeA at h; exact absurd h.symm hne
  | .cons s r, v :: vs, H, K, hs, hA, h => by
    unfold takeA at h
    obtain ⟨x, H1, F1, h1, r1, t1⟩ := takeV_sound hR hG hne s v H _ hs hA h
    obtain ⟨y, H2, F2, h2, r2, t2⟩ := takeA_sound hR hG hne r vs H1 _ (t1.sub hs) (hA.sub t1) h1
    exact ⟨(x, y), H2, F1 ++ F2, h2, ⟨_, _, F1, F2, by simp only [denL], rfl, r1, r2⟩, t1.trans hR hs t2⟩
  | .pin p r, [], H, K, hs, hA, h => by unfold takeA at h; exact absurd h.symm hne
  | .pin p r, v :: vs, H, K, hs, hA, h => by
    unfold takeA at h
    by_cases hp : pinOk γ p v = true
    · rw [hp, ifb_true] at h
      obtain ⟨x, H', F, h1, h2, h3⟩ := takeA_sound hR hG hne r vs H K hs hA h
      exact ⟨x, H', F, h1, ⟨_, by simp only [denL, pin_sound hG hp], h2⟩, h3⟩
    · rw [Bool.not_eq_true] at hp; rw [hp] at h; exact absurd h.symm hne
  | .pins ps, vs, H, K, hs, hA, h => by
    unfold takeA at h
    by_cases hp : pinsOk γ ps vs = true
    · rw [hp, ifb_true] at h
      exact ⟨(), H, [], h, ⟨pins_sound hG hp, rfl⟩, Taken.refl ν H⟩
    · rw [Bool.not_eq_true] at hp; rw [hp] at h; exact absurd h.symm hne
end

/-! ### Objects -/
abbrev Obs := List (TypeId × Shs)
def ObT : Obs → Type
  | [] => Unit
  | [o] => o.2.T
  | o :: p :: os => o.2.T × ObT (p :: os)
def St.set (st : St) (j : Nat) (o : HO) : St := ⟨st.nx, st.dirty, (j, o) :: st.H⟩
/-- An object under a name that it has already. -/
def giveOb (γ : List Nat) (j : Nat) (o : TypeId × Shs) (x : o.2.T) (st : St) : St := (st.adds (giveF γ o.2 x st.nx).2).set j (.cells o.1 (giveF γ o.2 x st.nx).1)
def giveO (γ : List Nat) : (i : Nat) → (os : Obs) → ObT os → St → St
  | _, [], _, st => st
  | i, [o], x, st => giveOb γ (nth γ i) o x st
  | i, o :: p :: os, x, st => giveO γ (Nat.succ i) (p :: os) x.2 (giveOb γ (nth γ i) o x.1 st)
noncomputable def takeOb {β : Type} (γ : List Nat) (j : Nat) (o : TypeId × Shs) (H : Heap) (K : o.2.T → Heap → O β) : O β :=
  match lkp j H with
  | some (.cells T vs) => ifb (Nat.beq o.1 T) (takeF γ o.2 vs (del j H) K) .no
  | _ => .no
noncomputable def takeO {β : Type} (γ : List Nat) : (i : Nat) → (os : Obs) → Heap → (ObT os → Heap → O β) → O β
  | _, [], H, K => K () H
  | i, [o], H, K => takeOb γ (nth γ i) o H K
  | i, o :: p :: os, H, K => takeOb γ (nth γ i) o H fun x H => takeO γ (Nat.succ i) (p :: os) H fun y H => K (x, y) H
def repOb (w : World) (α : Nat → Value) (Av : Nat → Prop) (o : TypeId × Shs) (x : o.2.T) (a : Value) (F : List Nat) : Prop :=
  ∃ b cs F', a = .pointer (some ⟨b, 0, none⟩) ∧ w.heap[b]? = some (.cells cs.toArray o.1 (0, 0)) ∧ repF w α Av o.2 x cs F' ∧ F = b :: F'
def repO (w : World) (α : Nat → Value) (Av : Nat → Prop) : (i : Nat) → (os : Obs) → ObT os → List Nat → Prop
  | _, [], _, F => F = []
  | i, [o], x, F => repOb w α Av o x (α i) F
  | i, o :: p :: os, x, F => ∃ F1 F2, F = F1 ++ F2 ∧ repOb w α Av o x.1 (α i) F1 ∧ repO w α Av (Nat.succ i) (p :: os) x.2 F2
def obsFresh : Obs → Bool
  | [] => true
  | o :: os => o.2.fresh && obsFresh os
def obsLt (n : Nat) : Obs → Bool
  | [] => true
  | o :: os => o.2.lt n && obsLt n os

section
variable {β : Type} {S : Nat → Prop} {w0 : World} {ν : Nat → Value} {st : St} {w : World} {γ : List Nat} {α : Nat → Value} {Av : Nat → Prop}
theorem takeOb_sound (hR : RelW S w0 ν st w) (hG : GamT γ α ν) {res : O β} (hne : res ≠ .no) {i : Nat} (hi : i < γ.length) (o : TypeId × Shs) (H : Heap) (K : o.2.T → Heap → O β) (hs : ∀ j o, lkp j H = some o → lkp j st.H = some o) (hA : Hangs S w0 ν H Av) (h : takeOb γ (nth γ i) o H K = res) :
    ∃ x H' F, K x H' = res ∧ repOb w α Av o x (α i) F ∧ Taken ν H H' F := by
  unfold takeOb at h
  split at h
  · rename_i T vs hj
    by_cases hc : Nat.beq o.1 T = true
    · rw [hc, ifb_true] at h
      obtain ⟨b, hb, hcell⟩ := hR.sat _ _ (hs _ _ hj)
      have hα : α i = .pointer (some ⟨b, 0, none⟩) := by rw [← hG i hi]; simp only [den]; rw [hb]; rfl
      have t1 : Taken ν H (del (nth γ i) H) [b] := ⟨fun i o hi => (lkp_del_some hi).2, by simp, fun c hc => by
        rw [List.mem_singleton] at hc; subst hc
        exact ⟨_, _, hj, by rw [lkp_del, if_pos rfl], by rw [hb]; rfl⟩⟩
      obtain ⟨x, H', F, h1, h2, h3⟩ := takeF_sound hR hG hne o.2 vs _ K (t1.sub hs) (hA.sub t1) h
      refine ⟨x, H', b :: F, h1, ⟨b, denL ν vs, F, hα, ?_, h2, rfl⟩, t1.trans hR hs h3⟩
      rw [Nat.eq_of_beq_eq_true hc]; exact hcell
    · rw [Bool.not_eq_true] at hc; rw [hc] at h; exact absurd h.symm hne
  · exact absurd h.symm hne
theorem takeO_sound (hR : RelW S w0 ν st w) (hG : GamT γ α ν) {res : O β} (hne : res ≠ .no) : ∀ (os : Obs) (i : Nat), i + os.length ≤ γ.length → ∀ (H : Heap) (K : ObT os → Heap → O β), (∀ j o, lkp j H = some o → lkp j st.H = some o) → Hangs S w0 ν H Av → takeO γ i os H K = res →
    ∃ x H' F, K x H' = res ∧ repO w α Av i os x F ∧ Taken ν H H' F
  | [], i, hi, H, K, hs, hA, h => ⟨(), H, [], h, rfl, Taken.refl ν H⟩
  | [o], i, hi, H, K, hs, hA, h => takeOb_sound hR hG hne (by simp only [List.length_cons, List.length_nil] at hi; omega) o H K hs hA h
  | o :: p :: os, i, hi, H, K, hs, hA, h => by
    unfold takeO at h
    simp only [List.length_cons] at hi
    obtain ⟨x, H1, F1, h1, r1, t1⟩ := takeOb_sound hR hG hne (by omega) o H _ hs hA h
    obtain ⟨y, H2, F2, h2, r2, t2⟩ := takeO_sound hR hG hne (p :: os) (Nat.succ i) (by simp only [List.length_cons]; omega) H1 _ (t1.sub hs) (hA.sub t1) h1
    exact ⟨(x, y), H2, F1 ++ F2, h2, ⟨F1, F2, rfl, r1, r2⟩, t1.trans hR hs t2⟩

/-- A name is given a place's cells. -/
theorem RelW.set (h : RelW S w0 ν st w) {j b : Nat} {T : TypeId} {vs : List SV} (hj : j < st.nx) (hb : ν j = .pointer (some ⟨b, 0, none⟩)) (hc : w.heap[b]? = some (.cells (denL ν vs).toArray T (0, 0))) (hl : belowL st.nx vs = true)
    (hS : S b ∨ w0.heap.size ≤ b) (ha : ∀ i o, lkp i st.H = some o → mineOf (ν i) o ≠ some b) : RelW S w0 ν (st.set j (.cells T vs)) w := by
  have hlk : ∀ i q, lkp i (st.set j (.cells T vs)).H = some q → (i = j ∧ q = .cells T vs) ∨ (i ≠ j ∧ lkp i st.H = some q) := by
    intro i q hq
    simp only [St.set, lkp_cons] at hq
    split at hq
    · rename_i e; subst e; cases hq; exact .inl ⟨rfl, rfl⟩
    · rename_i e; exact .inr ⟨fun e' => e e'.symm, hq⟩
  have hm : mineOf (ν j) (.cells T vs) = some b := by rw [hb]; rfl
  refine ⟨?_, ?_, ?_, ?_, ?_, h.os, h.tape, h.output, h.size, h.frame, fun i t f xs hq => ?_⟩
  · intro i q hq
    rcases hlk i q hq with ⟨rfl, rfl⟩ | ⟨_, h'⟩
    · exact ⟨b, hb, hc⟩
    · exact h.sat i q h'
  · intro i q hq
    rcases hlk i q hq with ⟨rfl, rfl⟩ | ⟨_, h'⟩
    · exact ⟨hj, hl⟩
    · exact h.lt i q h'
  · intro i k oi ok c hi hk hbi hbk
    rcases hlk i oi hi with ⟨rfl, rfl⟩ | ⟨_, h'⟩ <;> rcases hlk k ok hk with ⟨rfl, rfl⟩ | ⟨_, h''⟩
    · rfl
    · rw [hm] at hbi; cases hbi; exact (ha k ok h'' hbk).elim
    · rw [hm] at hbk; cases hbk; exact (ha i oi h' hbi).elim
    · exact h.inj i k oi ok c h' h'' hbi hbk
  · intro i q c hq hcq
    rcases hlk i q hq with ⟨rfl, rfl⟩ | ⟨_, h'⟩
    · rw [hm] at hcq; cases hcq; exact hS
    · exact h.mine i q c h' hcq
  · intro i q c hq hcq
    rcases hlk i q hq with ⟨rfl, rfl⟩ | ⟨_, h'⟩
    · simp [seenOf] at hcq
    · exact h.seen i q c h' hcq
  · rcases hlk i _ hq with ⟨_, e⟩ | ⟨_, h'⟩
    · cases e
    · exact h.tab i t f xs h'
/-- What follows of objects given. -/
def GivenS (S : Nat → Prop) (w0 : World) (w : World) (ν : Nat → Value) (st : St) (F : List Nat) (st' : St) (ν' : Nat → Value) : Prop :=
  RelW S w0 ν' st' w ∧ st.nx ≤ st'.nx ∧ st'.dirty = st.dirty ∧ (∀ j, j < st.nx → ν j = ν' j) ∧
    (∀ j o b, lkp j st'.H = some o → mineOf (ν' j) o = some b → (∃ o', lkp j st.H = some o' ∧ mineOf (ν j) o' = some b) ∨ b ∈ F)
theorem GivenS.refl (hR : RelW S w0 ν st w) (F : List Nat) : GivenS S w0 w ν st F st ν := ⟨hR, Nat.le_refl _, rfl, fun _ _ => rfl, fun j o b hj hb => .inl ⟨o, hj, hb⟩⟩
theorem GivenS.trans {ν1 ν2 : Nat → Value} {st1 st2 : St} {F1 F2 : List Nat} (h : GivenS S w0 w ν st F1 st1 ν1) (k : GivenS S w0 w ν1 st1 F2 st2 ν2) : GivenS S w0 w ν st (F1 ++ F2) st2 ν2 := by
  refine ⟨k.1, Nat.le_trans h.2.1 k.2.1, k.2.2.1.trans h.2.2.1, fun j hj => (h.2.2.2.1 j hj).trans (k.2.2.2.1 j (Nat.lt_of_lt_of_le hj h.2.1)), ?_⟩
  intro j o b hj hb
  rcases k.2.2.2.2 j o b hj hb with ⟨o', ho', hm⟩ | hm
  · rcases h.2.2.2.2 j o' b ho' hm with h | h
    · exact .inl h
    · exact .inr (by simp [h])
  · exact .inr (by simp [hm])
theorem Given.toS {ν' : Nat → Value} {F : List Nat} {os : List HO} (h : Given S w0 w ν st F os ν') : GivenS S w0 w ν st F (st.adds os) ν' := ⟨h.1, by rw [adds_nx]; omega, adds_dirty os st, h.2.1, h.2.2⟩
theorem Free.rightS {ν1 : Nat → Value} {st1 : St} {F1 F2 : List Nat} (h : Free S w0 ν st (F1 ++ F2)) (g : GivenS S w0 w ν st F1 st1 ν1) : Free S w0 ν1 st1 F2 := by
  have hnd := List.nodup_append.1 h.nodup
  refine ⟨hnd.2.1, fun b hb => h.mine b (by simp [hb]), fun b hb j o hj hb' => ?_⟩
  rcases g.2.2.2.2 j o b hj hb' with ⟨o', ho', hm⟩ | hm
  · exact h.apart b (by simp [hb]) j o' ho' hm
  · exact hnd.2.2 b hm b hb rfl
theorem giveOb_sound {n : Nat} {i : Nat} (hi : i < n) (o : TypeId × Shs) (x : o.2.T) (F : List Nat) (hR : RelW S w0 ν st w) (hr : repOb w α Av o x (α i) F) (hF : Free S w0 ν st F) (hG : Gam γ n α ν st.nx) (hl : o.2.lt n = true) (hv : o.2.fresh = true ∨ ∀ b, Av b → b < w0.heap.size ∧ ¬ S b) :
    ∃ ν', GivenS S w0 w ν st F (giveOb γ (nth γ i) o x st) ν' := by
  obtain ⟨b, cs, F', ha, hc, hrep, rfl⟩ := hr
  have hF' : Free S w0 ν st F' := ⟨(List.nodup_cons.1 hF.nodup).2, fun c hc => hF.mine c (by simp [hc]), fun c hc => hF.apart c (by simp [hc])⟩
  obtain ⟨ν', g, h2, h3⟩ := giveF_sound o.2 x cs F' ν st hR hrep hF' hG hl hv
  obtain ⟨g1, g2, _⟩ := hG i hi
  have hn : nth γ i < (st.adds (giveF γ o.2 x st.nx).2).nx := by rw [adds_nx]; omega
  refine ⟨ν', ?_, by show st.nx ≤ (st.adds _).nx; rw [adds_nx]; omega, by show (st.adds _).dirty = _; exact adds_dirty _ st, g.2.1, ?_⟩
  · refine g.1.set hn (b := b) ?_ ?_ ?_ (hF.mine b (by simp)) ?_
    · rw [← g.2.1 _ g1, g2, ha]
    · rw [h2]; exact hc
    · rw [adds_nx]; exact h3
    · intro j q hj hb'
      rcases g.2.2 j q b hj hb' with ⟨o', ho', hm⟩ | hm
      · exact hF.apart b (by simp) j o' ho' hm
      · exact (List.nodup_cons.1 hF.nodup).1 hm
  · intro j q c hj hcq
    simp only [giveOb, St.set, lkp_cons] at hj
    split at hj
    · rename_i e
      subst e
      cases hj
      have : mineOf (ν' (nth γ i)) (.cells o.1 (giveF γ o.2 x st.nx).1) = some b := by rw [← g.2.1 _ g1, g2, ha]; rfl
      rw [this] at hcq
      cases hcq
      exact .inr (by simp)
    · rcases g.2.2 j q c hj hcq with h | h
      · exact .inl h
      · exact .inr (by simp [h])
theorem giveO_sound {n : Nat} : ∀ (os : Obs) (i : Nat), i + os.length ≤ n → ∀ (x : ObT os) (F : List Nat) (ν : Nat → Value) (st : St), RelW S w0 ν st w → repO w α Av i os x F → Free S w0 ν st F → Gam γ n α ν st.nx → obsLt n os = true → (obsFresh os = true ∨ ∀ b, Av b → b < w0.heap.size ∧ ¬ S b) →
    ∃ ν', GivenS S w0 w ν st F (giveO γ i os x st) ν'
  | [], i, hi, x, F, ν, st, hR, hr, hF, hG, hl, hv => ⟨ν, GivenS.refl hR F⟩
  | [o], i, hi, x, F, ν, st, hR, hr, hF, hG, hl, hv => by
    simp only [obsLt, Bool.and_eq_true] at hl
    exact giveOb_sound (by simp only [List.length_cons, List.length_nil] at hi; omega) o x F hR hr hF hG hl.1 (hv.imp (fun h => by simp only [obsFresh, Bool.and_eq_true] at h; exact h.1) id)
  | o :: p :: os, i, hi, x, F, ν, st, hR, hr, hF, hG, hl, hv => by
    obtain ⟨F1, F2, rfl, r1, r2⟩ := hr
    rw [obsLt, Bool.and_eq_true] at hl
    simp only [List.length_cons] at hi
    obtain ⟨ν1, g1⟩ := giveOb_sound (by omega) o x.1 F1 hR r1 hF.left hG hl.1 (hv.imp (fun h => by rw [obsFresh, Bool.and_eq_true] at h; exact h.1) id)
    obtain ⟨ν2, g2⟩ := giveO_sound (p :: os) (Nat.succ i) (by simp only [List.length_cons]; omega) x.2 F2 ν1 _ g1.1 r2 (hF.rightS g1) (hG.mono g1.2.1 g1.2.2.2.1) hl.2 (hv.imp (fun h => by rw [obsFresh, Bool.and_eq_true] at h; exact h.2) id)
    exact ⟨ν2, g1.trans g2⟩
end
end Go.Aq
