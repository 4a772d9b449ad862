/- Contracts: from an evaluation to a contract, from a contract to a callee. -/
import Derived.Test.YtojomdlccjlioaaV12
namespace Go.Aq
open Go.RowKit (Below)
set_option linter.unusedVariables false

theorem RelW.part {S : Nat → Prop} {w0 : World} {ν : Nat → Value} {st : St} {w : World} (h : RelW S w0 ν st w) {H : Heap} (hs : ∀ j o, lkp j H = some o → lkp j st.H = some o) (d : Bool) : RelW S w0 ν ⟨st.nx, d, H⟩ w :=
  ⟨fun j o hj => h.sat j o (hs j o hj), fun j o hj => h.lt j o (hs j o hj), fun i j oi oj b hi hj => h.inj i j oi oj b (hs _ _ hi) (hs _ _ hj), fun j o b hj => h.mine j o b (hs _ _ hj), fun j o b hj => h.seen j o b (hs _ _ hj), h.os, h.tape, h.output, h.size, h.frame⟩
theorem Reads.sat {w : World} {v : Value} {ls : List Lf} {xs : List (LT ls)} (h : Reads w v ls xs) (t : TypeId) : RowSat w v false t ls xs := by
  rcases h with h | ⟨a, cap, e, hl, hc⟩
  · exact .inl h
  · refine .inr ⟨a, cap, e, hl, fun _ => ⟨hc, fun hx hls => ?_⟩, fun h => by cases h⟩
    have hp : 0 < (flat ls xs).length := by
      rw [flat_length]
      exact Nat.mul_pos (List.length_pos_iff.2 hx) (List.length_pos_iff.2 hls)
    have := hc 0 _ (List.getElem?_eq_getElem hp)
    rw [show a.add 0 = a from rfl] at this
    unfold World.cell? at this
    split at this
    · split at this
      · cases this
      · rename_i h; simpa using h
    · cases this
theorem hdr_row {v : Value} {n : Nat} (h : RowVal v n) : hdr v = v := by
  rcases h with ⟨rfl, _⟩ | ⟨_, _, rfl, _⟩ <;> rfl

section
variable {α : Type} {S : Nat → Prop} {w0 : World} {ν : Nat → Value} {st : St} {w : World}
/-- What is taken is there. -/
def Taken (ν : Nat → Value) (H H' : Heap) (F : List Nat) : Prop :=
  (∀ j o, lkp j H' = some o → lkp j H = some o) ∧ F.Nodup ∧ ∀ b ∈ F, ∃ j o, lkp j H = some o ∧ lkp j H' = none ∧ mineOf (ν j) o = some b
theorem Taken.refl (ν : Nat → Value) (H : Heap) : Taken ν H H [] := ⟨fun _ _ h => h, List.nodup_nil, fun b hb => by cases hb⟩
theorem Taken.trans {H H' H'' : Heap} {F F' : List Nat} (hR : RelW S w0 ν st w) (hs : ∀ j o, lkp j H = some o → lkp j st.H = some o) (h : Taken ν H H' F) (k : Taken ν H' H'' F') : Taken ν H H'' (F ++ F') := by
  refine ⟨fun j o hj => h.1 j o (k.1 j o hj), ?_, ?_⟩
  · rw [List.nodup_append]
    refine ⟨h.2.1, k.2.1, fun b hb b' hb' e => ?_⟩
    subst e
    obtain ⟨j, o, h1, h2, h3⟩ := h.2.2 b hb
    obtain ⟨j', o', k1, k2, k3⟩ := k.2.2 b hb'
    have := hR.inj j j' o o' b (hs _ _ h1) (hs _ _ (h.1 _ _ k1)) h3 k3
    subst this
    rw [h2] at k1; cases k1
  · intro b hb
    rcases List.mem_append.1 hb with hb | hb
    · obtain ⟨j, o, h1, h2, h3⟩ := h.2.2 b hb
      refine ⟨j, o, h1, ?_, h3⟩
      cases hq : lkp j H'' with
      | none => rfl
      | some q => rw [k.1 j q hq] at h2; cases h2
    · obtain ⟨j', o', k1, k2, k3⟩ := k.2.2 b hb
      exact ⟨j', o', h.1 _ _ k1, k2, k3⟩
theorem Taken.sub {H H' : Heap} {F : List Nat} (h : Taken ν H H' F) (hs : ∀ j o, lkp j H = some o → lkp j st.H = some o) : ∀ j o, lkp j H' = some o → lkp j st.H = some o := fun j o hj => hs j o (h.1 j o hj)

theorem row_sound (hR : RelW S w0 ν st w) {res : O α} (hne : res ≠ .no) (own : Bool) (t : TypeId) (ls : List Lf) (v : SV) (H : Heap) (K : List (LT ls) → Heap → O α) (hs : ∀ j o, lkp j H = some o → lkp j st.H = some o) (h : takeRow own t ls v H K = res) :
    ∃ x H' F, K x H' = res ∧ repS w (.row own t ls) x [den ν v] F ∧ Taken ν H H' F := by
  unfold takeRow at h
  split at h
  · by_cases hl : (!ls.isEmpty) = true
    · rw [hl, ifb_true] at h
      refine ⟨[], H, [], h, ⟨_, rfl, ?_, .inl ⟨rfl, rfl⟩, ?_⟩, Taken.refl ν H⟩
      · rintro rfl; simp at hl
      · cases own <;> rfl
    · rw [Bool.not_eq_true] at hl; rw [hl] at h; exact absurd h.symm hne
  · rename_i hnn
    split at h
    · split at h
      · rename_i j
        split at h
        · rename_i t' ls' xs' hj
          by_cases ht : Nat.beq t t' = true
          · rw [ht, ifb_true] at h
            obtain rfl := Nat.eq_of_beq_eq_true ht
            split at h
            · rename_i xs hxs
              obtain ⟨e, hxs⟩ := castL_of hxs
              subst e
              simp only at hxs
              subst hxs
              have hsat := hR.sat j _ (hs j _ hj)
              have hd : den ν (.osl j) = ν j := by simp only [den]; exact hdr_row (hsat.2.rowVal hsat.1)
              refine ⟨xs, del j H, _, h, ⟨ν j, by rw [hd], hsat.1, hsat.2, rfl⟩, fun i o hi => (lkp_del_some hi).2, ?_, fun b hb => ⟨j, _, hj, by rw [lkp_del, if_pos rfl], ?_⟩⟩
              · cases mineOf (ν j) (.row true t ls' xs) <;> simp
              · simpa using hb
            · exact absurd h.symm hne
          · rw [Bool.not_eq_true] at ht; rw [ht] at h; exact absurd h.symm hne
        · exact absurd h.symm hne
      · exact absurd h.symm hne
    · obtain ⟨j, o, ls', t', xs', hk, hls, hj, _, hrd⟩ := evList_reads (hR.part hs st.dirty) h hne
      split at hk
      · rename_i xs hxs
        obtain ⟨e, hxs⟩ := castL_of hxs
        subst e
        simp only at hxs
        subst hxs
        refine ⟨xs, H, [], hk, ⟨_, rfl, hls, (hrd w fun _ _ _ => rfl).sat t, rfl⟩, Taken.refl ν H⟩
      · exact absurd hk.symm hne

theorem leaf_sound {res : O α} (hne : res ≠ .no) (l : Lf) (v : SV) (H : Heap) (K : l.T → Heap → O α) (h : (match l.dec v with | some x => K x H | none => .no) = res) :
    ∃ x H' F, K x H' = res ∧ repS w (.leaf l) x [den ν v] F ∧ Taken ν H H' F := by
  split at h
  · rename_i x hx
    refine ⟨x, H, [], h, ⟨?_, rfl⟩, Taken.refl ν H⟩
    rw [lf_dec hx]
    rw [den_congr (n := 0) (ν := ν) (ν' := ν0) (fun j hj => absurd hj (Nat.not_lt_zero j)) _ (lf_enc_lt 0 l x)]
  · exact absurd h.symm hne
mutual
theorem takeS_sound (hR : RelW S w0 ν st w) {res : O α} (hne : res ≠ .no) : ∀ (s : Sh) (cs : List SV) (H : Heap) (K : s.T → Heap → O α), (∀ j o, lkp j H = some o → lkp j st.H = some o) → takeS s cs H K = res →
    ∃ x H' F, K x H' = res ∧ repS w s x (denL ν cs) F ∧ Taken ν H H' F
  | .leaf l, [v], H, K, hs, h => leaf_sound hne l v H K h
  | .leaf l, [], H, K, hs, h => by unfold takeS at h; exact absurd h.symm hne
  | .leaf l, _ :: _ :: _, H, K, hs, h => by unfold takeS at h; exact absurd h.symm hne
  | .row own t ls, [v], H, K, hs, h => row_sound hR hne own t ls v H K hs h
  | .row own t ls, [], H, K, hs, h => by unfold takeS at h; exact absurd h.symm hne
  | .row own t ls, _ :: _ :: _, H, K, hs, h => by unfold takeS at h; exact absurd h.symm hne
  | .agg f, cs, H, K, hs, h => by unfold takeS at h; exact takeF_sound hR hne f cs H K hs h
theorem takeF_sound (hR : RelW S w0 ν st w) {res : O α} (hne : res ≠ .no) : ∀ (f : Shs) (cs : List SV) (H : Heap) (K : f.T → Heap → O α), (∀ j o, lkp j H = some o → lkp j st.H = some o) → takeF f cs H K = res →
    ∃ x H' F, K x H' = res ∧ repF w f x (denL ν cs) F ∧ Taken ν H H' F
  | .one s, cs, H, K, hs, h => by unfold takeF at h; exact takeS_sound hR hne s cs H K hs h
  | .cons s r, cs, H, K, hs, h => by
    unfold takeF at h
    obtain ⟨x, H1, F1, h1, r1, t1⟩ := takeS_sound hR hne s _ H _ hs h
    obtain ⟨y, H2, F2, h2, r2, t2⟩ := takeF_sound hR hne r _ H1 _ (t1.sub hs) h1
    refine ⟨(x, y), H2, F1 ++ F2, h2, ⟨_, _, F1, F2, ?_, rfl, r1, r2⟩, t1.trans hR hs t2⟩
    rw [← denL_append, List.take_append_drop]
end
theorem takeV_sound (hR : RelW S w0 ν st w) {res : O α} (hne : res ≠ .no) (s : Sh) (v : SV) (H : Heap) (K : s.T → Heap → O α) (hs : ∀ j o, lkp j H = some o → lkp j st.H = some o) (h : takeV s v H K = res) :
    ∃ x H' F, K x H' = res ∧ repV w s x (den ν v) F ∧ Taken ν H H' F := by
  cases s with
  | leaf l =>
    obtain ⟨x, H', F, h1, h2, h3⟩ := leaf_sound (ν := ν) (w := w) hne l v H K h
    exact ⟨x, H', F, h1, ⟨_, h2, rfl⟩, h3⟩
  | row own t ls =>
    obtain ⟨x, H', F, h1, h2, h3⟩ := row_sound hR hne own t ls v H K hs h
    exact ⟨x, H', F, h1, ⟨_, h2, rfl⟩, h3⟩
  | agg f =>
    cases v with
    | agg cs =>
      obtain ⟨x, H', F, h1, h2, h3⟩ := takeF_sound hR hne f cs H K hs h
      exact ⟨x, H', F, h1, ⟨denL ν cs, h2, by simp [den]⟩, h3⟩
    | _ => exact absurd h.symm hne
theorem takeA_sound (hR : RelW S w0 ν st w) {res : O α} (hne : res ≠ .no) : ∀ (f : Shs) (vs : List SV) (H : Heap) (K : f.T → Heap → O α), (∀ j o, lkp j H = some o → lkp j st.H = some o) → takeA f vs H K = res →
    ∃ x H' F, K x H' = res ∧ repA w f x (denL ν vs) F ∧ Taken ν H H' F
  | .one s, [v], H, K, hs, h => by
    unfold takeA at h
    obtain ⟨x, H', F, h1, h2, h3⟩ := takeV_sound hR hne s v H K hs h
    exact ⟨x, H', F, h1, ⟨_, by simp [denL], h2⟩, h3⟩
  | .one s, [], H, K, hs, h => by unfold takeA at h; exact absurd h.symm hne
  | .one s, _ :: _ :: _, H, K, hs, h => by unfold takeA at h; exact absurd h.symm hne
  | .cons s r, [], H, K, hs, h => by unfold takeA at h; exact absurd h.symm hne
  | .cons s r, v :: vs, H, K, hs, h => by
    unfold takeA at h
    obtain ⟨x, H1, F1, h1, r1, t1⟩ := takeV_sound hR hne s v H _ hs h
    obtain ⟨y, H2, F2, h2, r2, t2⟩ := takeA_sound hR hne r vs H1 _ (t1.sub hs) h1
    exact ⟨(x, y), H2, F1 ++ F2, h2, ⟨_, _, F1, F2, by simp [denL], rfl, r1, r2⟩, t1.trans hR hs t2⟩
end

/-- What follows of names given to what lies there. -/
def Given (S : Nat → Prop) (w0 : World) (w : World) (ν : Nat → Value) (st : St) (F : List Nat) (os : List HO) (ν' : Nat → Value) : Prop :=
  RelW S w0 ν' (st.adds os) w ∧ (∀ j, j < st.nx → ν j = ν' j) ∧
    (∀ j o b, lkp j (st.adds os).H = some o → mineOf (ν' j) o = some b → (∃ o', lkp j st.H = some o' ∧ mineOf (ν j) o' = some b) ∨ b ∈ F)
theorem giveV_sound {S : Nat → Prop} {w0 : World} {w : World} (s : Sh) (x : s.T) (v : Value) (F : List Nat) (ν : Nat → Value) (st : St) (hR : RelW S w0 ν st w) (hr : repV w s x v F) (hF : Free S w0 ν st F)
    (hv : s.fresh = true ∨ ∀ b, b < w.heap.size → b < w0.heap.size ∧ ¬ S b) :
    ∃ ν', Given S w0 w ν st F (giveS s x st.nx).2 ν' ∧ den ν' (valS s (giveS s x st.nx).1) = v ∧ svLt (st.nx + (giveS s x st.nx).2.length) (valS s (giveS s x st.nx).1) = true := by
  obtain ⟨cs, hcs, hval⟩ := hr
  obtain ⟨ν', a1, a2, a3, a4, a5⟩ := giveS_sound s x cs F ν st hR hcs hF hv
  refine ⟨ν', ⟨a1, a2, a5⟩, ?_⟩
  cases s with
  | agg f =>
    simp only at hval
    subst hval
    exact ⟨by simp only [valS, den]; rw [a3], by simpa only [valS, svLt] using a4⟩
  | leaf l =>
    simp only at hval
    rw [hval] at a3
    exact ⟨by have := congrArg List.head? a3; simpa [valS, giveS, denL] using this, by simpa [valS, giveS, belowL] using a4⟩
  | row own t ls =>
    simp only at hval
    rw [hval] at a3
    exact ⟨by have := congrArg List.head? a3; simpa [valS, giveS, denL] using this, by simpa [valS, giveS, belowL] using a4⟩
theorem giveA_sound {S : Nat → Prop} {w0 : World} {w : World} : ∀ (f : Shs) (x : f.T) (vs : List Value) (F : List Nat) (ν : Nat → Value) (st : St), RelW S w0 ν st w → repA w f x vs F → Free S w0 ν st F →
    (f.fresh = true ∨ ∀ b, b < w.heap.size → b < w0.heap.size ∧ ¬ S b) →
    ∃ ν', Given S w0 w ν st F (giveA f x st.nx).2 ν' ∧ denL ν' (giveA f x st.nx).1 = vs ∧ belowL (st.nx + (giveA f x st.nx).2.length) (giveA f x st.nx).1 = true
  | .one s, x, vs, F, ν, st, hR, hr, hF, hv => by
    obtain ⟨v, rfl, hr⟩ := hr
    obtain ⟨ν', h1, h2, h3⟩ := giveV_sound s x v F ν st hR hr hF hv
    exact ⟨ν', h1, by simp only [giveA, denL, h2], by simp only [giveA, belowL, h3, Bool.and_self]⟩
  | .cons s r, x, vs, F, ν, st, hR, hr, hF, hv => by
    obtain ⟨v, vs', F1, F2, rfl, rfl, h1, h2⟩ := hr
    have hnd := List.nodup_append.1 hF.nodup
    obtain ⟨ν1, ⟨a1, a2, a5⟩, a3, a4⟩ := giveV_sound s x.1 v F1 ν st hR h1 ⟨hnd.1, fun b hb => hF.mine b (by simp [hb]), fun b hb => hF.apart b (by simp [hb])⟩ (hv.imp (fun h => by simp [Shs.fresh] at h; exact h.1) id)
    obtain ⟨ν2, ⟨b1, b2, b5⟩, b3, b4⟩ := giveA_sound r x.2 vs' F2 ν1 _ a1 h2 ⟨hnd.2.1, fun b hb => hF.mine b (by simp [hb]), fun b hb j o hj hb' => by
      rcases a5 j o b hj hb' with ⟨o', ho', hm⟩ | hm
      · exact hF.apart b (by simp [hb]) j o' ho' hm
      · exact hnd.2.2 b hm b hb rfl⟩ (hv.imp (fun h => by simp [Shs.fresh] at h; exact h.2) id)
    rw [adds_nx] at b1 b2 b3 b4 b5
    refine ⟨ν2, ⟨?_, fun j hj => (a2 j hj).trans (b2 j (by omega)), ?_⟩, ?_, ?_⟩
    · simp only [giveA]; rw [adds_append]; exact b1
    · intro j o b hj hb
      simp only [giveA] at hj
      rw [adds_append] at hj
      rcases b5 j o b hj hb with ⟨o', ho', hm⟩ | hm
      · rcases a5 j o' b ho' hm with h | h
        · exact .inl h
        · exact .inr (by simp [h])
      · exact .inr (by simp [hm])
    · simp only [giveA, denL]
      rw [b3, ← den_congr b2 _ a4, a3]
    · simp only [giveA, belowL, List.length_append, Bool.and_eq_true]
      exact ⟨svLt_mono (by omega) _ a4, by rw [← Nat.add_assoc]; exact b4⟩

/-! ### Results -/
inductive Rt where
  | unit
  | val (s : Sh)
  | tup (f : Shs)
def Rt.T : Rt → Type
  | .unit => Unit
  | .val s => s.T
  | .tup f => f.T
def Rt.fresh : Rt → Bool
  | .unit => true
  | .val s => s.fresh
  | .tup f => f.fresh
def giveR : (r : Rt) → r.T → Nat → SV × List HO
  | .unit, _, _ => (.tup [], [])
  | .val s, x, nx => (valS s (giveS s x nx).1, (giveS s x nx).2)
  | .tup f, x, nx => (.tup (giveA f x nx).1, (giveA f x nx).2)
noncomputable def takeR {α : Type} : (r : Rt) → SV → Heap → (r.T → O α) → O α
  | .unit, .tup [], _, K => K ()
  | .val s, v, H, K => takeV s v H fun x _ => K x
  | .tup f, .tup vs, H, K => takeA f vs H fun x _ => K x
  | _, _, _, _ => .no
def repR (w : World) : (r : Rt) → r.T → Value → List Nat → Prop
  | .unit, _, v, F => v = .tuple #[] ∧ F = []
  | .val s, x, v, F => repV w s x v F
  | .tup f, x, v, F => ∃ vs, v = .tuple vs.toArray ∧ repA w f x vs F
inductive As where
  | none
  | some (f : Shs)
def As.T : As → Type
  | .none => Unit
  | .some f => f.T
def As.seen : As → Bool
  | .none => true
  | .some f => f.seen
def giveAs : (a : As) → a.T → List SV × List HO
  | .none, _ => ([], [])
  | .some f, x => giveA f x 0
noncomputable def takeAs {α : Type} : (a : As) → List SV → Heap → (a.T → O α) → O α
  | .none, [], _, K => K ()
  | .some f, vs, H, K => takeA f vs H fun x _ => K x
  | _, _, _, _ => .no
def repAs (w : World) : (a : As) → a.T → List Value → Prop
  | .none, _, vs => vs = []
  | .some f, x, vs => repA w f x vs []

/-- A call by plain things: what it hands back, or panics with; no old memory is turned. -/
def FnPost (w : World) (rt : Rt) (m : O rt.T) : Ending → World → Prop
  | .returned v, w' => ∃ r F, m = .ok r ∧ repR w' rt r v F ∧ F.Nodup ∧ (∀ b ∈ F, w.heap.size ≤ b) ∧ Below w.heap.size w w'
  | .panicked ch, w' => ∃ p, m = .pan p ∧ ch = panOf p ∧ Below w.heap.size w w'
  | .outgrown, _ => False
def FnOk (P : Program) (f : FuncId) (as : As) (rt : Rt) (S : as.T → O rt.T) : Prop :=
  ∀ x, S x ≠ .no → ∀ w vs, repAs w as x vs → Calls P f vs.toArray w (FnPost w rt (S x))

def panK {α : Type} (e : PV) (_ : St) : O α := .pan e
def St.new : St := ⟨0, false, []⟩
theorem RelW.start (w : World) : RelW (fun _ => False) w ν0 St.new w where
  sat j o h := by cases h
  lt j o h := by cases h
  inj i j oi oj b h := by cases h
  mine j o b h := by cases h
  seen j o b h := by cases h
  os := rfl
  tape := rfl
  output := rfl
  size := Nat.le_refl _
  frame _ _ _ := rfl
theorem RelW.toBelow {w w' : World} {ν : Nat → Value} {st : St} (h : RelW (fun _ => False) w ν st w') : Below w.heap.size w w' :=
  ⟨h.os, h.tape, h.output, h.size, fun b hb => h.frame b hb (fun h => h)⟩

theorem takeR_sound {α : Type} {S : Nat → Prop} {w0 : World} {ν : Nat → Value} {st : St} {w : World} (hR : RelW S w0 ν st w) {res : O α} (hne : res ≠ .no) (r : Rt) (v : SV) (K : r.T → O α) (h : takeR r v st.H K = res) :
    ∃ x F, K x = res ∧ repR w r x (den ν v) F ∧ F.Nodup ∧ ∀ b ∈ F, S b ∨ w0.heap.size ≤ b := by
  have fin : ∀ (H' : Heap) (F : List Nat), Taken ν st.H H' F → F.Nodup ∧ ∀ b ∈ F, S b ∨ w0.heap.size ≤ b := by
    intro H' F t
    refine ⟨t.2.1, fun b hb => ?_⟩
    obtain ⟨j, o, h1, _, h3⟩ := t.2.2 b hb
    exact hR.mine j o b h1 h3
  cases r with
  | unit =>
    cases v with
    | tup vs =>
      cases vs with
      | nil => exact ⟨(), [], h, ⟨by simp [den, denL], rfl⟩, List.nodup_nil, fun b hb => by cases hb⟩
      | cons _ _ => exact absurd h.symm hne
    | _ => exact absurd h.symm hne
  | val s =>
    obtain ⟨x, H', F, h1, h2, h3⟩ := takeV_sound hR hne s v st.H _ (fun _ _ h => h) h
    exact ⟨x, F, h1, h2, fin H' F h3⟩
  | tup f =>
    cases v with
    | tup vs =>
      obtain ⟨x, H', F, h1, h2, h3⟩ := takeA_sound hR hne f vs st.H _ (fun _ _ h => h) h
      exact ⟨x, F, h1, ⟨_, by simp [den], h2⟩, fin H' F h3⟩
    | _ => exact absurd h.symm hne

theorem FnOk.of_ev {P : Program} {tab : Tab} (hT : tabChk P tab = true) {as : As} {rt : Rt} {cal : Cal rt.T} (hC : CalOk P cal) (hM : P.follows .mixedOrders = true) {f : FuncId} {fn : Func} (hf : P.funcs[f]? = some fn) (nt : Notes) (k : Nat)
    {S : as.T → O rt.T} (ha : ∀ x, Nat.ble (giveAs as x).1.length fn.ntmps = true)
    (h : ∀ x, evFn tab cal fn nt k (giveAs as x).1 [] (St.new.adds (giveAs as x).2) (fun v st => takeR rt v st.H .ok) panK = S x) : FnOk P f as rt S := by
  intro x hne w vs hrep
  -- the arguments under names
  obtain ⟨ν, hR, hden, hlt⟩ : ∃ ν, RelW (fun _ => False) w ν (St.new.adds (giveAs as x).2) w ∧ denL ν (giveAs as x).1 = vs ∧ belowL (St.new.adds (giveAs as x).2).nx (giveAs as x).1 = true := by
    cases as with
    | none =>
      simp only [repAs] at hrep
      subst hrep
      exact ⟨ν0, RelW.start w, rfl, rfl⟩
    | some f =>
      obtain ⟨ν, ⟨h1, _, _⟩, h2, h3⟩ := giveA_sound f x vs [] ν0 St.new (RelW.start w) hrep ⟨List.nodup_nil, fun b hb => (by cases hb), fun b hb => (by cases hb)⟩ (.inr fun b hb => ⟨hb, fun h => h⟩)
      refine ⟨ν, h1, h2, ?_⟩
      rw [adds_nx]
      exact h3
  rw [← hden]
  refine (evFn_sound hT hC hM f fn hf nt k (ha x) hR hlt (h x) hne).mono ?_
  intro e w' hp
  cases e with
  | returned v =>
    obtain ⟨ν', st', r, hR', _, rfl, _, hk⟩ := hp
    obtain ⟨y, F, h1, h2, h3, h4⟩ := takeR_sound hR' hne rt r _ hk
    exact ⟨y, F, h1.symm, h2, h3, fun b hb => (h4 b hb).elim (fun h => h.elim) id, hR'.toBelow⟩
  | panicked ch =>
    obtain ⟨ν', st', e, hR', _, rfl, hk⟩ := hp
    exact ⟨e, hk.symm, rfl, hR'.toBelow⟩
  | outgrown => exact hp.elim

/-! ### Callees -/
/-- A callee, as its caller's evaluator uses it. -/
abbrev Hd (T : Type) := List SV → List Nat → St → (SV → St → O T) → (PV → St → O T) → O T
def HdOk (P : Program) (f : FuncId) {T : Type} (h : Hd T) : Prop :=
  ∀ args sl st (K : SV → St → O T) (Kp : PV → St → O T), h args sl st K Kp ≠ .no → (∀ as w, (callFunc f as).run P w = .ok (.enter f as) w) ∧
    ∀ S w0 ν w, RelW S w0 ν st w → belowL st.nx args = true → Calls P f (denL ν args).toArray w (CalPost S w0 ν st w K Kp (h args sl st K Kp))
noncomputable def calOf {T : Type} (l : List (FuncId × Hd T)) : Cal T := fun f args sl st K Kp =>
  match lkp f l with
  | some h => h args sl st K Kp
  | none => .no
def HdsOk (P : Program) {T : Type} : List (FuncId × Hd T) → Prop
  | [] => True
  | (f, h) :: r => HdOk P f h ∧ HdsOk P r
theorem calOf_ok {P : Program} {T : Type} {l : List (FuncId × Hd T)} (h : HdsOk P l) : CalOk P (calOf l) := by
  intro f args sl st K Kp hne
  unfold calOf at hne ⊢
  have : ∀ hd, lkp f l = some hd → HdOk P f hd := by
    clear hne
    induction l with
    | nil => intro hd hl; cases hl
    | cons x xs ih =>
      obtain ⟨g, hg⟩ := x
      intro hd hl
      rw [lkp_cons] at hl
      split at hl
      · rename_i e; subst e; cases hl; exact h.1
      · exact ih h.2 hd hl
  cases hl : lkp f l with
  | none => rw [hl] at hne; exact absurd rfl hne
  | some hd => rw [hl] at hne; exact this hd hl args sl st K Kp hne

/-- A callee by its plain function. -/
noncomputable def pureH {T : Type} (as : As) (rt : Rt) (S : as.T → O rt.T) : Hd T := fun args sl st K Kp =>
  takeAs as args st.H fun x => O.both (S x) (fun r => K (giveR rt r st.nx).1 (st.adds (giveR rt r st.nx).2)) (fun e => Kp e st)
/-- Likewise, if it doesn't panic. -/
noncomputable def pureN {T : Type} (as : As) (rt : Rt) (S : as.T → O rt.T) : Hd T := fun args sl st K Kp =>
  takeAs as args st.H fun x => O.both (S x) (fun r => K (giveR rt r st.nx).1 (st.adds (giveR rt r st.nx).2)) (fun _ => .no)
mutual
theorem seen_F {w : World} : ∀ (s : Sh) (x : s.T) (vs : List Value) (F : List Nat), s.seen = true → repS w s x vs F → F = []
  | .leaf l, x, vs, F, _, h => h.2
  | .row own t ls, x, vs, F, hs, h => by
    obtain ⟨v, _, _, _, hF⟩ := h
    cases own with
    | true => simp [Sh.seen] at hs
    | false => rw [hF]; rfl
  | .agg f, x, vs, F, hs, h => seen_FF f x vs F hs h
theorem seen_FF {w : World} : ∀ (f : Shs) (x : f.T) (vs : List Value) (F : List Nat), f.seen = true → repF w f x vs F → F = []
  | .one s, x, vs, F, hs, h => seen_F s x vs F hs h
  | .cons s r, x, vs, F, hs, h => by
    obtain ⟨_, _, F1, F2, _, rfl, h1, h2⟩ := h
    simp only [Shs.seen, Bool.and_eq_true] at hs
    rw [seen_F s x.1 _ F1 hs.1 h1, seen_FF r x.2 _ F2 hs.2 h2]; rfl
end
theorem seen_A {w : World} : ∀ (f : Shs) (x : f.T) (vs : List Value) (F : List Nat), f.seen = true → repA w f x vs F → F = []
  | .one s, x, vs, F, hs, h => by
    obtain ⟨v, _, cs, h, _⟩ := h
    exact seen_F s x cs F hs h
  | .cons s r, x, vs, F, hs, h => by
    obtain ⟨_, _, F1, F2, _, rfl, ⟨cs, h1, _⟩, h2⟩ := h
    simp only [Shs.seen, Bool.and_eq_true] at hs
    rw [seen_F s x.1 cs F1 hs.1 h1, seen_A r x.2 _ F2 hs.2 h2]; rfl
theorem takeAs_sound {α : Type} {S : Nat → Prop} {w0 : World} {ν : Nat → Value} {st : St} {w : World} (hR : RelW S w0 ν st w) {res : O α} (hne : res ≠ .no) (as : As) (hs : as.seen = true) (vs : List SV) (K : as.T → O α) (h : takeAs as vs st.H K = res) :
    ∃ x, K x = res ∧ repAs w as x (denL ν vs) := by
  cases as with
  | none =>
    cases vs with
    | nil => exact ⟨(), h, rfl⟩
    | cons _ _ => exact absurd h.symm hne
  | some f =>
    obtain ⟨x, H', F, h1, h2, h3⟩ := takeA_sound hR hne f vs st.H _ (fun _ _ h => h) h
    refine ⟨x, h1, ?_⟩
    have := seen_A f x _ F hs h2
    subst this
    exact h2
theorem giveR_sound {S : Nat → Prop} {w0 : World} {w : World} (r : Rt) (hr : r.fresh = true) (x : r.T) (v : Value) (F : List Nat) (ν : Nat → Value) (st : St) (hR : RelW S w0 ν st w) (h : repR w r x v F) (hF : Free S w0 ν st F) :
    ∃ ν', Given S w0 w ν st F (giveR r x st.nx).2 ν' ∧ den ν' (giveR r x st.nx).1 = v ∧ svLt (st.nx + (giveR r x st.nx).2.length) (giveR r x st.nx).1 = true := by
  cases r with
  | unit =>
    obtain ⟨rfl, rfl⟩ := h
    exact ⟨ν, ⟨hR, fun _ _ => rfl, fun j o b hj hb => .inl ⟨o, hj, hb⟩⟩, by simp [giveR, den, denL], by simp [giveR, svLt, belowL]⟩
  | val s => exact giveV_sound s x v F ν st hR h hF (.inl hr)
  | tup f =>
    obtain ⟨vs, rfl, h⟩ := h
    obtain ⟨ν', h1, h2, h3⟩ := giveA_sound f x vs F ν st hR h hF (.inl hr)
    exact ⟨ν', h1, by simp only [giveR, den, h2], by simpa only [giveR, svLt] using h3⟩
theorem pureH_ok {P : Program} {f : FuncId} {T : Type} {as : As} {rt : Rt} {S : as.T → O rt.T} (hs : as.seen = true) (hr : rt.fresh = true) (hF : FnOk P f as rt S) (hcall : ∀ as w, (callFunc f as).run P w = .ok (.enter f as) w) : HdOk P f (pureH (T := T) as rt S) := by
  intro args sl st K Kp hne
  refine ⟨hcall, fun Sp w0 ν w hR hb => ?_⟩
  obtain ⟨x, hk, hrep⟩ := takeAs_sound hR hne as hs args _ rfl
  rw [O.both_eq] at hk
  have hs : S x ≠ .no := by intro h; simp only [h] at hk; exact hne hk.symm
  refine (hF x hs w _ hrep).mono ?_
  intro e w' hp
  cases e with
  | returned v =>
    obtain ⟨r, F, hr', hrp, hnd, hfr, hB⟩ := hp
    have hR' := hR.below hB
    obtain ⟨ν', ⟨g1, g2, _⟩, g4, g5⟩ := giveR_sound rt hr r v F ν st hR' hrp ⟨hnd, fun b hb => .inr (Nat.le_trans hR.size (hfr b hb)), fun b hb j o hj hm => by
      have := hoSat_lt (hR.sat j o hj) b (mine_on hm)
      have := hfr b hb
      omega⟩
    refine ⟨ν', _, _, g1, ⟨by rw [adds_nx]; omega, g2, by rw [adds_dirty]; exact id, hB.size, fun _ b hb => hB.block b hb⟩, g4.symm, by rw [adds_nx]; exact g5, ?_⟩
    rw [← hk, hr']
  | panicked ch =>
    obtain ⟨p, hr', rfl, hB⟩ := hp
    refine ⟨ν, st, p, hR.below hB, Step.below ν st hB, rfl, ?_⟩
    rw [← hk, hr']
  | outgrown => exact hp.elim
theorem pureN_ok {P : Program} {f : FuncId} {T : Type} {as : As} {rt : Rt} {S : as.T → O rt.T} (hs : as.seen = true) (hr : rt.fresh = true) (hF : FnOk P f as rt S) (hcall : ∀ as w, (callFunc f as).run P w = .ok (.enter f as) w) : HdOk P f (pureN (T := T) as rt S) := by
  intro args sl st K Kp hne
  refine ⟨hcall, fun Sp w0 ν w hR hb => ?_⟩
  obtain ⟨x, hk, hrep⟩ := takeAs_sound hR hne as hs args _ rfl
  rw [O.both_eq] at hk
  have hs : S x ≠ .no := by intro h; simp only [h] at hk; exact hne hk.symm
  refine (hF x hs w _ hrep).mono ?_
  intro e w' hp
  cases e with
  | returned v =>
    obtain ⟨r, F, hr', hrp, hnd, hfr, hB⟩ := hp
    have hR' := hR.below hB
    obtain ⟨ν', ⟨g1, g2, _⟩, g4, g5⟩ := giveR_sound rt hr r v F ν st hR' hrp ⟨hnd, fun b hb => .inr (Nat.le_trans hR.size (hfr b hb)), fun b hb j o hj hm => by
      have := hoSat_lt (hR.sat j o hj) b (mine_on hm)
      have := hfr b hb
      omega⟩
    refine ⟨ν', _, _, g1, ⟨by rw [adds_nx]; omega, g2, by rw [adds_dirty]; exact id, hB.size, fun _ b hb => hB.block b hb⟩, g4.symm, by rw [adds_nx]; exact g5, ?_⟩
    rw [← hk, hr']
  | panicked ch =>
    obtain ⟨p, hr', rfl, hB⟩ := hp
    rw [hr'] at hk
    exact absurd hk.symm hne
  | outgrown => exact hp.elim
/-- A callee gone through in place. -/
noncomputable def inlH {T : Type} (tab : Tab) (cal : Cal T) (fn : Func) (nt : Notes) (k : Nat) : Hd T := fun args sl st K Kp =>
  ifb (Nat.ble args.length fn.ntmps) (evFn tab cal fn nt k args sl st K Kp) .no
theorem inlH_ok {P : Program} {tab : Tab} (hT : tabChk P tab = true) {T : Type} {cal : Cal T} (hC : CalOk P cal) (hM : P.follows .mixedOrders = true) {f : FuncId} {fn : Func} (hf : P.funcs[f]? = some fn) (nt : Notes) (k : Nat)
    (hcall : ∀ as w, (callFunc f as).run P w = .ok (.enter f as) w) : HdOk P f (inlH (T := T) tab cal fn nt k) := by
  intro args sl st K Kp hne
  refine ⟨hcall, fun Sp w0 ν w hR hb => ?_⟩
  unfold inlH at hne ⊢
  by_cases hl : Nat.ble args.length fn.ntmps = true
  · rw [hl, ifb_true] at hne ⊢
    exact evFn_sound hT hC hM f fn hf nt k hl hR hb rfl hne
  · rw [Bool.not_eq_true] at hl; rw [hl] at hne; exact absurd rfl hne
end Go.Aq
