/- Functions that are called by plain values and rows: their contracts, and how callers use them. -/
import Derived.Test.YtojomdlccjlioaaV11
namespace Go.Aq
open Go.RowKit (Below)
set_option linter.unusedVariables false

/-! ### What is handed over: plain things, rows ('own': new ones), structs of such -/
mutual
inductive Sh where
  | leaf (l : Lf)
  | row (own : Bool) (t : TypeId) (ls : List Lf)
  | agg (f : Shs)
inductive Shs where
  | one (s : Sh)
  | cons (s : Sh) (r : Shs)
end
mutual
def Sh.T : Sh → Type
  | .leaf l => l.T
  | .row _ _ ls => List (LT ls)
  | .agg f => f.T
def Shs.T : Shs → Type
  | .one s => s.T
  | .cons s r => s.T × r.T
end
mutual
/-- How many cells? -/
def Sh.sz : Sh → Nat
  | .leaf _ => 1
  | .row _ _ _ => 1
  | .agg f => f.sz
def Shs.sz : Shs → Nat
  | .one s => s.sz
  | .cons s r => s.sz + r.sz
end
mutual
/-- Are all rows new ones? -/
def Sh.fresh : Sh → Bool
  | .leaf _ => true
  | .row own _ _ => own
  | .agg f => f.fresh
def Shs.fresh : Shs → Bool
  | .one s => s.fresh
  | .cons s r => s.fresh && r.fresh
end
mutual
/-- Are all rows only read? -/
def Sh.seen : Sh → Bool
  | .leaf _ => true
  | .row own _ _ => !own
  | .agg f => f.seen
def Shs.seen : Shs → Bool
  | .one s => s.seen
  | .cons s r => s.seen && r.seen
end
mutual
/-- The cells of a thing, and its rows under new names. -/
def giveS : (s : Sh) → s.T → Nat → List SV × List HO
  | .leaf l, x, _ => ([l.enc x], [])
  | .row own t ls, xs, nx => ([.osl nx], [.row own t ls xs])
  | .agg f, x, nx => giveF f x nx
def giveF : (f : Shs) → f.T → Nat → List SV × List HO
  | .one s, x, nx => giveS s x nx
  | .cons s r, x, nx => ((giveS s x.1 nx).1 ++ (giveF r x.2 (nx + (giveS s x.1 nx).2.length)).1, (giveS s x.1 nx).2 ++ (giveF r x.2 (nx + (giveS s x.1 nx).2.length)).2)
end
def valS : Sh → List SV → SV
  | .agg _, cs => .agg cs
  | _, [v] => v
  | _, _ => .tup []
/-- Values one behind the other. -/
def giveA : (as : Shs) → as.T → Nat → List SV × List HO
  | .one s, x, nx => ([valS s (giveS s x nx).1], (giveS s x nx).2)
  | .cons s r, x, nx => (valS s (giveS s x.1 nx).1 :: (giveA r x.2 (nx + (giveS s x.1 nx).2.length)).1, (giveS s x.1 nx).2 ++ (giveA r x.2 (nx + (giveS s x.1 nx).2.length)).2)
def St.adds (st : St) : List HO → St
  | [] => st
  | o :: os => (st.add o).adds os

section
variable {α : Type}
/-- A row: a new one is taken out of what is known. -/
noncomputable def takeRow (own : Bool) (t : TypeId) (ls : List Lf) (v : SV) (H : Heap) (K : List (LT ls) → Heap → O α) : O α :=
  match v with
  | .nilsl => ifb (!ls.isEmpty) (K [] H) .no
  | v => match own with
    | true => match v with
      | .osl j => match lkp j H with
        | some (.row true t' ls' xs) => ifb (Nat.beq t t') (match castL ls' ls xs with
          | some xs => K xs (del j H)
          | none => .no) .no
        | _ => .no
      | _ => .no
    | false => evList H v fun ls' _ xs => match castL ls' ls xs with
      | some xs => K xs H
      | none => .no
mutual
/-- What some cells hold: new rows are taken out of what is known. -/
noncomputable def takeS : (s : Sh) → List SV → Heap → (s.T → Heap → O α) → O α
  | .leaf l, [v], H, K => match l.dec v with
    | some x => K x H
    | none => .no
  | .row own t ls, [v], H, K => takeRow own t ls v H K
  | .agg f, cs, H, K => takeF f cs H K
  | _, _, _, _ => .no
noncomputable def takeF : (f : Shs) → List SV → Heap → (f.T → Heap → O α) → O α
  | .one s, cs, H, K => takeS s cs H K
  | .cons s r, cs, H, K => takeS s (cs.take s.sz) H fun x H => takeF r (cs.drop s.sz) H fun y H => K (x, y) H
end
noncomputable def takeV : (s : Sh) → SV → Heap → (s.T → Heap → O α) → O α
  | .agg f, .agg cs, H, K => takeF f cs H K
  | .leaf l, v, H, K => match l.dec v with
    | some x => K x H
    | none => .no
  | .row own t ls, v, H, K => takeRow own t ls v H K
  | _, _, _, _ => .no
noncomputable def takeA : (as : Shs) → List SV → Heap → (as.T → Heap → O α) → O α
  | .one s, [v], H, K => takeV s v H K
  | .cons s r, v :: vs, H, K => takeV s v H fun x H => takeA r vs H fun y H => K (x, y) H
  | _, _, _, _ => .no
end

/-! ### What the machine has of it -/
mutual
def repS (w : World) : (s : Sh) → s.T → List Value → List Nat → Prop
  | .leaf l, x, vs, F => vs = [den ν0 (l.enc x)] ∧ F = []
  | .row own t ls, xs, vs, F => ∃ v, vs = [v] ∧ ls ≠ [] ∧ RowSat w v own t ls xs ∧ F = (mineOf v (.row own t ls xs)).toList
  | .agg f, x, vs, F => repF w f x vs F
def repF (w : World) : (f : Shs) → f.T → List Value → List Nat → Prop
  | .one s, x, vs, F => repS w s x vs F
  | .cons s r, x, vs, F => ∃ vs1 vs2 F1 F2, vs = vs1 ++ vs2 ∧ F = F1 ++ F2 ∧ repS w s x.1 vs1 F1 ∧ repF w r x.2 vs2 F2
end
def repV (w : World) (s : Sh) (x : s.T) (v : Value) (F : List Nat) : Prop :=
  ∃ cs, repS w s x cs F ∧ match s with
    | .agg _ => v = .agg cs.toArray
    | _ => cs = [v]
def repA (w : World) : (as : Shs) → as.T → List Value → List Nat → Prop
  | .one s, x, vs, F => ∃ v, vs = [v] ∧ repV w s x v F
  | .cons s r, x, vs, F => ∃ v vs' F1 F2, vs = v :: vs' ∧ F = F1 ++ F2 ∧ repV w s x.1 v F1 ∧ repA w r x.2 vs' F2

theorem adds_nx (os : List HO) : ∀ st : St, (st.adds os).nx = st.nx + os.length := by
  induction os with
  | nil => intro st; rfl
  | cons o os ih => intro st; simp only [St.adds, ih]; simp [St.add]; omega
theorem adds_dirty (os : List HO) : ∀ st : St, (st.adds os).dirty = st.dirty := by
  induction os with
  | nil => intro st; rfl
  | cons o os ih => intro st; simp only [St.adds, ih]; rfl
theorem adds_append (a b : List HO) : ∀ st : St, st.adds (a ++ b) = (st.adds a).adds b := by
  induction a with
  | nil => intro st; rfl
  | cons o os ih => intro st; simp only [List.cons_append, St.adds, ih]

/-- What is asked of blocks that come under new names. -/
structure Free (S : Nat → Prop) (w0 : World) (ν : Nat → Value) (st : St) (F : List Nat) : Prop where
  nodup : F.Nodup
  mine : ∀ b ∈ F, S b ∨ w0.heap.size ≤ b
  apart : ∀ b ∈ F, ∀ j o, lkp j st.H = some o → mineOf (ν j) o ≠ some b

/-- One more name for what lies there. -/
theorem RelW.name {S : Nat → Prop} {w0 : World} {ν : Nat → Value} {st : St} {w : World} (h : RelW S w0 ν st w) {v : Value} {own : Bool} {t : TypeId} {ls : List Lf} {xs : List (LT ls)} (hls : ls ≠ []) (hv : RowSat w v own t ls xs)
    (hF : Free S w0 ν st (mineOf v (.row own t ls xs)).toList) (hview : own = true ∨ ∀ b, b < w.heap.size → b < w0.heap.size ∧ ¬ S b) : RelW S w0 (upd ν st.nx v) (st.add (.row own t ls xs)) w := by
  have hs : hoSat (upd ν st.nx v) w st.nx (.row own t ls xs) := ⟨hls, by rw [upd_new]; exact hv⟩
  refine h.new ⟨rfl, rfl, rfl, Nat.le_refl _⟩ v _ st.H st.dirty (fun _ _ h => h) (fun _ _ _ _ _ => rfl) (fun _ _ _ => rfl) rfl hs ?_ ?_ ?_
  · intro j o b hj hb hb'
    exact hF.apart b (by rw [hb']; simp) j o hj hb
  · intro b hb
    exact hF.mine b (by rw [hb]; simp)
  · intro b hb
    rcases hview with rfl | hview
    · simp [seenOf] at hb
    · refine hview b ?_
      have := hoSat_lt hs b (by rw [upd_new]; exact seen_on hb)
      exact this

mutual
theorem giveS_sound {S : Nat → Prop} {w0 : World} {w : World} : ∀ (s : Sh) (x : s.T) (vs : List Value) (F : List Nat) (ν : Nat → Value) (st : St), RelW S w0 ν st w → repS w s x vs F → Free S w0 ν st F →
    (s.fresh = true ∨ ∀ b, b < w.heap.size → b < w0.heap.size ∧ ¬ S b) →
    ∃ ν', RelW S w0 ν' (st.adds (giveS s x st.nx).2) w ∧ (∀ j, j < st.nx → ν j = ν' j) ∧ denL ν' (giveS s x st.nx).1 = vs ∧ belowL (st.nx + (giveS s x st.nx).2.length) (giveS s x st.nx).1 = true ∧
      (∀ j o b, lkp j (st.adds (giveS s x st.nx).2).H = some o → mineOf (ν' j) o = some b → (∃ o', lkp j st.H = some o' ∧ mineOf (ν j) o' = some b) ∨ b ∈ F)
  | .leaf l, x, vs, F, ν, st, hR, hr, hF, hv => by
    obtain ⟨rfl, rfl⟩ := hr
    refine ⟨ν, hR, fun _ _ => rfl, ?_, ?_, fun j o b hj hb => .inl ⟨o, hj, hb⟩⟩
    · show denL ν [l.enc x] = _
      simp only [denL]
      rw [den_congr (n := 0) (ν := ν) (ν' := ν0) (fun j hj => absurd hj (Nat.not_lt_zero j)) _ (lf_enc_lt 0 l x)]
    · exact Bool.and_eq_true_iff.2 ⟨lf_enc_lt _ l x, rfl⟩
  | .row own t ls, xs, vs, F, ν, st, hR, hr, hF, hv => by
    obtain ⟨v, rfl, hls, hsat, rfl⟩ := hr
    have hR' := hR.name hls hsat hF (by simpa [Sh.fresh] using hv)
    refine ⟨_, hR', fun j hj => upd_old hj, ?_, ?_, ?_⟩
    · show denL _ [.osl st.nx] = _
      simp only [denL, den, upd_new]
      rcases hsat with ⟨rfl, _⟩ | ⟨_, _, rfl, _⟩ <;> rfl
    · show belowL _ [.osl st.nx] = true
      simp [belowL, svLt, giveS]
    · intro j o b hj hb
      have hj' : lkp j ((st.nx, HO.row own t ls xs) :: st.H) = some o := hj
      clear hj
      rw [lkp_cons] at hj'
      by_cases e : st.nx = j
      · rw [if_pos e] at hj'
        subst e
        rw [← Option.some.inj hj', upd_new] at hb
        exact .inr (by rw [hb]; simp)
      · rw [if_neg e] at hj'
        rw [← upd_old (hR.lt j o hj').1] at hb; exact .inl ⟨o, hj', hb⟩
  | .agg f, x, vs, F, ν, st, hR, hr, hF, hv => giveF_sound f x vs F ν st hR hr hF hv
theorem giveF_sound {S : Nat → Prop} {w0 : World} {w : World} : ∀ (f : Shs) (x : f.T) (vs : List Value) (F : List Nat) (ν : Nat → Value) (st : St), RelW S w0 ν st w → repF w f x vs F → Free S w0 ν st F →
    (f.fresh = true ∨ ∀ b, b < w.heap.size → b < w0.heap.size ∧ ¬ S b) →
    ∃ ν', RelW S w0 ν' (st.adds (giveF f x st.nx).2) w ∧ (∀ j, j < st.nx → ν j = ν' j) ∧ denL ν' (giveF f x st.nx).1 = vs ∧ belowL (st.nx + (giveF f x st.nx).2.length) (giveF f x st.nx).1 = true ∧
      (∀ j o b, lkp j (st.adds (giveF f x st.nx).2).H = some o → mineOf (ν' j) o = some b → (∃ o', lkp j st.H = some o' ∧ mineOf (ν j) o' = some b) ∨ b ∈ F)
  | .one s, x, vs, F, ν, st, hR, hr, hF, hv => giveS_sound s x vs F ν st hR hr hF hv
  | .cons s r, x, vs, F, ν, st, hR, hr, hF, hv => by
    obtain ⟨vs1, vs2, F1, F2, rfl, rfl, h1, h2⟩ := hr
    have hnd := List.nodup_append.1 hF.nodup
    obtain ⟨ν1, a1, a2, a3, a4, a5⟩ := giveS_sound s x.1 vs1 F1 ν st hR h1 ⟨hnd.1, fun b hb => hF.mine b (by simp [hb]), fun b hb => hF.apart b (by simp [hb])⟩ (hv.imp (fun h => by simp [Shs.fresh] at h; exact h.1) id)
    obtain ⟨ν2, b1, b2, b3, b4, b5⟩ := giveF_sound r x.2 vs2 F2 ν1 _ a1 h2 ⟨hnd.2.1, fun b hb => hF.mine b (by simp [hb]), fun b hb j o hj hb' => by
      rcases a5 j o b hj hb' with ⟨o', ho', hm⟩ | hm
      · exact hF.apart b (by simp [hb]) j o' ho' hm
      · exact hnd.2.2 b hm b hb rfl⟩ (hv.imp (fun h => by simp [Shs.fresh] at h; exact h.2) id)
    rw [adds_nx] at b1 b2 b3 b4 b5
    refine ⟨ν2, ?_, fun j hj => (a2 j hj).trans (b2 j (by omega)), ?_, ?_, ?_⟩
    · show RelW S w0 ν2 (st.adds (_ ++ _)) w
      rw [adds_append]; exact b1
    · show denL ν2 (_ ++ _) = _
      rw [denL_append, b3, ← denL_congr b2 _ a4, a3]
    · show belowL (_ + (_ ++ _ : List HO).length) (_ ++ _) = true
      rw [List.length_append, ← Nat.add_assoc]
      rw [belowL_iff]
      intro v hv
      rcases List.mem_append.1 hv with hv | hv
      · exact svLt_mono (by omega) v (belowL_iff.1 a4 v hv)
      · exact belowL_iff.1 b4 v hv
    · intro j o b hj hb
      have hj : lkp j (st.adds ((giveS s x.1 st.nx).2 ++ (giveF r x.2 (st.nx + (giveS s x.1 st.nx).2.length)).2)).H = some o := hj
      rw [adds_append] at hj
      rcases b5 j o b hj hb with ⟨o', ho', hm⟩ | hm
      · rcases a5 j o' b ho' hm with h | h
        · exact .inl h
        · exact .inr (by simp [h])
      · exact .inr (by simp [hm])
end
end Go.Aq
