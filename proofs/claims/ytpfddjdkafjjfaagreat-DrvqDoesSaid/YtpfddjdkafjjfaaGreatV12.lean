/- What is handed over between functions: plain things, rows ('own': new ones, or ones that are an object's), structs of such, places of objects. -/
import Derived.Test.YtpfddjdkafjjfaaGreatV11
namespace Go.Aq
open Go.RowKit (Below)
set_option linter.unusedVariables false

mutual
/-- Are all rows new ones? -/
def Sh.fresh : Sh → Bool
  | .leaf _ => true
  | .row own _ _ => own
  | .map _ _ _ _ _ => true
  | .tab _ _ => false
  | .agg f => f.fresh
def Shs.fresh : Shs → Bool
  | .one s _ => s.fresh
  | .cons s r => s.fresh && r.fresh
  | .pin _ r => r.fresh
  | .pins _ => true
end
mutual
/-- Are all rows only read? -/
def Sh.seen : Sh → Bool
  | .leaf _ => true
  | .row own _ _ => !own
  | .map _ _ _ _ _ => false
  | .tab _ _ => true
  | .agg f => f.seen
def Shs.seen : Shs → Bool
  | .one s _ => s.seen
  | .cons s r => s.seen && r.seen
  | .pin _ r => r.seen
  | .pins _ => true
end
def Pin.lt (n : Nat) : Pin → Bool
  | .ref k => Nat.blt k n
  | .nil => true
mutual
/-- Are all places those of the first n objects? -/
def Sh.lt (n : Nat) : Sh → Bool
  | .leaf _ => true
  | .row _ _ _ => true
  | .map _ _ _ _ _ => true
  | .tab _ _ => true
  | .agg f => f.lt n
def Shs.lt (n : Nat) : Shs → Bool
  | .one s ps => s.lt n && ps.all (Pin.lt n)
  | .cons s r => s.lt n && r.lt n
  | .pin p r => p.lt n && r.lt n
  | .pins ps => ps.all (Pin.lt n)
end
def valS : Sh → List SV → SV
  | .agg _, cs => .agg cs
  | _, [v] => v
  | _, _ => .tup []
/-- Values one behind the other. -/
def giveA (γ : List Nat) : (as : Shs) → as.T → Nat → List SV × List HO
  | .one s ps, x, nx => (valS s (giveS γ s x nx).1 :: ps.map (pinV γ), (giveS γ s x nx).2)
  | .cons s r, x, nx => (valS s (giveS γ s x.1 nx).1 :: (giveA γ r x.2 (nx + (giveS γ s x.1 nx).2.length)).1, (giveS γ s x.1 nx).2 ++ (giveA γ r x.2 (nx + (giveS γ s x.1 nx).2.length)).2)
  | .pin p r, x, nx => (pinV γ p :: (giveA γ r x nx).1, (giveA γ r x nx).2)
  | .pins ps, _, _ => (ps.map (pinV γ), [])

def pinOk (γ : List Nat) : Pin → SV → Bool
  | .ref k, .ptr j 0 => Nat.blt k γ.length && Nat.beq j (nth γ k)
  | .nil, .nilp => true
  | _, _ => false
def pinsOk (γ : List Nat) : List Pin → List SV → Bool
  | [], [] => true
  | p :: ps, v :: vs => pinOk γ p v && pinsOk γ ps vs
  | _, _ => false
section
variable {α : Type}
/-- A row: a new one is taken out of what is known. -/
noncomputable def takeRow (own : Bool) (t : TypeId) (ls : List Lf) (v : SV) (H : Heap) (K : List (LT ls) → Heap → O α) : O α :=
  match v with
  | .nilsl => ifb (!ls.isEmpty) (K [] H) .no
  | v => match own with
    | true => match v with
      | .osl j => match lkp j H with
        | some (.row true t' ls' xs) => ifb (Nat.beq t t') (match castL ls' ls xs with
          | some xs => K xs (del j H)
          | none => .no) .no
        | _ => .no
      | _ => .no
    | false => evList H v fun ls' _ xs => match castL ls' ls xs with
      | some xs => K xs H
      | none => .no
def castM (kl vl kl' vl' : List Lf) (es : List (LT kl × LT vl)) : Option (List (LT kl' × LT vl')) :=
  if h : kl = kl' then (if h' : vl = vl' then some (h ▸ h' ▸ es) else none) else none
/-- A map: it is taken out of what is known. -/
noncomputable def takeMap (t : TypeId) (ka va : Bool) (kl vl : List Lf) (v : SV) (H : Heap) (K : List (LT kl × LT vl) → Heap → O α) : O α :=
  match v with
  | .mp j => match lkp j H with
    | some (.map t' ka' va' kl' vl' es) => ifb (Nat.beq t t' && sameB ka ka' && sameB va va') (match castM kl' vl' kl vl es with
      | some es => K es (del j H)
      | none => .no) .no
    | _ => .no
  | _ => .no
def castT (f f' : Shs) (xs : List f.T) : Option (List f'.T) :=
  if h : Shs.beq f f' = true then some (Shs.beq_eq h ▸ xs) else none
/-- A table. -/
noncomputable def takeTab (t : TypeId) (f : Shs) (v : SV) (H : Heap) (K : List f.T → Heap → O α) : O α :=
  match v with
  | .nilsl => K [] H
  | .osl j => match lkp j H with
    | some (.tab t' f' xs) => ifb (Nat.beq t t') (match castT f' f xs with
      | some xs => K xs H
      | none => .no) .no
    | _ => .no
  | _ => .no
mutual
/-- What some cells hold: new rows are taken out of what is known. -/
noncomputable def takeS (γ : List Nat) : (s : Sh) → List SV → Heap → (s.T → Heap → O α) → O α
  | .leaf l, [v], H, K => match l.dec v with
    | some x => K x H
    | none => .no
  | .row own t ls, [v], H, K => takeRow own t ls v H K
  | .map t ka va kl vl, [v], H, K => takeMap t ka va kl vl v H K
  | .tab t f, [v], H, K => takeTab t f v H K
  | .agg f, cs, H, K => takeF γ f cs H K
  | _, _, _, _ => .no
noncomputable def takeF (γ : List Nat) : (f : Shs) → List SV → Heap → (f.T → Heap → O α) → O α
  | .one s ps, cs, H, K => ifb (pinsOk γ ps (cs.drop s.sz)) (takeS γ s (cs.take s.sz) H K) .no
  | .cons s r, cs, H, K => takeS γ s (cs.take s.sz) H fun x H => takeF γ r (cs.drop s.sz) H fun y H => K (x, y) H
  | .pin p r, v :: cs, H, K => ifb (pinOk γ p v) (takeF γ r cs H K) .no
  | .pins ps, cs, H, K => ifb (pinsOk γ ps cs) (K () H) .no
  | _, _, _, _ => .no
end
noncomputable def takeV (γ : List Nat) : (s : Sh) → SV → Heap → (s.T → Heap → O α) → O α
  | .agg f, .agg cs, H, K => takeF γ f cs H K
  | .leaf l, v, H, K => match l.dec v with
    | some x => K x H
    | none => .no
  | .row own t ls, v, H, K => takeRow own t ls v H K
  | .map t ka va kl vl, v, H, K => takeMap t ka va kl vl v H K
  | .tab t f, v, H, K => takeTab t f v H K
  | _, _, _, _ => .no
noncomputable def takeA (γ : List Nat) : (as : Shs) → List SV → Heap → (as.T → Heap → O α) → O α
  | .one s ps, v :: vs, H, K => ifb (pinsOk γ ps vs) (takeV γ s v H K) .no
  | .cons s r, v :: vs, H, K => takeV γ s v H fun x H => takeA γ r vs H fun y H => K (x, y) H
  | .pin p r, v :: vs, H, K => ifb (pinOk γ p v) (takeA γ r vs H K) .no
  | .pins ps, vs, H, K => ifb (pinsOk γ ps vs) (K () H) .no
  | _, _, _, _ => .no
end

/-! ### What the machine has of it -/
def pinD (α : Nat → Value) : Pin → Value
  | .ref k => α k
  | .nil => .pointer none
mutual
/-- 'Av': where rows that are only read may lie; 'F': the blocks that may be written. -/
def repS (w : World) (α : Nat → Value) (Av : Nat → Prop) : (s : Sh) → s.T → List Value → List Nat → Prop
  | .leaf l, x, vs, F => vs = [den ν0 (l.enc x)] ∧ F = []
  | .row own t ls, xs, vs, F => ∃ v, vs = [v] ∧ ls ≠ [] ∧ RowSat w v own t ls xs ∧ F = (mineOf v (.row own t ls xs)).toList ∧ ∀ b, seenOf v (.row own t ls xs) = some b → Av b
  | .map _ ka va kl vl, es, vs, F => ∃ b, vs = [.map (some b)] ∧ MapSat w b ka va kl vl es ∧ F = [b]
  | .tab _ f, xs, vs, F => ∃ v, vs = [v] ∧ F = [] ∧ TabIs w Av v f xs
  | .agg f, x, vs, F => repF w α Av f x vs F
def repF (w : World) (α : Nat → Value) (Av : Nat → Prop) : (f : Shs) → f.T → List Value → List Nat → Prop
  | .one s ps, x, vs, F => ∃ us, vs = us ++ ps.map (pinD α) ∧ repS w α Av s x us F
  | .cons s r, x, vs, F => ∃ vs1 vs2 F1 F2, vs = vs1 ++ vs2 ∧ F = F1 ++ F2 ∧ repS w α Av s x.1 vs1 F1 ∧ repF w α Av r x.2 vs2 F2
  | .pin p r, x, vs, F => ∃ us, vs = pinD α p :: us ∧ repF w α Av r x us F
  | .pins ps, _, vs, F => vs = ps.map (pinD α) ∧ F = []
end
/-- A value that has those cells. -/
def valIs : Sh → List Value → Value → Prop
  | .agg _, cs, v => v = .agg cs.toArray
  | _, cs, v => cs = [v]
def repV (w : World) (α : Nat → Value) (Av : Nat → Prop) (s : Sh) (x : s.T) (v : Value) (F : List Nat) : Prop :=
  ∃ cs, repS w α Av s x cs F ∧ valIs s cs v
def repA (w : World) (α : Nat → Value) (Av : Nat → Prop) : (as : Shs) → as.T → List Value → List Nat → Prop
  | .one s ps, x, vs, F => ∃ v, vs = v :: ps.map (pinD α) ∧ repV w α Av s x v F
  | .cons s r, x, vs, F => ∃ v vs' F1 F2, vs = v :: vs' ∧ F = F1 ++ F2 ∧ repV w α Av s x.1 v F1 ∧ repA w α Av r x.2 vs' F2
  | .pin p r, x, vs, F => ∃ us, vs = pinD α p :: us ∧ repA w α Av r x us F
  | .pins ps, _, vs, F => vs = ps.map (pinD α) ∧ F = []

/-- What is asked of blocks that come under new names. -/
structure Free (S : Nat → Prop) (w0 : World) (ν : Nat → Value) (st : St) (F : List Nat) : Prop where
  nodup : F.Nodup
  mine : ∀ b ∈ F, S b ∨ w0.heap.size ≤ b
  apart : ∀ b ∈ F, ∀ j o, lkp j st.H = some o → mineOf (ν j) o ≠ some b
/-- The objects' names. -/
def Gam (γ : List Nat) (n : Nat) (α : Nat → Value) (ν : Nat → Value) (nx : Nat) : Prop := ∀ k, k < n → nth γ k < nx ∧ ν (nth γ k) = α k ∧ ∃ b, α k = .pointer (some ⟨b, 0, none⟩)
theorem Gam.mono {γ : List Nat} {n : Nat} {α ν ν' : Nat → Value} {nx nx' : Nat} (h : Gam γ n α ν nx) (hx : nx ≤ nx') (hv : ∀ j, j < nx → ν j = ν' j) : Gam γ n α ν' nx' :=
  fun k hk => ⟨Nat.lt_of_lt_of_le (h k hk).1 hx, by rw [← hv _ (h k hk).1]; exact (h k hk).2.1, (h k hk).2.2⟩
theorem pinV_den {γ : List Nat} {n : Nat} {α ν : Nat → Value} {nx : Nat} (h : Gam γ n α ν nx) {p : Pin} (hp : p.lt n = true) : den ν (pinV γ p) = pinD α p ∧ svLt nx (pinV γ p) = true := by
  cases p with
  | ref k =>
    obtain ⟨h1, h2, b, h3⟩ := h k (Nat.le_of_ble_eq_true hp)
    refine ⟨?_, ?_⟩
    · simp only [pinV, den, pinD]; rw [h2, h3]; rfl
    · simp only [pinV, svLt]; exact Nat.ble_eq_true_of_le h1
  | nil => exact ⟨by simp only [pinV, den, pinD], rfl⟩
theorem pinsV_den {γ : List Nat} {n : Nat} {α ν : Nat → Value} {nx : Nat} (h : Gam γ n α ν nx) : ∀ {ps : List Pin}, ps.all (Pin.lt n) = true → denL ν (ps.map (pinV γ)) = ps.map (pinD α) ∧ belowL nx (ps.map (pinV γ)) = true
  | [], _ => ⟨rfl, rfl⟩
  | p :: ps, hp => by
    simp only [List.all_cons, Bool.and_eq_true] at hp
    obtain ⟨a, b⟩ := pinV_den h hp.1
    obtain ⟨c, d⟩ := pinsV_den h hp.2
    exact ⟨by simp only [List.map_cons, denL, a, c], by simp only [List.map_cons, belowL, b, d, Bool.and_self]⟩

/-- One more name for what lies there. -/
theorem RelW.name {S : Nat → Prop} {w0 : World} {ν : Nat → Value} {st : St} {w : World} (h : RelW S w0 ν st w) {v : Value} {own : Bool} {t : TypeId} {ls : List Lf} {xs : List (LT ls)} (hls : ls ≠ []) (hv : RowSat w v own t ls xs)
    (hF : Free S w0 ν st (mineOf v (.row own t ls xs)).toList) (hview : ∀ b, seenOf v (.row own t ls xs) = some b → b < w0.heap.size ∧ ¬ S b) : RelW S w0 (upd ν st.nx v) (st.add (.row own t ls xs)) w := by
  have hs : hoSat (upd ν st.nx v) w st.nx (.row own t ls xs) := ⟨hls, by rw [upd_new]; exact hv⟩
  refine h.new ⟨rfl, rfl, rfl, Nat.le_refl _⟩ v _ st.H st.dirty (fun _ _ h => h) (fun _ _ _ _ _ => rfl) (fun _ _ _ => rfl) rfl hs ?_ ?_ hview
  · intro j o b hj hb hb'
    exact hF.apart b (by rw [hb']; simp) j o hj hb
  · intro b hb
    exact hF.mine b (by rw [hb]; simp)

/-- Likewise, for a map. -/
theorem RelW.nameM {S : Nat → Prop} {w0 : World} {ν : Nat → Value} {st : St} {w : World} (h : RelW S w0 ν st w) {b : Nat} {ka va : Bool} {kl vl : List Lf} {es : List (LT kl × LT vl)} (t : TypeId) (hv : MapSat w b ka va kl vl es)
    (hF : Free S w0 ν st [b]) : RelW S w0 (upd ν st.nx (.map (some b))) (st.add (.map t ka va kl vl es)) w := by
  have hs : hoSat (upd ν st.nx (.map (some b))) w st.nx (.map t ka va kl vl es) := ⟨b, upd_new, hv⟩
  refine h.new ⟨rfl, rfl, rfl, Nat.le_refl _⟩ _ _ st.H st.dirty (fun _ _ h => h) (fun _ _ _ _ _ => rfl) (fun _ _ _ => rfl) rfl hs ?_ ?_ (fun b hb => by simp [seenOf] at hb)
  · intro j o c hj hb hb'
    simp only [mineOf, blk, Option.some.injEq] at hb'
    subst hb'
    exact hF.apart b (by simp) j o hj hb
  · intro c hb
    simp only [mineOf, blk, Option.some.injEq] at hb
    subst hb
    exact hF.mine b (by simp)
/-- What follows of names given to what lies there. -/
def Given (S : Nat → Prop) (w0 : World) (w : World) (ν : Nat → Value) (st : St) (F : List Nat) (os : List HO) (ν' : Nat → Value) : Prop :=
  RelW S w0 ν' (st.adds os) w ∧ (∀ j, j < st.nx → ν j = ν' j) ∧
    (∀ j o b, lkp j (st.adds os).H = some o → mineOf (ν' j) o = some b → (∃ o', lkp j st.H = some o' ∧ mineOf (ν j) o' = some b) ∨ b ∈ F)
theorem Given.refl {S : Nat → Prop} {w0 w : World} {ν : Nat → Value} {st : St} (hR : RelW S w0 ν st w) (F : List Nat) : Given S w0 w ν st F [] ν := ⟨hR, fun _ _ => rfl, fun j o b hj hb => .inl ⟨o, hj, hb⟩⟩
theorem Given.trans {S : Nat → Prop} {w0 w : World} {ν ν1 ν2 : Nat → Value} {st : St} {F1 F2 : List Nat} {o1 o2 : List HO} (h : Given S w0 w ν st F1 o1 ν1) (k : Given S w0 w ν1 (st.adds o1) F2 o2 ν2) : Given S w0 w ν st (F1 ++ F2) (o1 ++ o2) ν2 := by
  refine ⟨by rw [adds_append]; exact k.1, fun j hj => (h.2.1 j hj).trans (k.2.1 j (by rw [adds_nx]; omega)), ?_⟩
  intro j o b hj hb
  rw [adds_append] at hj
  rcases k.2.2 j o b hj hb with ⟨o', ho', hm⟩ | hm
  · rcases h.2.2 j o' b ho' hm with h | h
    · exact .inl h
    · exact .inr (by simp [h])
  · exact .inr (by simp [hm])
theorem Free.left {S : Nat → Prop} {w0 : World} {ν : Nat → Value} {st : St} {F1 F2 : List Nat} (h : Free S w0 ν st (F1 ++ F2)) : Free S w0 ν st F1 :=
  ⟨(List.nodup_append.1 h.nodup).1, fun b hb => h.mine b (by simp [hb]), fun b hb => h.apart b (by simp [hb])⟩
theorem Free.right {S : Nat → Prop} {w0 w : World} {ν ν1 : Nat → Value} {st : St} {F1 F2 : List Nat} {o1 : List HO} (h : Free S w0 ν st (F1 ++ F2)) (g : Given S w0 w ν st F1 o1 ν1) : Free S w0 ν1 (st.adds o1) F2 := by
  have hnd := List.nodup_append.1 h.nodup
  refine ⟨hnd.2.1, fun b hb => h.mine b (by simp [hb]), fun b hb j o hj hb' => ?_⟩
  rcases g.2.2 j o b hj hb' with ⟨o', ho', hm⟩ | hm
  · exact h.apart b (by simp [hb]) j o' ho' hm
  · exact hnd.2.2 b hm b hb rfl

section
variable {S : Nat → Prop} {w0 : World} {w : World} {α : Nat → Value} {Av : Nat → Prop} {γ : List Nat} {n : Nat}
theorem denL_append' (ν : Nat → Value) (a b : List SV) : denL ν (a ++ b) = denL ν a ++ denL ν b := denL_append ν a b
mutual
theorem giveS_sound : ∀ (s : Sh) (x : s.T) (vs : List Value) (F : List Nat) (ν : Nat → Value) (st : St), RelW S w0 ν st w → repS w α Av s x vs F → Free S w0 ν st F → Gam γ n α ν st.nx → s.lt n = true →
    (s.fresh = true ∨ ∀ b, Av b → b < w0.heap.size ∧ ¬ S b) →
    ∃ ν', Given S w0 w ν st F (giveS γ s x st.nx).2 ν' ∧ denL ν' (giveS γ s x st.nx).1 = vs ∧ belowL (st.nx + (giveS γ s x st.nx).2.length) (giveS γ s x st.nx).1 = true
  | .leaf l, x, vs, F, ν, st, hR, hr, hF, hG, hl, hv => by
    obtain ⟨rfl, rfl⟩ := hr
    refine ⟨ν, Given.refl hR _, ?_, ?_⟩
    · show denL ν [l.enc x] = _
      simp only [denL]
      rw [den_congr (n := 0) (ν := ν) (ν' := ν0) (fun j hj => absurd hj (Nat.not_lt_zero j)) _ (lf_enc_lt 0 l x)]
    · exact Bool.and_eq_true_iff.2 ⟨lf_enc_lt _ l x, rfl⟩
  | .row own t ls, xs, vs, F, ν, st, hR, hr, hF, hG, hl, hv => by
    obtain ⟨v, rfl, hls, hsat, rfl, hav⟩ := hr
    have hR' := hR.name hls hsat hF (fun b hb => by
      rcases hv with h | h
      · have : own = true := h
        subst this
        simp [seenOf] at hb
      · exact h b (hav b hb))
    refine ⟨_, ⟨hR', fun j hj => upd_old hj, ?_⟩, ?_, ?_⟩
    · intro j o b hj hb
      have hj' : lkp j ((st.nx, HO.row own t ls xs) :: st.H) = some o := hj
      clear hj
      rw [lkp_cons] at hj'
      by_cases e : st.nx = j
      · rw [if_pos e] at hj'
        subst e
        rw [← Option.some.inj hj', upd_new] at hb
        exact .inr (by rw [hb]; simp)
      · rw [if_neg e] at hj'
        rw [← upd_old (hR.lt j o hj').1] at hb; exact .inl ⟨o, hj', hb⟩
    · show denL _ [.osl st.nx] = _
      simp only [denL, den, upd_new]
      rcases hsat with ⟨rfl, _⟩ | ⟨_, _, rfl, _⟩ <;> rfl
    · show belowL _ [.osl st.nx] = true
      simp [belowL, svLt, giveS]
  | .map t ka va kl vl, es, vs, F, ν, st, hR, hr, hF, hG, hl, hv => by
    obtain ⟨b, rfl, hsat, rfl⟩ := hr
    have hR' := hR.nameM t hsat hF
    refine ⟨_, ⟨hR', fun j hj => upd_old hj, ?_⟩, ?_, ?_⟩
    · intro j o c hj hb
      have hj' : lkp j ((st.nx, HO.map t ka va kl vl es) :: st.H) = some o := hj
      clear hj
      rw [lkp_cons] at hj'
      by_cases e : st.nx = j
      · rw [if_pos e] at hj'
        subst e
        rw [← Option.some.inj hj', upd_new] at hb
        simp only [mineOf, blk, Option.some.injEq] at hb
        exact .inr (by rw [hb]; simp)
      · rw [if_neg e] at hj'
        rw [← upd_old (hR.lt j o hj').1] at hb; exact .inl ⟨o, hj', hb⟩
    · show denL _ [.mp st.nx] = _
      simp only [denL, den, upd_new]
      rfl
    · show belowL _ [.mp st.nx] = true
      simp [belowL, svLt, giveS]
  | .tab t f, xs, vs, F, ν, st, hR, hr, hF, hG, hl, hv => by
    obtain ⟨v, rfl, rfl, htab⟩ := hr
    have hav : ∀ b, Av b → b < w0.heap.size ∧ ¬ S b := by
      rcases hv with h | h
      · cases h
      · exact h
    have hs : TabSat S w0 v f xs := htab.mono (fun b hb => (hR.frame b (hav b hb).1 (hav b hb).2).symm) hav
    have hR' : RelW S w0 (upd ν st.nx v) (st.add (.tab t f xs)) w :=
      hR.new ⟨rfl, rfl, rfl, Nat.le_refl _⟩ v _ st.H st.dirty (fun _ _ h => h) (fun _ _ _ _ _ => rfl) (fun _ _ _ => rfl) rfl trivial (fun j o b hj hb hb' => by simp [mineOf] at hb') (fun b hb => by simp [mineOf] at hb) (fun b hb => by simp [seenOf] at hb) (fun t' f' xs' e => by cases e; exact hs)
    refine ⟨_, ⟨hR', fun j hj => upd_old hj, ?_⟩, ?_, ?_⟩
    · intro j o b hj hb
      have hj' : lkp j ((st.nx, HO.tab t f xs) :: st.H) = some o := hj
      clear hj
      rw [lkp_cons] at hj'
      by_cases e : st.nx = j
      · rw [if_pos e] at hj'
        subst e
        rw [← Option.some.inj hj', upd_new] at hb
        simp [mineOf] at hb
      · rw [if_neg e] at hj'
        rw [← upd_old (hR.lt j o hj').1] at hb; exact .inl ⟨o, hj', hb⟩
    · show denL _ [.osl st.nx] = _
      simp only [denL, den, upd_new, htab.hdr]
    · show belowL _ [.osl st.nx] = true
      simp [belowL, svLt, giveS]
  | .agg f, x, vs, F, ν, st, hR, hr, hF, hG, hl, hv => giveF_sound f x vs F ν st hR hr hF hG hl hv
theorem giveF_sound : ∀ (f : Shs) (x : f.T) (vs : List Value) (F : List Nat) (ν : Nat → Value) (st : St), RelW S w0 ν st w → repF w α Av f x vs F → Free S w0 ν st F → Gam γ n α ν st.nx → f.lt n = true →
    (f.fresh = true ∨ ∀ b, Av b → b < w0.heap.size ∧ ¬ S b) →
    ∃ ν', Given S w0 w ν st F (giveF γ f x st.nx).2 ν' ∧ denL ν' (giveF γ f x st.nx).1 = vs ∧ belowL (st.nx + (giveF γ f x st.nx).2.length) (giveF γ f x st.nx).1 = true
  | .one s ps, x, vs, F, ν, st, hR, hr, hF, hG, hl, hv => by
    obtain ⟨us, rfl, hr⟩ := hr
    simp only [Shs.lt, Bool.and_eq_true] at hl
    obtain ⟨ν', g, h2, h3⟩ := giveS_sound s x us F ν st hR hr hF hG hl.1 hv
    have hG' := hG.mono (nx' := st.nx + (giveS γ s x st.nx).2.length) (by omega) g.2.1
    obtain ⟨p1, p2⟩ := pinsV_den hG' hl.2
    refine ⟨ν', g, ?_, ?_⟩
    · show denL ν' (_ ++ _) = _
      rw [denL_append, h2, p1]
    · exact belowL_append h3 p2
  | .cons s r, x, vs, F, ν, st, hR, hr, hF, hG, hl, hv => by
    obtain ⟨vs1, vs2, F1, F2, rfl, rfl, h1, h2⟩ := hr
    simp only [Shs.lt, Bool.and_eq_true] at hl
    obtain ⟨ν1, g1, a3, a4⟩ := giveS_sound s x.1 vs1 F1 ν st hR h1 hF.left hG hl.1 (hv.imp (fun h => by simp [Shs.fresh] at h; exact h.1) id)
    have hG1 : Gam γ n α ν1 (st.adds (giveS γ s x.1 st.nx).2).nx := hG.mono (by rw [adds_nx]; omega) g1.2.1
    obtain ⟨ν2, g2, b3, b4⟩ := giveF_sound r x.2 vs2 F2 ν1 _ g1.1 h2 (hF.right g1) hG1 hl.2 (hv.imp (fun h => by simp [Shs.fresh] at h; exact h.2) id)
    have g := g1.trans g2
    rw [adds_nx] at b3 b4 g
    refine ⟨ν2, g, ?_, ?_⟩
    · show denL ν2 (_ ++ _) = _
      have b2 := g2.2.1
      rw [adds_nx] at b2
      rw [denL_append, b3, ← denL_congr b2 _ a4, a3]
    · show belowL (_ + (_ ++ _ : List HO).length) (_ ++ _) = true
      rw [List.length_append, ← Nat.add_assoc]
      exact belowL_append (belowL_mono (by omega) _ a4) b4
  | .pin p r, x, vs, F, ν, st, hR, hr, hF, hG, hl, hv => by
    obtain ⟨us, rfl, hr⟩ := hr
    simp only [Shs.lt, Bool.and_eq_true] at hl
    obtain ⟨ν', g, h2, h3⟩ := giveF_sound r x us F ν st hR hr hF hG hl.2 hv
    have hG' := hG.mono (nx' := st.nx + (giveF γ r x st.nx).2.length) (by omega) g.2.1
    obtain ⟨p1, p2⟩ := pinV_den hG' hl.1
    exact ⟨ν', g, by simp only [giveF, denL, p1, h2], by simp only [giveF, belowL, p2, Bool.true_and]; exact h3⟩
  | .pins ps, x, vs, F, ν, st, hR, hr, hF, hG, hl, hv => by
    obtain ⟨rfl, rfl⟩ := hr
    obtain ⟨p1, p2⟩ := pinsV_den hG hl
    exact ⟨ν, Given.refl hR _, p1, p2⟩
end
theorem valS_den {ν : Nat → Value} {s : Sh} {cs : List SV} {vs : List Value} {v : Value} (h : denL ν cs = vs) (hv : valIs s vs v) : den ν (valS s cs) = v := by
  cases s with
  | agg f => simp only [valIs] at hv; subst hv; simp only [valS, den]; rw [h]
  | leaf l =>
    simp only [valIs] at hv
    subst hv
    match cs, h with
    | [c], h => show den ν c = v; simpa [denL] using h
    | [], h => simp [denL] at h
    | _ :: _ :: _, h => simp [denL] at h
  | row own t ls =>
    simp only [valIs] at hv
    subst hv
    match cs, h with
    | [c], h => show den ν c = v; simpa [denL] using h
    | [], h => simp [denL] at h
    | _ :: _ :: _, h => simp [denL] at h
  | map t ka va kl vl =>
    simp only [valIs] at hv
    subst hv
    match cs, h with
    | [c], h => show den ν c = v; simpa [denL] using h
    | [], h => simp [denL] at h
    | _ :: _ :: _, h => simp [denL] at h
  | tab t f =>
    simp only [valIs] at hv
    subst hv
    match cs, h with
    | [c], h => show den ν c = v; simpa [denL] using h
    | [], h => simp [denL] at h
    | _ :: _ :: _, h => simp [denL] at h
theorem valS_lt {m : Nat} {s : Sh} {cs : List SV} (h : belowL m cs = true) : svLt m (valS s cs) = true := by
  cases s with
  | agg f => simpa only [valS, svLt] using h
  | leaf l =>
    match cs, h with
    | [c], h => simpa [valS, belowL] using h
    | [], h => simp [valS, svLt, belowL]
    | _ :: _ :: _, h => simp [valS, svLt, belowL]
  | row own t ls =>
    match cs, h with
    | [c], h => simpa [valS, belowL] using h
    | [], h => simp [valS, svLt, belowL]
    | _ :: _ :: _, h => simp [valS, svLt, belowL]
  | map t ka va kl vl =>
    match cs, h with
    | [c], h => simpa [valS, belowL] using h
    | [], h => simp [valS, svLt, belowL]
    | _ :: _ :: _, h => simp [valS, svLt, belowL]
  | tab t f =>
    match cs, h with
    | [c], h => simpa [valS, belowL] using h
    | [], h => simp [valS, svLt, belowL]
    | _ :: _ :: _, h => simp [valS, svLt, belowL]
theorem giveV_sound (s : Sh) (x : s.T) (v : Value) (F : List Nat) (ν : Nat → Value) (st : St) (hR : RelW S w0 ν st w) (hr : repV w α Av s x v F) (hF : Free S w0 ν st F) (hG : Gam γ n α ν st.nx) (hl : s.lt n = true)
    (hv : s.fresh = true ∨ ∀ b, Av b → b < w0.heap.size ∧ ¬ S b) :
    ∃ ν', Given S w0 w ν st F (giveS γ s x st.nx).2 ν' ∧ den ν' (valS s (giveS γ s x st.nx).1) = v ∧ svLt (st.nx + (giveS γ s x st.nx).2.length) (valS s (giveS γ s x st.nx).1) = true := by
  obtain ⟨cs, hcs, hval⟩ := hr
  obtain ⟨ν', g, a3, a4⟩ := giveS_sound s x cs F ν st hR hcs hF hG hl hv
  exact ⟨ν', g, valS_den a3 hval, valS_lt a4⟩
theorem giveA_sound : ∀ (f : Shs) (x : f.T) (vs : List Value) (F : List Nat) (ν : Nat → Value) (st : St), RelW S w0 ν st w → repA w α Av f x vs F → Free S w0 ν st F → Gam γ n α ν st.nx → f.lt n = true →
    (f.fresh = true ∨ ∀ b, Av b → b < w0.heap.size ∧ ¬ S b) →
    ∃ ν', Given S w0 w ν st F (giveA γ f x st.nx).2 ν' ∧ denL ν' (giveA γ f x st.nx).1 = vs ∧ belowL (st.nx + (giveA γ f x st.nx).2.length) (giveA γ f x st.nx).1 = true
  | .one s ps, x, vs, F, ν, st, hR, hr, hF, hG, hl, hv => by
    obtain ⟨v, rfl, hr⟩ := hr
    simp only [Shs.lt, Bool.and_eq_true] at hl
    obtain ⟨ν', h1, h2, h3⟩ := giveV_sound s x v F ν st hR hr hF hG hl.1 hv
    have hG' := hG.mono (nx' := st.nx + (giveS γ s x st.nx).2.length) (by omega) h1.2.1
    obtain ⟨p1, p2⟩ := pinsV_den hG' hl.2
    exact ⟨ν', h1, by simp only [giveA, denL, h2, p1], by simp only [giveA, belowL, h3, Bool.true_and]; exact p2⟩
  | .cons s r, x, vs, F, ν, st, hR, hr, hF, hG, hl, hv => by
    obtain ⟨v, vs', F1, F2, rfl, rfl, h1, h2⟩ := hr
    simp only [Shs.lt, Bool.and_eq_true] at hl
    obtain ⟨ν1, g1, a3, a4⟩ := giveV_sound s x.1 v F1 ν st hR h1 hF.left hG hl.1 (hv.imp (fun h => by simp [Shs.fresh] at h; exact h.1) id)
    have hG1 : Gam γ n α ν1 (st.adds (giveS γ s x.1 st.nx).2).nx := hG.mono (by rw [adds_nx]; omega) g1.2.1
    obtain ⟨ν2, g2, b3, b4⟩ := giveA_sound r x.2 vs' F2 ν1 _ g1.1 h2 (hF.right g1) hG1 hl.2 (hv.imp (fun h => by simp [Shs.fresh] at h; exact h.2) id)
    have g := g1.trans g2
    have b2 := g2.2.1
    rw [adds_nx] at b2 b3 b4 g
    refine ⟨ν2, g, ?_, ?_⟩
    · simp only [giveA, denL]
      rw [b3, ← den_congr b2 _ a4, a3]
    · simp only [giveA, belowL, List.length_append, Bool.and_eq_true]
      exact ⟨svLt_mono (by omega) _ a4, by rw [← Nat.add_assoc]; exact b4⟩
  | .pin p r, x, vs, F, ν, st, hR, hr, hF, hG, hl, hv => by
    obtain ⟨us, rfl, hr⟩ := hr
    simp only [Shs.lt, Bool.and_eq_true] at hl
    obtain ⟨ν', g, h2, h3⟩ := giveA_sound r x us F ν st hR hr hF hG hl.2 hv
    have hG' := hG.mono (nx' := st.nx + (giveA γ r x st.nx).2.length) (by omega) g.2.1
    obtain ⟨p1, p2⟩ := pinV_den hG' hl.1
    exact ⟨ν', g, by simp only [giveA, denL, p1, h2], by simp only [giveA, belowL, p2, Bool.true_and]; exact h3⟩
  | .pins ps, x, vs, F, ν, st, hR, hr, hF, hG, hl, hv => by
    obtain ⟨rfl, rfl⟩ := hr
    obtain ⟨p1, p2⟩ := pinsV_den hG hl
    exact ⟨ν, Given.refl hR _, p1, p2⟩
end
end Go.Aq
