/- Contracts: from an evaluation to a contract, from a contract to a callee; with objects that are handed over by their places. -/
import Derived.Test.YtpfddjdkafjjfaaGreatV13
namespace Go.Aq
open Go.RowKit (Below)
set_option linter.unusedVariables false

theorem O.sum_ex : ∃ B : (ε α β : Type) → O (ε ⊕ α) → (ε → O β) → (α → O β) → O β, ∀ ε α β m g f, B ε α β m g f = (match m with | .ok (.inl e) => g e | .ok (.inr a) => f a | .pan _ => .no | .no => .no) := ⟨_, fun _ _ _ _ _ _ => rfl⟩
/-- What follows of what was panicked with, and of what was handed back. -/
noncomputable def O.sum {ε α β : Type} (m : O (ε ⊕ α)) (g : ε → O β) (f : α → O β) : O β := Classical.choose O.sum_ex ε α β m g f
theorem O.sum_eq {ε α β : Type} (m : O (ε ⊕ α)) (g : ε → O β) (f : α → O β) : O.sum m g f = (match m with | .ok (.inl e) => g e | .ok (.inr a) => f a | .pan _ => .no | .no => .no) := Classical.choose_spec O.sum_ex ε α β m g f
@[simp] theorem O.sum_inl {ε α β : Type} (e : ε) (g : ε → O β) (f : α → O β) : O.sum (.ok (.inl e)) g f = g e := O.sum_eq _ _ _
@[simp] theorem O.sum_inr {ε α β : Type} (a : α) (g : ε → O β) (f : α → O β) : O.sum (.ok (.inr a)) g f = f a := O.sum_eq _ _ _

def Lf.gl : (l : Lf) → l.T → GL
  | .int k, n => .int k n
  | .bool, b => .bool b
  | .str, s => .str s
def glsOf : (ls : List Lf) → LT ls → List GL
  | [], _ => []
  | [l], x => [l.gl x]
  | l :: m :: ls, x => l.gl x.1 :: glsOf (m :: ls) x.2
def Lf.ungl : (l : Lf) → GL → Option l.T
  | .int k, .int k' n => bif decide (k = k') then some n else none
  | .bool, .bool b => some b
  | .str, .str s => some s
  | _, _ => none
def unglsOf : (ls : List Lf) → List GL → Option (LT ls)
  | [], [] => some ()
  | [l], [g] => l.ungl g
  | l :: m :: ls, g :: gs => match l.ungl g with
    | some x => match unglsOf (m :: ls) gs with
      | some y => some (x, y)
      | none => none
    | none => none
  | _, _ => none
theorem ungl_of {l : Lf} {g : GL} {x : l.T} (h : l.ungl g = some x) : g = l.gl x := by
  cases l <;> cases g <;> simp only [Lf.ungl, reduceCtorEq] at h
  · rename_i k k' n
    by_cases hk : k = k'
    · subst hk
      rw [decide_eq_true rfl, cond_true] at h
      rw [← Option.some.inj h]; rfl
    · rw [decide_eq_false hk, cond_false] at h; cases h
  · rw [← Option.some.inj h]; rfl
  · rw [← Option.some.inj h]; rfl
theorem ungls_one (l : Lf) (g : GL) : unglsOf [l] [g] = l.ungl g := rfl
theorem ungls_more (l m : Lf) (ls : List Lf) (g : GL) (gs : List GL) : unglsOf (l :: m :: ls) (g :: gs) = (match l.ungl g with
    | some x => match unglsOf (m :: ls) gs with
      | some y => some (x, y)
      | none => none
    | none => none) := rfl
theorem ungls_of : ∀ (ls : List Lf) (gs : List GL) (x : LT ls), unglsOf ls gs = some x → gs = glsOf ls x := by
  intro ls
  induction ls with
  | nil =>
    intro gs x h
    cases gs with
    | nil => rfl
    | cons _ _ => exact nomatch h
  | cons l ls ih =>
    intro gs x h
    cases ls with
    | nil =>
      cases gs with
      | nil => exact nomatch h
      | cons g gs =>
        cases gs with
        | nil => rw [ungls_one] at h; rw [ungl_of h]; rfl
        | cons _ _ => exact nomatch h
    | cons m ls =>
      cases gs with
      | nil => exact nomatch h
      | cons g gs =>
        rw [ungls_more] at h
        split at h
        · rename_i y hy
          split at h
          · rename_i z hz
            rw [← Option.some.inj h, ungl_of hy, ih gs z hz]; rfl
          · exact nomatch h
        · exact nomatch h


/-! ### How a call may end -/
inductive AK where
  | unit
  | val (s : Sh)
  | pin (p : Pin)
  | tup (f : Shs)
  | pins (ps : List Pin)
  | pan (t : TypeId) (agg : Bool) (l : Lf) (ls : List Lf)
  | pan0 (t : TypeId) (agg : Bool)
def AK.T : AK → Type
  | .unit => Unit
  | .val s => s.T
  | .pin _ => Unit
  | .tup f => f.T
  | .pins _ => Unit
  | .pan _ _ l ls => LT (l :: ls)
  | .pan0 _ _ => Unit
def AK.fresh : AK → Bool
  | .val s => s.fresh
  | .tup f => f.fresh
  | _ => true
def AK.lt (n : Nat) : AK → Bool
  | .val s => s.lt n
  | .pin p => p.lt n
  | .tup f => f.lt n
  | .pins ps => ps.all (Pin.lt n)
  | _ => true
/-- What is handed back, and the objects then. -/
def PT : AK → Obs → Type
  | .unit, os => ObT os
  | .pin _, os => ObT os
  | .pins _, os => ObT os
  | .pan0 _ _, os => ObT os
  | .val s, [] => s.T
  | .val s, o :: os => s.T × ObT (o :: os)
  | .tup f, [] => f.T
  | .tup f, o :: os => f.T × ObT (o :: os)
  | .pan _ _ l ls, [] => LT (l :: ls)
  | .pan _ _ l ls, o :: os => LT (l :: ls) × ObT (o :: os)
def mkP : (k : AK) → (os : Obs) → k.T → ObT os → PT k os
  | .unit, _, _, g => g
  | .pin _, _, _, g => g
  | .pins _, _, _, g => g
  | .pan0 _ _, _, _, g => g
  | .val _, [], x, _ => x
  | .val _, _ :: _, x, g => (x, g)
  | .tup _, [], x, _ => x
  | .tup _, _ :: _, x, g => (x, g)
  | .pan _ _ _ _, [], x, _ => x
  | .pan _ _ _ _, _ :: _, x, g => (x, g)
def prK : (k : AK) → (os : Obs) → PT k os → k.T
  | .unit, _, _ => ()
  | .pin _, _, _ => ()
  | .pins _, _, _ => ()
  | .pan0 _ _, _, _ => ()
  | .val _, [], x => x
  | .val _, _ :: _, x => x.1
  | .tup _, [], x => x
  | .tup _, _ :: _, x => x.1
  | .pan _ _ _ _, [], x => x
  | .pan _ _ _ _, _ :: _, x => x.1
def prO : (k : AK) → (os : Obs) → PT k os → ObT os
  | .unit, _, g => g
  | .pin _, _, g => g
  | .pins _, _, g => g
  | .pan0 _ _, _, g => g
  | .val _, [], _ => ()
  | .val _, _ :: _, x => x.2
  | .tup _, [], _ => ()
  | .tup _, _ :: _, x => x.2
  | .pan _ _ _ _, [], _ => ()
  | .pan _ _ _ _, _ :: _, x => x.2
theorem prK_mk (k : AK) (os : Obs) (x : k.T) (g : ObT os) : prK k os (mkP k os x g) = x := by
  cases k <;> cases os <;> rfl
theorem prO_mk (k : AK) (os : Obs) (x : k.T) (g : ObT os) : prO k os (mkP k os x g) = g := by
  cases k <;> cases os <;> rfl

/-- Where an object's place is to be found: among values; in a cell of an object. -/
inductive Pth where
  | arg (i c : Nat)
  | fld (k off : Nat)
def pth1 (vs : List SV) (H : Heap) (γ : List Nat) : Pth → Option Nat
  | .arg i c => match vs[i]? with
    | some v => match v.cellsOf[c]? with
      | some (.ptr j 0) => some j
      | _ => none
    | none => none
  | .fld k off => match lkp (nth γ k) H with
    | some (.cells _ cs) => match cs[off]? with
      | some (.ptr j 0) => some j
      | _ => none
    | _ => none
def bindG (vs : List SV) (H : Heap) : List Pth → List Nat → Option (List Nat)
  | [], γ => some γ
  | p :: ps, γ => match pth1 vs H γ p with
    | some j => bindG vs H ps (γ ++ [j])
    | none => none
theorem bindG_pre {vs : List SV} {H : Heap} : ∀ {ps : List Pth} {γ γ' : List Nat}, bindG vs H ps γ = some γ' → ∃ e, γ' = γ ++ e
  | [], γ, γ', h => ⟨[], by simp [bindG] at h; simp [h]⟩
  | p :: ps, γ, γ', h => by
    simp only [bindG] at h
    split at h
    · obtain ⟨e, he⟩ := bindG_pre h
      exact ⟨_ :: e, by rw [he, List.append_assoc]; rfl⟩
    · cases h
theorem nth_app : ∀ {γ e : List Nat} {k : Nat}, k < γ.length → nth (γ ++ e) k = nth γ k
  | [], _, _, h => by cases h
  | _ :: _, _, 0, _ => rfl
  | _ :: r, e, k + 1, h => by simp only [List.cons_append, nth]; exact nth_app (by simpa using h)
theorem nth_app2 : ∀ {γ e : List Nat} {k : Nat}, nth (γ ++ e) (γ.length + k) = nth e k
  | [], e, k => by simp
  | j :: r, e, k => by
    simp only [List.cons_append, List.length_cons]
    rw [show r.length + 1 + k = (r.length + k) + 1 by omega]
    simp only [nth]; exact nth_app2
theorem nth_range' : ∀ {m k a : Nat}, k < m → nth (List.range' a m) k = a + k
  | 0, _, _, h => by cases h
  | m + 1, 0, a, _ => rfl
  | m + 1, k + 1, a, h => by
    rw [List.range'_succ]
    simp only [nth]
    rw [nth_range' (by omega)]; omega
/-- One of the ends that a call may have: what follows, the objects that are new, and where these are to be found. -/
structure Alt where
  k : AK
  new : Obs
  bd : List Pth
inductive As where
  | none
  | some (f : Shs)
def As.T : As → Type
  | .none => Unit
  | .some f => f.T
def As.seen : As → Bool
  | .none => true
  | .some f => f.seen
def As.lt (n : Nat) : As → Bool
  | .none => true
  | .some f => f.lt n
structure Ct where
  as : As
  ob : Obs
  outs : List Alt
def AltsT (ob : Obs) : List Alt → Type
  | [] => Empty
  | [a] => PT a.k (ob ++ a.new)
  | a :: b :: r => PT a.k (ob ++ a.new) ⊕ AltsT ob (b :: r)
def isAlt (ob : Obs) : (l : List Alt) → AltsT ob l → ((a : Alt) → PT a.k (ob ++ a.new) → Prop) → Prop
  | [], _, _ => False
  | [a], y, P => P a y
  | a :: _ :: _, .inl y, P => P a y
  | _ :: b :: r, .inr z, P => isAlt ob (b :: r) z P
theorem isAlt_and {ob : Obs} : ∀ {l : List Alt} {z : AltsT ob l} {P Q : (a : Alt) → PT a.k (ob ++ a.new) → Prop}, isAlt ob l z P → isAlt ob l z Q → ∃ a ∈ l, ∃ y, P a y ∧ Q a y
  | [], _, _, _, h, _ => h.elim
  | [a], y, _, _, h, k => ⟨a, by simp, y, h, k⟩
  | a :: _ :: _, .inl y, _, _, h, k => ⟨a, by simp, y, h, k⟩
  | _ :: b :: r, .inr z, _, _, h, k => by
    obtain ⟨a, ha, y, h1, h2⟩ := isAlt_and (l := b :: r) h k
    exact ⟨a, List.mem_cons_of_mem _ ha, y, h1, h2⟩

def giveAs (γ : List Nat) : (a : As) → a.T → Nat → List SV × List HO
  | .none, _, _ => ([], [])
  | .some f, x, nx => giveA γ f x nx
noncomputable def takeAs {β : Type} (γ : List Nat) : (a : As) → List SV → Heap → (a.T → O β) → O β
  | .none, [], _, K => K ()
  | .some f, vs, H, K => takeA γ f vs H fun x _ => K x
  | _, _, _, _ => .no
def repAs (w : World) (α : Nat → Value) (Av : Nat → Prop) : (a : As) → a.T → List Value → Prop
  | .none, _, vs => vs = []
  | .some f, x, vs => repA w α Av f x vs []

/-- What a call hands back, under names. -/
def giveK {T : Type} (γ : List Nat) (st : St) (K : SV → St → O T) (Kp : PV → St → O T) : (k : AK) → k.T → O T
  | .unit, _ => K (.tup []) st
  | .val s, x => K (valS s (giveS γ s x st.nx).1) (st.adds (giveS γ s x st.nx).2)
  | .pin p, _ => K (pinV γ p) st
  | .tup f, x => K (.tup (giveA γ f x st.nx).1) (st.adds (giveA γ f x st.nx).2)
  | .pins ps, _ => K (.tup (ps.map (pinV γ))) st
  | .pan t g l ls, x => Kp ⟨t, g, glsOf (l :: ls) x⟩ st
  | .pan0 t g, _ => Kp ⟨t, g, []⟩ st
noncomputable def takeK {β : Type} (γ : List Nat) : (k : AK) → SV → Heap → (k.T → O β) → O β
  | .unit, .tup [], _, K => K ()
  | .val s, v, H, K => takeV γ s v H fun x _ => K x
  | .pin p, v, _, K => ifb (pinOk γ p v) (K ()) .no
  | .tup f, .tup vs, H, K => takeA γ f vs H fun x _ => K x
  | .pins ps, .tup vs, _, K => ifb (pinsOk γ ps vs) (K ()) .no
  | _, _, _, _ => .no
noncomputable def takeP {β : Type} : (k : AK) → PV → (k.T → O β) → O β
  | .pan t g l ls, ⟨t', g', gs⟩, K => ifb (Nat.beq t t' && sameB g g') (match unglsOf (l :: ls) gs with
    | some x => K x
    | none => .no) .no
  | .pan0 t g, ⟨t', g', gs⟩, K => ifb (Nat.beq t t' && sameB g g' && gs.isEmpty) (K ()) .no
  | _, _, _ => .no
def fitPin : Pin → SV → Bool
  | .nil, .nilp => true
  | .ref _, .ptr _ _ => true
  | _, _ => false
def fitPins : List Pin → List SV → Bool
  | [], [] => true
  | p :: ps, v :: vs => fitPin p v && fitPins ps vs
  | _, _ => false
def fitA : Shs → List SV → Bool
  | .one _ ps, _ :: vs => fitPins ps vs
  | .cons _ r, _ :: vs => fitA r vs
  | .pin p r, v :: vs => fitPin p v && fitA r vs
  | .pins ps, vs => fitPins ps vs
  | _, _ => false
def fitK : AK → SV → Bool
  | .unit, _ => true
  | .val _, _ => true
  | .pin p, v => fitPin p v
  | .tup f, .tup vs => fitA f vs
  | .pins ps, .tup vs => fitPins ps vs
  | _, _ => false
def fitP : AK → PV → Bool
  | .pan t g _ _, e => Nat.beq t e.t && sameB g e.agg
  | .pan0 t g, e => Nat.beq t e.t && sameB g e.agg
  | _, _ => false
def resL : SV → List SV
  | .tup vs => vs
  | v => [v]
noncomputable def takeAlt {β : Type} (ob : Obs) (γ : List Nat) (a : Alt) (vs : List SV) (H : Heap) (X : List Nat → Heap → (a.k.T → O β) → O β) (k : PT a.k (ob ++ a.new) → O β) : O β :=
  match bindG vs H a.bd γ with
  | some γ' => ifb (Nat.ble (ob ++ a.new).length γ'.length) (takeO γ' 0 (ob ++ a.new) H fun g H => X γ' H fun x => k (mkP a.k (ob ++ a.new) x g)) .no
  | none => .no
/-- How a call ended, told by one of the ends that it may have. -/
noncomputable def outK {β : Type} (ob : Obs) (γ : List Nat) : (l : List Alt) → SV → Heap → (AltsT ob l → O β) → O β
  | [], _, _, _ => .no
  | [a], v, H, k => takeAlt ob γ a (resL v) H (fun γ' H K => takeK γ' a.k v H K) k
  | a :: b :: r, v, H, k => match fitK a.k v with
    | true => takeAlt ob γ a (resL v) H (fun γ' H K => takeK γ' a.k v H K) fun y => k (.inl y)
    | false => outK ob γ (b :: r) v H fun z => k (.inr z)
noncomputable def outP {β : Type} (ob : Obs) (γ : List Nat) : (l : List Alt) → PV → Heap → (AltsT ob l → O β) → O β
  | [], _, _, _ => .no
  | [a], e, H, k => takeAlt ob γ a [] H (fun _ _ K => takeP a.k e K) k
  | a :: b :: r, e, H, k => match fitP a.k e with
    | true => takeAlt ob γ a [] H (fun _ _ K => takeP a.k e K) fun y => k (.inl y)
    | false => outP ob γ (b :: r) e H fun z => k (.inr z)
noncomputable def altsV {T : Type} (ob : Obs) : (l : List Alt) → AltsT ob l → ((a : Alt) → PT a.k (ob ++ a.new) → O T) → O T
  | [], _, _ => .no
  | [a], y, k => k a y
  | a :: b :: r, z, k => O.sum (.ok z) (k a) fun z => altsV ob (b :: r) z k
noncomputable def altsK {T : Type} (ob : Obs) : (l : List Alt) → O (AltsT ob l) → ((a : Alt) → PT a.k (ob ++ a.new) → O T) → O T
  | [], _, _ => .no
  | [a], m, k => O.bind m (k a)
  | a :: b :: r, m, k => O.sum m (k a) fun z => altsV ob (b :: r) z k
theorem altsV_is {T : Type} {ob : Obs} {k : (a : Alt) → PT a.k (ob ++ a.new) → O T} {res : O T} (hne : res ≠ .no) : ∀ {l : List Alt} {z : AltsT ob l}, altsV ob l z k = res → isAlt ob l z fun a y => k a y = res
  | [], _, h => absurd h.symm hne
  | [a], y, h => h
  | a :: b :: r, .inl y, h => (O.sum_inl y (k a) (fun z => altsV ob (b :: r) z k)).symm.trans h
  | a :: b :: r, .inr z, h => altsV_is (l := b :: r) hne ((O.sum_inr z (k a) (fun z => altsV ob (b :: r) z k)).symm.trans h)
theorem bind_is {α β : Type} {m : O α} {f : α → O β} {res : O β} (hne : res ≠ .no) (h : O.bind m f = res) : ∃ z, m = .ok z ∧ f z = res := by
  unfold O.bind at h
  rw [O.both_eq] at h
  cases m with
  | ok z => exact ⟨z, rfl, h⟩
  | pan e => exact absurd h.symm hne
  | no => exact absurd h.symm hne
theorem sum_is {ε α β : Type} {m : O (ε ⊕ α)} {g : ε → O β} {f : α → O β} {res : O β} (hne : res ≠ .no) (h : O.sum m g f = res) : ∃ z, m = .ok z ∧ O.sum (.ok z) g f = res := by
  cases m with
  | ok z => exact ⟨z, rfl, h⟩
  | pan e => rw [O.sum_eq] at h; exact absurd h.symm hne
  | no => rw [O.sum_eq] at h; exact absurd h.symm hne
theorem altsK_is {T : Type} {ob : Obs} {k : (a : Alt) → PT a.k (ob ++ a.new) → O T} {res : O T} (hne : res ≠ .no) : ∀ {l : List Alt} {m : O (AltsT ob l)}, altsK ob l m k = res → ∃ z, m = .ok z ∧ isAlt ob l z fun a y => k a y = res
  | [], _, h => absurd h.symm hne
  | [a], m, h => bind_is hne h
  | a :: b :: r, m, h => by
    obtain ⟨z, h1, h2⟩ := sum_is (ε := PT a.k (ob ++ a.new)) (α := AltsT ob (b :: r)) hne h
    exact ⟨z, h1, altsV_is (l := a :: b :: r) hne h2⟩

/-! ### Contracts -/
def Any : Nat → Prop := fun _ => True
def repE (w : World) (α : Nat → Value) : (k : AK) → k.T → Ending → List Nat → Prop
  | .unit, _, .returned v, F => v = .tuple #[] ∧ F = []
  | .val s, x, .returned v, F => repV w α Any s x v F
  | .pin p, _, .returned v, F => v = pinD α p ∧ F = []
  | .tup f, x, .returned v, F => ∃ vs, v = .tuple vs.toArray ∧ repA w α Any f x vs F
  | .pins ps, _, .returned v, F => v = .tuple (ps.map (pinD α)).toArray ∧ F = []
  | .pan t g l ls, x, .panicked ch, F => ch = panOf ⟨t, g, glsOf (l :: ls) x⟩ ∧ F = []
  | .pan0 t g, _, .panicked ch, F => ch = panOf ⟨t, g, []⟩ ∧ F = []
  | _, _, _, _ => False
/-- Of old memory nothing but some blocks has turned. -/
structure Keep (F : List Nat) (w w' : World) : Prop where
  os : w'.os = w.os
  tape : w'.tape = w.tape
  output : w'.output = w.output
  size : w.heap.size ≤ w'.heap.size
  heap : ∀ b, b < w.heap.size → b ∉ F → w'.heap[b]? = w.heap[b]?
def FnPostC (w : World) (C : Ct) (α : Nat → Value) (F0 : List Nat) (m : O (AltsT C.ob C.outs)) (e : Ending) (w' : World) : Prop :=
  ∃ z, m = .ok z ∧ Keep F0 w w' ∧ isAlt C.ob C.outs z fun a y => ∃ α' F1 F2, (∀ k, k < C.ob.length → α' k = α k) ∧ repO w' α' Any 0 (C.ob ++ a.new) (prO a.k _ y) F1 ∧ repE w' α' a.k (prK a.k _ y) e F2 ∧ (F1 ++ F2).Nodup ∧ ∀ b ∈ F1 ++ F2, b ∈ F0 ∨ w.heap.size ≤ b
def FnOkC (P : Program) (f : FuncId) (C : Ct) (S : C.as.T → ObT C.ob → O (AltsT C.ob C.outs)) : Prop :=
  ∀ x g, S x g ≠ .no → ∀ w vs α F0, repO w α Any 0 C.ob g F0 → F0.Nodup → repAs w α (fun b => b < w.heap.size ∧ b ∉ F0) C.as x vs → Calls P f vs.toArray w (FnPostC w C α F0 (S x g))
def altOk (ob : Obs) (a : Alt) : Bool := a.k.fresh && obsFresh (ob ++ a.new) && obsLt (ob ++ a.new).length (ob ++ a.new) && a.k.lt (ob ++ a.new).length
/-- What is asked of a contract. -/
def Ct.good (C : Ct) : Bool := C.as.seen && C.as.lt C.ob.length && obsFresh C.ob && obsLt C.ob.length C.ob && C.outs.all (altOk C.ob)

section
variable {β : Type} {S : Nat → Prop} {w0 : World} {ν : Nat → Value} {st : St} {w : World} {γ : List Nat} {α : Nat → Value}
theorem repO_ptr : ∀ {os : Obs} {i : Nat} {x : ObT os} {F : List Nat} {Av : Nat → Prop}, repO w α Av i os x F → ∀ k, i ≤ k → k < i + os.length → ∃ b, α k = .pointer (some ⟨b, 0, none⟩)
  | [], i, _, _, _, _, k, h1, h2 => by simp at h2; omega
  | [o], i, x, F, Av, h, k, h1, h2 => by
    obtain ⟨b, _, _, hb, _⟩ := h
    have : k = i := by simp at h2; omega
    subst this; exact ⟨b, hb⟩
  | o :: p :: os, i, x, F, Av, h, k, h1, h2 => by
    obtain ⟨F1, F2, _, ⟨b, _, _, hb, _⟩, h'⟩ := h
    by_cases e : k = i
    · subst e; exact ⟨b, hb⟩
    · exact repO_ptr h' k (by omega) (by simp only [List.length_cons] at h2 ⊢; omega)
theorem repO_lt {w : World} : ∀ {os : Obs} {i : Nat} {x : ObT os} {F : List Nat} {Av : Nat → Prop}, os = [] → repO w α Av i os x F → F = []
  | [], _, _, _, _, _, h => h
  | _ :: _, _, _, _, _, e, _ => by cases e
theorem takeO_names (hR : RelW S w0 ν st w) {res : O β} (hne : res ≠ .no) : ∀ (os : Obs) (i : Nat) (H : Heap) (K : ObT os → Heap → O β), (∀ j o, lkp j H = some o → lkp j st.H = some o) → takeO γ i os H K = res →
    ∀ k, i ≤ k → k < i + os.length → nth γ k < st.nx ∧ ν (nth γ k) = den ν (.ptr (nth γ k) 0)
  | [], i, H, K, hs, h, k, h1, h2 => by simp at h2; omega
  | [o], i, H, K, hs, h, k, h1, h2 => by
    have : k = i := by simp at h2; omega
    subst this
    unfold takeO takeOb at h
    split at h
    · rename_i T vs hj
      obtain ⟨b, hb, _⟩ := hR.sat _ _ (hs _ _ hj)
      exact ⟨(hR.lt _ _ (hs _ _ hj)).1, by simp only [den]; rw [hb]; rfl⟩
    · exact absurd h.symm hne
  | o :: p :: os, i, H, K, hs, h, k, h1, h2 => by
    unfold takeO at h
    by_cases e : k = i
    · subst e
      unfold takeOb at h
      split at h
      · rename_i T vs hj
        obtain ⟨b, hb, _⟩ := hR.sat _ _ (hs _ _ hj)
        exact ⟨(hR.lt _ _ (hs _ _ hj)).1, by simp only [den]; rw [hb]; rfl⟩
      · exact absurd h.symm hne
    · unfold takeOb at h
      split at h
      · rename_i T vs hj
        by_cases hc : Nat.beq o.1 T = true
        · rw [hc, ifb_true] at h
          obtain ⟨x, H', F, h1', _, t1⟩ := takeF_sound (γ := γ) (α := fun k => den ν (.ptr (nth γ k) 0)) (Av := Any) hR (fun k _ => rfl) hne o.2 vs _ _ (fun j q hq => hs j q (lkp_del_some hq).2) ⟨fun _ _ _ _ _ => trivial, fun _ _ _ => trivial⟩ h
          exact takeO_names hR hne (p :: os) (Nat.succ i) H' _ (fun j q hq => hs j q (lkp_del_some (t1.1 j q hq)).2) h1' k (by omega) (by simp only [List.length_cons] at h2 ⊢; omega)
        · rw [Bool.not_eq_true] at hc; rw [hc] at h; exact absurd h.symm hne
      · exact absurd h.symm hne
mutual
theorem seen_S {Av : Nat → Prop} : ∀ (s : Sh) (x : s.T) (vs : List Value) (F : List Nat), s.seen = true → repS w α Av s x vs F → F = []
  | .leaf l, x, vs, F, _, h => h.2
  | .row own t ls, x, vs, F, hs, h => by
    obtain ⟨v, _, _, _, hF, _⟩ := h
    cases own with
    | true => simp [Sh.seen] at hs
    | false => rw [hF]; rfl
  | .map _ _ _ _ _, x, vs, F, hs, h => by cases hs
  | .tab _ _, x, vs, F, hs, h => by
    obtain ⟨v, _, hF, _⟩ := h
    exact hF
  | .agg f, x, vs, F, hs, h => seen_F f x vs F hs h
theorem seen_F {Av : Nat → Prop} : ∀ (f : Shs) (x : f.T) (vs : List Value) (F : List Nat), f.seen = true → repF w α Av f x vs F → F = []
  | .one s ps, x, vs, F, hs, h => by
    obtain ⟨us, _, h⟩ := h
    exact seen_S s x us F hs h
  | .cons s r, x, vs, F, hs, h => by
    obtain ⟨_, _, F1, F2, _, rfl, h1, h2⟩ := h
    simp only [Shs.seen, Bool.and_eq_true] at hs
    rw [seen_S s x.1 _ F1 hs.1 h1, seen_F r x.2 _ F2 hs.2 h2]; rfl
  | .pin p r, x, vs, F, hs, h => by
    obtain ⟨us, _, h⟩ := h
    exact seen_F r x us F hs h
  | .pins ps, x, vs, F, hs, h => h.2
end
theorem seen_A {Av : Nat → Prop} : ∀ (f : Shs) (x : f.T) (vs : List Value) (F : List Nat), f.seen = true → repA w α Av f x vs F → F = []
  | .one s ps, x, vs, F, hs, h => by
    obtain ⟨v, _, cs, h, _⟩ := h
    exact seen_S s x cs F hs h
  | .cons s r, x, vs, F, hs, h => by
    obtain ⟨_, _, F1, F2, _, rfl, ⟨cs, h1, _⟩, h2⟩ := h
    simp only [Shs.seen, Bool.and_eq_true] at hs
    rw [seen_S s x.1 cs F1 hs.1 h1, seen_A r x.2 _ F2 hs.2 h2]; rfl
  | .pin p r, x, vs, F, hs, h => by
    obtain ⟨us, _, h⟩ := h
    exact seen_A r x us F hs h
  | .pins ps, x, vs, F, hs, h => h.2
theorem takeAs_sound {Av : Nat → Prop} (hR : RelW S w0 ν st w) (hG : GamT γ α ν) {res : O β} (hne : res ≠ .no) (as : As) (hsn : as.seen = true) (vs : List SV) (H : Heap) (K : as.T → O β) (hs : ∀ j o, lkp j H = some o → lkp j st.H = some o) (hA : Hangs S w0 ν H Av) (h : takeAs γ as vs H K = res) :
    ∃ x, K x = res ∧ repAs w α Av as x (denL ν vs) := by
  cases as with
  | none =>
    cases vs with
    | nil => exact ⟨(), h, rfl⟩
    | cons _ _ => exact absurd h.symm hne
  | some f =>
    obtain ⟨x, H', F, h1, h2, h3⟩ := takeA_sound hR hG hne f vs H _ hs hA h
    refine ⟨x, h1, ?_⟩
    have := seen_A f x _ F hsn h2
    subst this
    exact h2
theorem takeK_sound (hR : RelW S w0 ν st w) (hG : GamT γ α ν) {res : O β} (hne : res ≠ .no) (k : AK) (v : SV) (H : Heap) (K : k.T → O β) (hs : ∀ j o, lkp j H = some o → lkp j st.H = some o) (h : takeK γ k v H K = res) :
    ∃ x H' F, K x = res ∧ repE w α k x (.returned (den ν v)) F ∧ Taken ν H H' F := by
  have hA : Hangs S w0 ν H Any := ⟨fun _ _ _ _ _ => trivial, fun _ _ _ => trivial⟩
  cases k with
  | unit =>
    cases v with
    | tup vs =>
      cases vs with
      | nil => exact ⟨(), H, [], h, ⟨by simp [den, denL], rfl⟩, Taken.refl ν H⟩
      | cons _ _ => exact absurd h.symm hne
    | _ => exact absurd h.symm hne
  | val s =>
    obtain ⟨x, H', F, h1, h2, h3⟩ := takeV_sound hR hG hne s v H _ hs hA h
    exact ⟨x, H', F, h1, h2, h3⟩
  | pin p =>
    simp only [takeK] at h
    by_cases hp : pinOk γ p v = true
    · rw [hp, ifb_true] at h
      exact ⟨(), H, [], h, ⟨pin_sound hG hp, rfl⟩, Taken.refl ν H⟩
    · rw [Bool.not_eq_true] at hp; rw [hp] at h; exact absurd h.symm hne
  | tup f =>
    cases v with
    | tup vs =>
      obtain ⟨x, H', F, h1, h2, h3⟩ := takeA_sound hR hG hne f vs H _ hs hA h
      exact ⟨x, H', F, h1, ⟨_, by simp [den], h2⟩, h3⟩
    | _ => exact absurd h.symm hne
  | pins ps =>
    cases v with
    | tup vs =>
      simp only [takeK] at h
      by_cases hp : pinsOk γ ps vs = true
      · rw [hp, ifb_true] at h
        exact ⟨(), H, [], h, ⟨by simp only [den]; rw [pins_sound hG hp], rfl⟩, Taken.refl ν H⟩
      · rw [Bool.not_eq_true] at hp; rw [hp] at h; exact absurd h.symm hne
    | _ => exact absurd h.symm hne
  | pan t g l ls => cases v <;> exact absurd h.symm hne
  | pan0 t g => cases v <;> exact absurd h.symm hne
theorem takeP_sound {res : O β} (hne : res ≠ .no) (k : AK) (e : PV) (K : k.T → O β) (h : takeP k e K = res) : ∃ x, K x = res ∧ repE w α k x (.panicked (panOf e)) [] := by
  obtain ⟨t', g', gs⟩ := e
  cases k with
  | pan t g l ls =>
    simp only [takeP] at h
    by_cases hc : (Nat.beq t t' && sameB g g') = true
    · rw [hc, ifb_true] at h
      simp only [Bool.and_eq_true] at hc
      obtain rfl := Nat.eq_of_beq_eq_true hc.1
      obtain rfl := sameB_eq hc.2
      split at h
      · rename_i x hx
        exact ⟨x, h, by rw [ungls_of (l :: ls) gs x hx], rfl⟩
      · exact absurd h.symm hne
    · rw [Bool.not_eq_true] at hc; rw [hc] at h; exact absurd h.symm hne
  | pan0 t g =>
    simp only [takeP] at h
    by_cases hc : (Nat.beq t t' && sameB g g' && gs.isEmpty) = true
    · rw [hc, ifb_true] at h
      simp only [Bool.and_eq_true, List.isEmpty_iff] at hc
      obtain ⟨⟨hc1, hc2⟩, rfl⟩ := hc
      obtain rfl := Nat.eq_of_beq_eq_true hc1
      obtain rfl := sameB_eq hc2
      exact ⟨(), h, rfl, rfl⟩
    · rw [Bool.not_eq_true] at hc; rw [hc] at h; exact absurd h.symm hne
  | _ => exact absurd h.symm hne
end
end Go.Aq
