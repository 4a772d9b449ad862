/- Texts of this proof, joined (5 of them): V1, V2, V3, V4, V5.
   Conditions: none but those that stand at each theorem. -/
import Derived.Calls
import Derived.KernelRfl
import Derived.Laws.CopyRow
import Derived.Laws.Rows
import Derived.Laws.MakeOwn
import Derived.Below
import Derived.Deep.LoopGhost
import Derived.Laws.StructEq
import Derived.MapKept
import Derived.Laws.OwnMore
import Derived.Laws.BytesString
section
namespace Go.Aq
abbrev ifb {α : Type _} (b : Bool) (x y : α) : α := match b with
 | true => x
 | false => y
theorem ifb_true {α : Type _} (x y : α) : ifb true x y = x := rfl
theorem ifb_false {α : Type _} (x y : α) : ifb false x y = y := rfl
inductive Lf where
 | int (k : IntKind)
 | bool
 | str
 deriving DecidableEq
def Lf.T : Lf → Type
 | .int _ => Int
 | .bool => Bool
 | .str => ByteArray
def Lf.dflt : (l : Lf) → l.T
 | .int _ => (0 : Int)
 | .bool => false
 | .str => ByteArray.empty
def LT : List Lf → Type
 | [] => Unit
 | [l] => l.T
 | l :: m :: ls => l.T × LT (m :: ls)
def dfltL : (ls : List Lf) → LT ls
 | [] => ()
 | [l] => l.dflt
 | l :: m :: ls => (l.dflt, dfltL (m :: ls))
inductive SV where
 | int (k : IntKind) (n : Int)
 | bool (b : Bool)
 | str (s : ByteArray)
 | ptr (j off : Nat)
 | ept (j sz : Nat) (i : Int) (off : Nat)
 | osl (j : Nat)
 | mp (j : Nat)
 | sl (j sz : Nat) (ch : List Int) (n : Int)
 | csl (j n : Nat)
 | clo (f : FuncId) (caps : List SV)
 | iface (t : TypeId) (v : SV)
 | agg (cs : List SV)
 | tup (vs : List SV)
 | nilp | nilsl | nilf | nili | nilm
def Lf.enc : (l : Lf) → l.T → SV
 | .int k, n => .int k n
 | .bool, b => .bool b
 | .str, s => .str s
def encL : (ls : List Lf) → LT ls → List SV
 | [], _ => []
 | [l], x => [l.enc x]
 | l :: m :: ls, x => l.enc x.1 :: encL (m :: ls) x.2
def Lf.dec : (l : Lf) → SV → Option l.T
 | .int k, .int k' n => bif decide (k = k') then some n else none
 | .bool, .bool b => some b
 | .str, .str s => some s
 | _, _ => none
def decL : (ls : List Lf) → List SV → Option (LT ls)
 | [], [] => some ()
 | [l], [v] => l.dec v
 | l :: m :: ls, v :: vs => match l.dec v with
  | some x => match decL (m :: ls) vs with
   | some y => some (x, y)
   | none => none
  | none => none
 | _, _ => none
inductive Pin where
 | ref (k : Nat)
 | nil
mutual
inductive Sh where
 | leaf (l : Lf)
 | row (own : Bool) (t : TypeId) (ls : List Lf)
 | map (t : TypeId) (ka va : Bool) (kl vl : List Lf)
 | tab (own : Bool) (t : TypeId) (f : Shs)
 | box (t : TypeId) (f : Shs)
 | agg (f : Shs)
inductive Shs where
 | one (s : Sh) (ps : List Pin)
 | cons (s : Sh) (r : Shs)
 | pin (p : Pin) (r : Shs)
 | pins (ps : List Pin)
end
def Pin.beq : Pin → Pin → Bool
 | .ref k, .ref l => Nat.beq k l
 | .nil, .nil => true
 | _, _ => false
def Pin.beqs : List Pin → List Pin → Bool
 | [], [] => true
 | p :: ps, q :: qs => Pin.beq p q && Pin.beqs ps qs
 | _, _ => false
def beqB : Bool → Bool → Bool
 | true, true => true
 | false, false => true
 | _, _ => false
mutual
def Sh.beq : Sh → Sh → Bool
 | .leaf l, .leaf m => decide (l = m)
 | .row o t ls, .row o' t' ls' => beqB o o' && Nat.beq t t' && decide (ls = ls')
 | .map t ka va kl vl, .map t' ka' va' kl' vl' => Nat.beq t t' && beqB ka ka' && beqB va va' && decide (kl = kl') && decide (vl = vl')
 | .tab o t f, .tab o' t' f' => beqB o o' && Nat.beq t t' && f.beq f'
 | .box t f, .box t' f' => Nat.beq t t' && f.beq f'
 | .agg f, .agg f' => f.beq f'
 | _, _ => false
def Shs.beq : Shs → Shs → Bool
 | .one s ps, .one s' ps' => s.beq s' && Pin.beqs ps ps'
 | .cons s r, .cons s' r' => s.beq s' && r.beq r'
 | .pin p r, .pin p' r' => p.beq p' && r.beq r'
 | .pins ps, .pins ps' => Pin.beqs ps ps'
 | _, _ => false
end
theorem Pin.beq_eq : ∀ {p q : Pin}, Pin.beq p q = true → p = q
 | .ref k, .ref l, h => by rw [Nat.eq_of_beq_eq_true h]
 | .nil, .nil, _ => rfl
 | .ref _, .nil, h => by cases h
 | .nil, .ref _, h => by cases h
theorem Pin.beqs_eq : ∀ {p q : List Pin}, Pin.beqs p q = true → p = q
 | [], [], _ => rfl
 | p :: ps, q :: qs, h => by
  simp only [Pin.beqs, Bool.and_eq_true] at h
  rw [Pin.beq_eq h.1, Pin.beqs_eq h.2]
 | [], _ :: _, h => by cases h
 | _ :: _, [], h => by cases h
theorem beqB_eq {a b : Bool} (h : beqB a b = true) : a = b := by cases a <;> cases b <;> simp_all [beqB]
mutual
theorem Sh.beq_eq : ∀ {a b : Sh}, Sh.beq a b = true → a = b
 | .leaf l, .leaf m, h => by rw [of_decide_eq_true (show decide (l = m) = true from h)]
 | .row o t ls, .row o' t' ls', h => by
  simp only [Sh.beq, Bool.and_eq_true] at h
  rw [beqB_eq h.1.1, Nat.eq_of_beq_eq_true h.1.2, of_decide_eq_true h.2]
 | .map t ka va kl vl, .map t' ka' va' kl' vl', h => by
  simp only [Sh.beq, Bool.and_eq_true] at h
  rw [Nat.eq_of_beq_eq_true h.1.1.1.1, beqB_eq h.1.1.1.2, beqB_eq h.1.1.2, of_decide_eq_true h.1.2, of_decide_eq_true h.2]
 | .tab o t f, .tab o' t' f', h => by
  simp only [Sh.beq, Bool.and_eq_true] at h
  rw [beqB_eq h.1.1, Nat.eq_of_beq_eq_true h.1.2, Shs.beq_eq h.2]
 | .box t f, .box t' f', h => by
  simp only [Sh.beq, Bool.and_eq_true] at h
  rw [Nat.eq_of_beq_eq_true h.1, Shs.beq_eq h.2]
 | .agg f, .agg f', h => by
  simp only [Sh.beq] at h
  rw [Shs.beq_eq h]
 | .leaf _, .row _ _ _, h | .leaf _, .map _ _ _ _ _, h | .leaf _, .tab _ _ _, h | .leaf _, .box _ _, h | .leaf _, .agg _, h | .row _ _ _, .leaf _, h | .row _ _ _, .map _ _ _ _ _, h | .row _ _ _, .tab _ _ _, h
 | .row _ _ _, .box _ _, h | .row _ _ _, .agg _, h | .map _ _ _ _ _, .leaf _, h | .map _ _ _ _ _, .row _ _ _, h | .map _ _ _ _ _, .tab _ _ _, h | .map _ _ _ _ _, .box _ _, h | .map _ _ _ _ _, .agg _, h | .tab _ _ _, .leaf _, h
 | .tab _ _ _, .row _ _ _, h | .tab _ _ _, .map _ _ _ _ _, h | .tab _ _ _, .box _ _, h | .tab _ _ _, .agg _, h | .box _ _, .leaf _, h | .box _ _, .row _ _ _, h | .box _ _, .map _ _ _ _ _, h | .box _ _, .tab _ _ _, h
 | .box _ _, .agg _, h | .agg _, .leaf _, h | .agg _, .row _ _ _, h | .agg _, .map _ _ _ _ _, h | .agg _, .tab _ _ _, h | .agg _, .box _ _, h => by simp [Sh.beq] at h
theorem Shs.beq_eq : ∀ {a b : Shs}, Shs.beq a b = true → a = b
 | .one s ps, .one s' ps', h => by
  simp only [Shs.beq, Bool.and_eq_true] at h
  rw [Sh.beq_eq h.1, Pin.beqs_eq h.2]
 | .cons s r, .cons s' r', h => by
  simp only [Shs.beq, Bool.and_eq_true] at h
  rw [Sh.beq_eq h.1, Shs.beq_eq h.2]
 | .pin p r, .pin p' r', h => by
  simp only [Shs.beq, Bool.and_eq_true] at h
  rw [Pin.beq_eq h.1, Shs.beq_eq h.2]
 | .pins ps, .pins ps', h => by
  simp only [Shs.beq] at h
  rw [Pin.beqs_eq h]
 | .one _ _, .cons _ _, h | .one _ _, .pin _ _, h | .one _ _, .pins _, h | .cons _ _, .one _ _, h | .cons _ _, .pin _ _, h | .cons _ _, .pins _, h
 | .pin _ _, .one _ _, h | .pin _ _, .cons _ _, h | .pin _ _, .pins _, h | .pins _, .one _ _, h | .pins _, .cons _ _, h | .pins _, .pin _ _, h => by simp [Shs.beq] at h
end
mutual
def Sh.T : Sh → Type
 | .leaf l => l.T
 | .row _ _ ls => List (LT ls)
 | .map _ _ _ kl vl => List (LT kl × LT vl)
 | .tab _ _ f => List f.T
 | .box _ f => f.T
 | .agg f => f.T
def Shs.T : Shs → Type
 | .one s _ => s.T
 | .cons s r => s.T × r.T
 | .pin _ r => r.T
 | .pins _ => Unit
end
mutual
def Sh.sz : Sh → Nat
 | .leaf _ => 1
 | .row _ _ _ => 1
 | .map _ _ _ _ _ => 1
 | .tab _ _ _ => 1
 | .box _ _ => 1
 | .agg f => f.sz
def Shs.sz : Shs → Nat
 | .one s ps => s.sz + ps.length
 | .cons s r => s.sz + r.sz
 | .pin _ r => Nat.succ r.sz
 | .pins ps => ps.length
end
inductive HO where
 | cells (T : TypeId) (vs : List SV)
 | row (own : Bool) (t : TypeId) (ls : List Lf) (xs : List (LT ls))
 | map (t : TypeId) (ka va : Bool) (kl vl : List Lf) (es : List (LT kl × LT vl))
 | tab (own : Bool) (t : TypeId) (γ : List Nat) (p : Nat) (f : Shs) (xs : List f.T)
 | opn (t : TypeId) (γ : List Nat) (p : Nat) (f : Shs) (xs : List f.T) (i : Int) (vs : List SV)
 | ghost
instance decLT : (ls : List Lf) → DecidableEq (LT ls)
 | [] => inferInstanceAs (DecidableEq Unit)
 | [.int _] => inferInstanceAs (DecidableEq Int)
 | [.bool] => inferInstanceAs (DecidableEq Bool)
 | [.str] => inferInstanceAs (DecidableEq ByteArray)
 | .int _ :: m :: ls => @instDecidableEqProd Int (LT (m :: ls)) _ (decLT (m :: ls))
 | .bool :: m :: ls => @instDecidableEqProd Bool (LT (m :: ls)) _ (decLT (m :: ls))
 | .str :: m :: ls => @instDecidableEqProd ByteArray (LT (m :: ls)) _ (decLT (m :: ls))
section
variable {K V : Type} [DecidableEq K]
def mhas (es : List (K × V)) (k : K) : Bool := es.any fun e => decide (e.1 = k)
def mget (d : V) (es : List (K × V)) (k : K) : V := match es.find? (fun e => decide (e.1 = k)) with
 | some e => e.2
 | none => d
def mput : List (K × V) → K → V → List (K × V)
 | [], k, v => [(k, v)]
 | e :: es, k, v => if e.1 = k then (k, v) :: es else e :: mput es k v
def mdel : List (K × V) → K → List (K × V)
 | [], _ => []
 | e :: es, k => if e.1 = k then es else e :: mdel es k
end
def encO (agg : Bool) (ls : List Lf) (x : LT ls) : SV := match agg with
 | true => .agg (encL ls x)
 | false => match encL ls x with
  | [v] => v
  | _ => .agg []
def decO (agg : Bool) (ls : List Lf) : SV → Option (LT ls)
 | .agg cs => match agg with
  | true => decL ls cs
  | false => none
 | v => match agg with
  | true => none
  | false => decL ls [v]
def sameB : Bool → Bool → Bool
 | true, true => true
 | false, false => true
 | _, _ => false
theorem sameB_eq {a b : Bool} (h : sameB a b = true) : a = b := by cases a <;> cases b <;> simp_all [sameB]
inductive GL where
 | int (k : IntKind) (n : Int)
 | bool (b : Bool)
 | str (s : ByteArray)
structure PV where
 t : TypeId
 agg : Bool
 cs : List GL
def ofGL : GL → SV
 | .int k n => .int k n
 | .bool b => .bool b
 | .str s => .str s
def ofPV (p : PV) : SV := .iface p.t (match p.agg, p.cs with | false, [c] => ofGL c | _, cs => .agg (cs.map ofGL))
def toGL : SV → Option GL
 | .int k n => some (.int k n)
 | .bool b => some (.bool b)
 | .str s => some (.str s)
 | _ => none
def toGLs : List SV → Option (List GL)
 | [] => some []
 | v :: vs => match toGL v with
  | some g => match toGLs vs with
   | some gs => some (g :: gs)
   | none => none
  | none => none
def toPV : SV → Option PV
 | .iface t (.agg cs) => match toGLs cs with | some gs => some ⟨t, true, gs⟩ | none => none
 | .iface t v => match toGL v with | some g => some ⟨t, false, [g]⟩ | none => none
 | _ => none
inductive O (T : Type) where
 | ok (t : T)
 | pan (e : PV)
 | no
theorem O.both_ex : ∃ B : (α β : Type) → O α → (α → O β) → (PV → O β) → O β, ∀ α β m f g, B α β m f g = (match m with | .ok a => f a | .pan e => g e | .no => .no) := ⟨_, fun _ _ _ _ _ => rfl⟩
noncomputable def O.both {α β : Type} (m : O α) (f : α → O β) (g : PV → O β) : O β := Classical.choose O.both_ex α β m f g
theorem O.both_eq {α β : Type} (m : O α) (f : α → O β) (g : PV → O β) : O.both m f g = (match m with | .ok a => f a | .pan e => g e | .no => .no) := Classical.choose_spec O.both_ex α β m f g
noncomputable def O.bind {α β : Type} (m : O α) (f : α → O β) : O β := O.both m f fun _ => .no
theorem O.cond_ex : ∃ B : (α : Type) → Bool → O α → O α → O α, ∀ α b x y, B α b x y = (match b with | true => x | false => y) := ⟨_, fun _ _ _ _ => rfl⟩
noncomputable def O.cond {α : Type} (b : Bool) (x y : O α) : O α := Classical.choose O.cond_ex α b x y
theorem O.cond_eq {α : Type} (b : Bool) (x y : O α) : O.cond b x y = (match b with | true => x | false => y) := Classical.choose_spec O.cond_ex α b x y
theorem O.chk_ex : ∃ B : (α : Type) → Bool → O α → O α, ∀ α b x, B α b x = (match b with | true => x | false => .no) := ⟨_, fun _ _ _ => rfl⟩
noncomputable def O.chk {α : Type} (b : Bool) (x : O α) : O α := Classical.choose O.chk_ex α b x
theorem O.chk_eq {α : Type} (b : Bool) (x : O α) : O.chk b x = (match b with | true => x | false => .no) := Classical.choose_spec O.chk_ex α b x
theorem O.same_ex : ∃ B : (α : Type) → O α → O α → O α, ∀ α x y, B α x y = @ite _ (x = y) (Classical.propDecidable _) x .no := ⟨_, fun _ _ _ => rfl⟩
noncomputable def O.same {α : Type} (x y : O α) : O α := Classical.choose O.same_ex α x y
theorem O.same_eq {α : Type} (x y : O α) : O.same x y = @ite _ (x = y) (Classical.propDecidable _) x .no := Classical.choose_spec O.same_ex α x y
noncomputable def O.twice {α : Type} (x : O α) : O α := O.same x x
theorem O.twice_eq {α : Type} (x : O α) : O.twice x = x := (O.same_eq x x).trans (if_pos rfl)
theorem O.same_ne {α : Type} {x y res : O α} (h : O.same x y = res) (hne : res ≠ .no) : x = res ∧ y = res := by
 rw [O.same_eq] at h
 split at h
 ·rename_i e; exact ⟨h, e ▸ h⟩
 ·exact absurd h.symm hne
noncomputable def O.chkC {α : Type} (c b : Bool) (x : O α) : O α := match c with
 | true => (match b with | true => x | false => .no)
 | false => O.chk b x
noncomputable def O.test {α : Type} (f b : Bool) (x y : O α) : O α := match f with
 | true => (match b with | true => x | false => y)
 | false => O.cond b x y
theorem O.test_eq {α : Type} (f b : Bool) (x y : O α) : O.test f b x y = (match b with | true => x | false => y) := by
 cases f with
 | true => rfl
 | false => exact O.cond_eq b x y
abbrev Heap := List (Nat × HO)
structure St where
 nx : Nat
 dirty : Bool
 H : Heap
def lkp {α : Type _} (t : Nat) : List (Nat × α) → Option α
 | [] => none
 | (s, v) :: r => bif Nat.beq s t then some v else lkp t r
def del {α : Type _} (t : Nat) : List (Nat × α) → List (Nat × α)
 | [] => []
 | (s, v) :: r => bif Nat.beq s t then del t r else (s, v) :: del t r
def St.put (st : St) (j : Nat) (o : HO) : St := ⟨st.nx, true, (j, o) :: st.H⟩
def St.add (st : St) (o : HO) : St := ⟨Nat.succ st.nx, st.dirty, (st.nx, o) :: st.H⟩
def nth : List Nat → Nat → Nat
 | [], _ => 0
 | j :: _, 0 => j
 | _ :: r, k + 1 => nth r k
def pinV (γ : List Nat) : Pin → SV
 | .ref k => .ptr (nth γ k) 0
 | .nil => .nilp
def Pin.lt (n : Nat) : Pin → Bool
 | .ref k => Nat.blt k n
 | .nil => true
mutual
def Sh.lt (n : Nat) : Sh → Bool
 | .leaf _ => true
 | .row _ _ _ => true
 | .map _ _ _ _ _ => true
 | .tab _ _ f => f.lt n
 | .box _ f => f.lt n
 | .agg f => f.lt n
def Shs.lt (n : Nat) : Shs → Bool
 | .one s ps => s.lt n && ps.all (Pin.lt n)
 | .cons s r => s.lt n && r.lt n
 | .pin p r => p.lt n && r.lt n
 | .pins ps => ps.all (Pin.lt n)
end
def gOf (γ : List Nat) (f : Shs) : List Nat := match f.lt 0 with
 | true => []
 | false => γ
mutual
def giveS (γ : List Nat) : (s : Sh) → s.T → Nat → List SV × List HO
 | .leaf l, x, _ => ([l.enc x], [])
 | .row own t ls, xs, nx => ([.osl nx], [.row own t ls xs])
 | .map t ka va kl vl, es, nx => ([.mp nx], [.map t ka va kl vl es])
 | .tab own t f, xs, nx => ([.osl (Nat.succ nx)], [.ghost, .tab own t (gOf γ f) nx f xs])
 | .box t f, x, nx => ([.ptr (nx + (giveF γ f x nx).2.length) 0], (giveF γ f x nx).2 ++ [.cells t (giveF γ f x nx).1])
 | .agg f, x, nx => giveF γ f x nx
def giveF (γ : List Nat) : (f : Shs) → f.T → Nat → List SV × List HO
 | .one s ps, x, nx => ((giveS γ s x nx).1 ++ ps.map (pinV γ), (giveS γ s x nx).2)
 | .cons s r, x, nx => ((giveS γ s x.1 nx).1 ++ (giveF γ r x.2 (nx + (giveS γ s x.1 nx).2.length)).1, (giveS γ s x.1 nx).2 ++ (giveF γ r x.2 (nx + (giveS γ s x.1 nx).2.length)).2)
 | .pin p r, x, nx => (pinV γ p :: (giveF γ r x nx).1, (giveF γ r x nx).2)
 | .pins ps, _, _ => (ps.map (pinV γ), [])
end
def St.adds (st : St) : List HO → St
 | [] => st
 | o :: os => (st.add o).adds os
mutual
def dfltS : (s : Sh) → s.T
 | .leaf l => l.dflt
 | .row _ _ _ => []
 | .map _ _ _ _ _ => []
 | .tab _ _ _ => []
 | .box _ f => dfltF f
 | .agg f => dfltF f
def dfltF : (f : Shs) → f.T
 | .one s _ => dfltS s
 | .cons s r => (dfltS s, dfltF r)
 | .pin _ r => dfltF r
 | .pins _ => ()
end
mutual
def Sh.tabOk : Sh → Bool
 | .leaf _ => true
 | .row own _ ls => !own && !ls.isEmpty
 | .map _ _ _ _ _ => false
 | .tab own _ f => !own && f.tabOk && Nat.ble 1 f.sz
 | .box _ _ => false
 | .agg f => f.tabOk
def Shs.tabOk : Shs → Bool
 | .one s ps => s.tabOk && ps.isEmpty
 | .cons s r => s.tabOk && r.tabOk
 | .pin _ _ => false
 | .pins _ => false
end
def St.grow (st : St) (j : Nat) (o : HO) : St := ⟨Nat.succ st.nx, true, (st.nx, o) :: del j st.H⟩
def St.wash (st : St) (d : Bool) : St := ⟨st.nx, d, st.H⟩
inductive Ex where
 | normal
 | exit (id : Nat)
 | ret
 | panic (e : PV)
abbrev Env := List (Nat × SV)
structure Fr where
 env : Env
 dfs : List SV
 base : Nat
 sl : List Nat
inductive TK where
 | int (k : IntKind)
 | bool
 | str
 | ptr
 | slice (e : TypeId)
 | func
 | iface
 | map (k e : TypeId)
 | tabE (e : TypeId) (f : Shs)     -- a type of functions; a note besides: of which shape elements of a type are, in a row
 | struct (fs : List (Nat × Nat × Bool)) (size : Nat) (zero : List SV) (eq : Bool)     -- each field: offset, size, is it an aggregate? 'eq': fields of one plain cell each
abbrev Tab := List (Nat × TK)
def TK.zero : TK → SV
 | .int k => .int k 0
 | .bool => .bool false
 | .str => .str ByteArray.empty
 | .ptr => .nilp
 | .slice _ => .nilsl
 | .map _ _ => .nilm
 | .tabE _ _ => .nilf
 | .func => .nilf
 | .iface => .nili
 | .struct _ _ z _ => .agg z
def hintT (e : TypeId) : Tab → Option Shs
 | [] => none
 | (_, .tabE e' f) :: r => bif Nat.beq e' e then some f else hintT e r
 | _ :: r => hintT e r
def TK.isAgg : TK → Bool
 | .struct _ _ _ _ => true
 | _ => false
def TK.size : TK → Nat
 | .struct _ n _ _ => n
 | _ => 1
def SV.cellsOf : SV → List SV
 | .agg cs => cs
 | v => [v]
def lfOf : SV → Option Lf
 | .int k (.ofNat 0) => some (.int k)
 | .bool false => some .bool
 | .str ⟨⟨[]⟩⟩ => some .str
 | _ => none
def lfsOf : List SV → Option (List Lf)
 | [] => some []
 | v :: vs => match lfOf v with
  | some l => match lfsOf vs with
   | some ls => some (l :: ls)
   | none => none
  | none => none
def TK.lfs (k : TK) : Option (List Lf) := match lfsOf k.zero.cellsOf with
 | some (l :: ls) => some (l :: ls)
 | _ => none
def keyTk : TK → Bool
 | .int _ => true
 | .bool => true
 | .str => true
 | .struct _ _ _ e => e
 | _ => false
def mapOk (tab : Tab) (t : TypeId) (ka va : Bool) (kl vl : List Lf) : Bool :=
 match lkp t tab with
 | some (.map k e) => match lkp k tab, lkp e tab with
  | some kk, some ek => keyTk kk && sameB kk.isAgg ka && sameB ek.isAgg va && (match kk.lfs, ek.lfs with
   | some l, some m => decide (l = kl) && decide (m = vl)
   | _, _ => false)
  | _, _ => false
 | _ => false
def isMapTy (tab : Tab) (t : TypeId) : Bool := match lkp t tab with
 | some (.map _ _) => true
 | _ => false
structure Mp where
 j : Nat
 ka : Bool
 va : Bool
 kl : List Lf
 vl : List Lf
 es : List (LT kl × LT vl)
def mpOf (tab : Tab) (t : TypeId) (H : Heap) : SV → Option Mp
 | .mp j => match lkp j H with
  | some (.map t' ka va kl vl es) => bif Nat.beq t t' && mapOk tab t ka va kl vl then some ⟨j, ka, va, kl, vl, es⟩ else none
  | _ => none
 | _ => none
def partOf (isAgg : Bool) (off size : Nat) (cs : List SV) : Option SV :=
 match isAgg with
 | true => bif Nat.ble (off + size) cs.length then some (.agg ((cs.drop off).take size)) else none
 | false => cs[off]?
def setPart (off : Nat) (new cs : List SV) : List SV := cs.take off ++ (new ++ cs.drop (off + new.length))
def isLeaf : SV → Bool
 | .agg _ => false
 | .tup _ => false
 | _ => true
def ofConst : Value → Option SV
 | .int k n => some (.int k n)
 | .bool b => some (.bool b)
 | .string s => some (.str s)
 | .pointer none => some .nilp
 | .slice none 0 0 => some .nilsl
 | .map none => some .nilm
 | .nilFunc => some .nilf
 | .nilIface => some .nili
 | _ => none
def ofOpd (env : Env) : Operand → Option SV
 | .tmp t => lkp t env
 | .const v => ofConst v
 | .global _ => none
 | .func f => some (.clo f [])
def ofOpds (env : Env) : List Operand → Option (List SV)
 | [] => some []
 | x :: xs => match ofOpd env x with
  | some v => match ofOpds env xs with
   | some vs => some (v :: vs)
   | none => none
  | none => none
def ofParts (env : Env) : List (Nat × Operand) → Option (List (Nat × SV))
 | [] => some []
 | (i, x) :: xs => match ofOpd env x with
  | some v => match ofParts env xs with
   | some vs => some ((i, v) :: vs)
   | none => none
  | none => none
def bt (s : ByteArray) (i : Int) : Int := ((s.data.toList.getD i.toNat 0).toNat : Int)
def strOf (xs : List Int) : ByteArray := ⟨(xs.map fun n => UInt8.ofNat n.toNat).toArray⟩
def bytesOf (s : ByteArray) : List Int := s.data.toList.map fun c => (c.toNat : Int)
def bAnd (k : IntKind) (a b : Int) : Int := k.wrap (BitVec.ofInt k.bits a &&& BitVec.ofInt k.bits b).toNat
def bOr (k : IntKind) (a b : Int) : Int := k.wrap (BitVec.ofInt k.bits a ||| BitVec.ofInt k.bits b).toNat
def bXor (k : IntKind) (a b : Int) : Int := k.wrap (BitVec.ofInt k.bits a ^^^ BitVec.ofInt k.bits b).toNat
def bAndNot (k : IntKind) (a b : Int) : Int := k.wrap (BitVec.ofInt k.bits a &&& ~~~(BitVec.ofInt k.bits b)).toNat
def shL (k : IntKind) (a b : Int) : Int := k.wrap (a * 2 ^ (min b.toNat k.bits))
def shR (k : IntKind) (a b : Int) : Int := a.fdiv (2 ^ (min b.toNat k.bits))
def gt {α : Type} (d : α) (xs : List α) (i : Int) : α := xs.getD i.toNat d
def su {α : Type} (xs : List α) (i : Int) (x : α) : List α := xs.set i.toNat x
def sub {α : Type} (xs : List α) (lo n : Int) : List α := (xs.drop lo.toNat).take n.toNat
def putAt {α : Type} (xs : List α) (lo : Int) (ys : List α) : List α := xs.take lo.toNat ++ (ys ++ xs.drop (lo.toNat + ys.length))
def sumI : List Int → Int
 | [] => 0
 | [l] => l
 | l :: m :: ls => l + sumI (m :: ls)
def posI : List Int → Bool
 | [] => true
 | l :: ls => decide (0 ≤ l) && posI ls
noncomputable section
variable {T : Type}
def intOp (cst : Bool) (op : BinOp) (k : IntKind) (a b : Int) (K : SV → O T) : O T :=
 match op with
 | .add => K (.int k (k.wrap (a + b)))
 | .sub => K (.int k (k.wrap (a - b)))
 | .mul => K (.int k (k.wrap (a * b)))
 | .quo => O.chkC cst (decide (b ≠ 0)) (K (.int k (k.wrap (a.tdiv b))))
 | .rem => O.chkC cst (decide (b ≠ 0)) (K (.int k (a.tmod b)))
 | .and => K (.int k (bAnd k a b))
 | .or => K (.int k (bOr k a b))
 | .xor => K (.int k (bXor k a b))
 | .andNot => K (.int k (bAndNot k a b))
 | .eql => K (.bool (decide (a = b)))
 | .neq => K (.bool (decide (a ≠ b)))
 | .lss => K (.bool (decide (a < b)))
 | .leq => K (.bool (decide (a ≤ b)))
 | .gtr => K (.bool (decide (a > b)))
 | .geq => K (.bool (decide (a ≥ b)))
 | _ => .no
def sLt (a b : ByteArray) : Bool := Go.Op.bytesLess a.data.toList b.data.toList
def strOp (op : BinOp) (a b : ByteArray) (K : SV → O T) : O T :=
 match op with
 | .add => O.chk (decide (((a.size + b.size : Nat) : Int) ≤ 9223372036854775807)) (K (.str (a ++ b)))
 | .eql => K (.bool (decide (a = b)))
 | .neq => K (.bool (decide (a ≠ b)))
 | .lss => K (.bool (sLt a b))
 | .leq => K (.bool (sLt a b || decide (a = b)))
 | .gtr => K (.bool (!(sLt a b || decide (a = b))))
 | .geq => K (.bool (!(sLt a b)))
 | _ => .no
def eqLf : SV → SV → SV → Option Bool
 | .int _ _, .int k a, .int k' b => bif decide (k = k') then some (decide (a = b)) else none
 | .str _, .str a, .str b => some (decide (a = b))
 | .bool _, .bool a, .bool b => some (decide (a = b))
 | _, _, _ => none
def eqLfs : List SV → List SV → List SV → Option Bool
 | [], [], [] => some true
 | z :: zs, a :: as, b :: bs => match eqLf z a b with
  | some e => match eqLfs zs as bs with
   | some es => some (e && es)
   | none => none
  | none => none
 | _, _, _ => none
def isNil : SV → Option Bool
 | .nilp => some true
 | .ptr _ _ | .ept _ _ _ _ => some false
 | _ => none
def isNilC : SV → Bool
 | .nilp => true
 | _ => false
def ifNil : SV → Option Bool
 | .nili => some true
 | .iface _ _ => some false
 | _ => none
def ifNilC : SV → Bool
 | .nili => true
 | _ => false
def isConst : Operand → Bool
 | .const _ => true
 | _ => false
def evBin (cst : Bool) (tk : Option TK) (op : BinOp) (x y : SV) (K : SV → O T) : O T :=
 match x, y with
 | .int k a, .int k' b =>
  match op with
  | .shl => O.chkC cst (decide (0 ≤ b)) (K (.int k (shL k a b)))
  | .shr => O.chkC cst (decide (0 ≤ b)) (K (.int k (shR k a b)))
  | op => ifb (decide (k = k')) (intOp cst op k a b K) (.no)
 | .str a, .str b => strOp op a b K
 | .bool a, .bool b => match tk, op with
  | some .bool, .eql => K (.bool (decide (a = b)))
  | some .bool, .neq => K (.bool (decide (a ≠ b)))
  | _, _ => .no
 | .agg as, .agg bs => match tk with
  | some (.struct _ _ z true) => match eqLfs z as bs, op with
   | some e, .eql => K (.bool e)
   | some e, .neq => K (.bool (!e))
   | _, _ => .no
  | _ => .no
 | x, y => match tk, op, isNil x with
  | some .ptr, .eql, some e => ifb (isNilC y) (K (.bool e)) (.no)
  | some .ptr, .neq, some e => ifb (isNilC y) (K (.bool (!e))) (.no)
  | some .iface, .eql, _ => match ifNil x with
   | some e => ifb (cst && ifNilC y) (K (.bool e)) .no
   | none => .no
  | some .iface, .neq, _ => match ifNil x with
   | some e => ifb (cst && ifNilC y) (K (.bool (!e))) .no
   | none => .no
  | _, _, _ => .no
def evUn (op : UnOp) (x : SV) (K : SV → O T) : O T :=
 match op, x with
 | .not, .bool b => K (.bool !b)
 | .neg, .int k n => K (.int k (k.wrap (0 - n)))
 | _, _ => .no
def evConv (src dst : TK) (x : SV) (K : SV → O T) : O T :=
 match src, dst, x with
 | _, .int k, .int _ n => K (.int k (k.wrap n))
 | .str, .str, .str s => K (.str s)
 | _, _, _ => .no
def evPick (c a b : SV) (K : SV → O T) : O T :=
 match c, a, b with
 | .bool true, a, _ => K a
 | .bool false, _, b => K b
 | _, _, _ => .no
abbrev Cal (T : Type) := FuncId → List SV → List Nat → St → (SV → St → O T) → (PV → St → O T) → O T
structure Sl where
 j : Nat
 own : Bool
 t : TypeId
 ls : List Lf
 xs : List (LT ls)
 ch : List Int
 n : Int
def slOf (H : Heap) : SV → Option Sl
 | .osl j => match lkp j H with
  | some (.row own t ls xs) => some ⟨j, own, t, ls, xs, [], (xs.length : Int)⟩
  | _ => none
 | .sl j sz ch n => match lkp j H with
  | some (.row own t ls xs) => bif Nat.beq sz ls.length then some ⟨j, own, t, ls, xs, ch, n⟩ else none
  | _ => none
 | _ => none
def Sl.ok (s : Sl) : Bool := match s.ch with
 | [] => decide (0 ≤ s.n ∧ s.n ≤ (s.xs.length : Int))
 | ch => posI ch && decide (0 ≤ s.n ∧ sumI ch + s.n ≤ (s.xs.length : Int))
def evList (H : Heap) (v : SV) (K : (ls : List Lf) → TypeId → List (LT ls) → O T) : O T :=
 match v with
 | .osl j => match lkp j H with
  | some (.row _ t ls xs) => K ls t xs
  | _ => .no
 | v => match slOf H v with
  | some s => O.chk s.ok (K s.ls s.t (sub s.xs (sumI s.ch) s.n))
  | none => .no
def evBuiltin (tab : Tab) (H : Heap) (b : Builtin) (ts : List TypeId) (args : List SV) (K : SV → O T) : O T :=
 match b, ts, args with
 | .len, [t], [v] => match lkp t tab, v with
  | some .str, .str s => K (.int .i64 (s.size : Int))
  | some (.slice _), .nilsl => K (.int .i64 0)
  | some (.slice _), .csl _ n => K (.int .i64 (Int.ofNat n))
  | some (.slice _), .osl j => match lkp j H with
   | some (.row _ _ _ xs) => K (.int .i64 (xs.length : Int))
   | some (.tab _ _ _ _ _ xs) => K (.int .i64 (xs.length : Int))
   | some (.opn _ _ _ _ xs _ _) => K (.int .i64 (xs.length : Int))
   | _ => .no
  | some (.slice _), .sl j sz ch n => match slOf H (.sl j sz ch n) with
   | some s => O.chk s.ok (K (.int .i64 s.n))
   | none => .no
  | _, _ => .no
 | .min, _, [.int k a, .int k' b] => ifb (decide (k = k')) (K (.int k (min a b))) (.no)
 | .max, _, [.int k a, .int k' b] => ifb (decide (k = k')) (K (.int k (max a b))) (.no)
 | .min, _, [.int k a, .int k' b, .int k'' c] => ifb (decide (k = k') && decide (k = k'')) (K (.int k (min (min a b) c))) (.no)
 | _, _, _ => .no
def nilTest (H : Heap) (x : SV) (K : Bool → O T) : O T :=
 match x with
 | .nilsl => K true
 | .csl _ _ => K false
 | .osl j => match lkp j H with
  | some (.row _ _ _ xs) => O.cond (decide (0 < (xs.length : Int))) (K false) (O.same (K true) (K false))
  | _ => .no
 | x => match slOf H x with
  | some s => O.chk s.ok (O.cond (decide (0 < s.n)) (K false) (O.same (K true) (K false)))
  | none => .no
def evSlNil (op : BinOp) (H : Heap) (x : SV) (K : SV → O T) : O T :=
 match op with
 | .eql => nilTest H x fun b => K (.bool b)
 | .neq => nilTest H x fun b => K (.bool (!b))
 | _ => .no
def isSlNil (tk : Option TK) (cst : Bool) (y : SV) : Bool :=
 match tk, y with
 | some (.slice _), .nilsl => cst
 | _, _ => false
def fillS (fs : List (Nat × Nat × Bool)) : List (Nat × SV) → List SV → Option (List SV)
 | [], cs => some cs
 | (i, v) :: r, cs => match fs[i]? with
  | some (o, n, _) => bif Nat.beq v.cellsOf.length n && Nat.ble (o + n) cs.length then fillS fs r (setPart o v.cellsOf cs) else none
  | none => none
def evQ (tab : Tab) (H : Heap) (o : Op) (env : Env) (K : SV → O T) : O T :=
 match o with
 | .move x | .assign x => match ofOpd env x with | some v => K v | none => .no
 | .pick c a b => match ofOpd env c, ofOpd env a, ofOpd env b with
  | some c, some a, some b => evPick c a b K
  | _, _, _ => .no
 | .nilCheck x => match ofOpd env x with
  | some (.ptr j off) => K (.ptr j off)
  | some (.ept j sz i off) => K (.ept j sz i off)
  | some (.clo f cs) => K (.clo f cs)
  | _ => .no
 | .binOp op t x y _ => match ofOpd env x, ofOpd env y with
  | some x', some y' => ifb (isSlNil (lkp t tab) (isConst y) y') (evSlNil op H x' K) (evBin (isConst y) (lkp t tab) op x' y' K)
  | _, _ => .no
 | .unOp op _ x => match ofOpd env x with | some x => evUn op x K | none => .no
 | .convert s d x => match lkp s tab, lkp d tab, ofOpd env x with
  | some s, some d, some x => evConv s d x K
  | _, _, _ => .no
 | .makeFunc (.func f) first caps => match first.toList, ofOpds env caps.toList with
  | [], some vs => K (.clo f vs)
  | _, _ => .no
 | .fieldAddr s x f => match lkp s tab, ofOpd env x with
  | some (.struct fs _ _ _), some (.ptr j off) => match fs[f]? with
   | some (o, n, _) => ifb (Nat.ble 1 n) (K (.ptr j (off + o))) (.no)
   | none => .no
  | some (.struct fs _ _ _), some (.ept j sz i off) => match fs[f]? with
   | some (o, n, _) => ifb (Nat.ble 1 n) (K (.ept j sz i (off + o))) (.no)
   | none => .no
  | _, _ => .no
 | .field s x f => match lkp s tab, ofOpd env x with
  | some (.struct fs _ _ _), some (.agg cs) => match fs[f]? with
   | some (o, n, g) => match partOf g o n cs with | some v => K v | none => .no
   | none => .no
  | _, _ => .no
 | .build t parts => match lkp t tab, ofParts env parts.toList with
  | some (.struct fs _ z _), some ps => match fillS fs ps z with
   | some cs => K (.agg cs)
   | none => .no
  | _, _ => .no
 | .extract x i => match ofOpd env x with
  | some (.tup vs) => match vs[i]? with | some v => K v | none => .no
  | _ => .no
 | .index t x i => match lkp t tab, ofOpd env x, ofOpd env i with
  | some .str, some (.str s), some (.int _ i) => O.chk (decide (0 ≤ i ∧ i < (s.size : Int))) (K (.int .u8 (bt s i)))
  | _, _, _ => .no
 | .indexAddr t x i => match lkp t tab, ofOpd env x, ofOpd env i with
  | some (.slice e), some (.csl j n), some (.int _ i) => match i, lkp e tab with
   | .ofNat m, some k => ifb (Nat.beq k.size 1 && Nat.blt m n) (K (.ptr j m)) .no
   | _, _ => .no
  | some (.slice e), some v, some (.int _ i) => match slOf H v, lkp e tab with
   | some s, some k => ifb (Nat.beq k.size s.ls.length && Nat.ble 1 s.ls.length) (
    match s.ch with
    | [] => O.chk (decide (0 ≤ i ∧ i < s.n ∧ s.n ≤ (s.xs.length : Int))) (K (.ept s.j s.ls.length i 0))
    | ch => O.chk (s.ok && decide (0 ≤ i ∧ i < s.n)) (K (.ept s.j s.ls.length (sumI ch + i) 0))) .no
   | none, some k => match v with
    | .osl j => match lkp j H with
     | some (.tab _ _ _ _ f xs) => ifb (Nat.beq k.size f.sz && Nat.ble 1 f.sz) (O.chk (decide (0 ≤ i ∧ i < (xs.length : Int))) (K (.ept j f.sz i 0))) .no
     | some (.opn _ _ _ f xs _ _) => ifb (Nat.beq k.size f.sz && Nat.ble 1 f.sz) (O.chk (decide (0 ≤ i ∧ i < (xs.length : Int))) (K (.ept j f.sz i 0))) .no
     | _ => .no
    | _ => .no
   | _, _ => .no
  | _, _, _ => .no
 | .slice t x lo hi mx => match lkp t tab, ofOpd env x, mx with
  | some .str, some (.str s), none =>
   match lo, hi with
   | none, none => K (.str (s.extract 0 s.size))
   | some l, none => match ofOpd env l with
    | some (.int _ l) => O.chk (decide (0 ≤ l ∧ l ≤ (s.size : Int))) (K (.str (s.extract l.toNat s.size)))
    | _ => .no
   | none, some h => match ofOpd env h with
    | some (.int _ h) => O.chk (decide (0 ≤ h ∧ h ≤ (s.size : Int))) (K (.str (s.extract 0 h.toNat)))
    | _ => .no
   | some l, some h => match ofOpd env l, ofOpd env h with
    | some (.int _ l), some (.int _ h) => O.chk (decide (0 ≤ l ∧ l ≤ h ∧ h ≤ (s.size : Int))) (K (.str (s.extract l.toNat h.toNat)))
    | _, _ => .no
  | some (.slice e), some v, none => match slOf H v, lkp e tab with
   | some s, some k => ifb (Nat.beq k.size s.ls.length) (
    match lo, hi with
    | none, none => O.chk s.ok (K (.sl s.j s.ls.length s.ch s.n))
    | some l, none => match ofOpd env l with
     | some (.int _ l) => O.chk (decide (0 ≤ l ∧ l ≤ s.n) && s.ok) (K (.sl s.j s.ls.length (s.ch ++ [l]) (s.n - l)))
     | _ => .no
    | none, some h => match ofOpd env h with
     | some (.int _ h) => O.chk (decide (0 ≤ h ∧ h ≤ s.n) && s.ok) (K (.sl s.j s.ls.length s.ch h))
     | _ => .no
    | some l, some h => match ofOpd env l, ofOpd env h with
     | some (.int _ l), some (.int _ h) => O.chk (decide (0 ≤ l ∧ l ≤ h ∧ h ≤ s.n) && s.ok) (K (.sl s.j s.ls.length (s.ch ++ [l]) (h - l)))
     | _, _ => .no) .no
   | none, some k => match v, lo, hi with
    | .osl j, some l, none => match lkp j H, ofOpd env l with
     | some (.tab _ _ _ _ f xs), some (.int _ l) => ifb (Nat.beq k.size f.sz) (O.chk (decide (0 ≤ l ∧ l ≤ (xs.length : Int))) (K (.sl j f.sz [l] ((xs.length : Int) - l)))) .no
     | _, _ => .no
    | _, _, _ => .no
   | _, _ => .no
  | _, _, _ => .no
 | .makeInterface t x => match lkp t tab, ofOpd env x with
  | some .iface, _ => .no
  | some _, some v => K (.iface t v)
  | _, _ => .no
 | .typeAssert x t t' true => match lkp t' tab, ofOpd env x with
  | some .iface, _ => .no
  | some k, some .nili => K (.tup [k.zero, .bool false])
  | some k, some (.iface d v) => ifb (Nat.beq d t') (K (.tup [v, .bool true])) (K (.tup [k.zero, .bool false]))
  | _, _ => .no
 | .call c => match ofOpds env c.args.toList with
  | some args => match c.callee with
   | .builtin b => evBuiltin tab H b c.argTypes.toList args K
   | _ => .no
  | none => .no
 | _ => .no
def plainC : SV → Bool
 | .int _ _ => true
 | .bool _ => true
 | .str _ => true
 | _ => false
def plainV : SV → Bool
 | .agg cs => cs.all plainC
 | v => plainC v
def castL (ls ls' : List Lf) (xs : List (LT ls)) : Option (List (LT ls')) :=
 if h : ls = ls' then some (h ▸ xs) else none
def castT (f f' : Shs) (xs : List f.T) : Option (List f'.T) :=
 if h : Shs.beq f f' = true then some (Shs.beq_eq h ▸ xs) else none
def pinOk (γ : List Nat) : Pin → SV → Bool
 | .ref k, .ptr j 0 => Nat.blt k γ.length && Nat.beq j (nth γ k)
 | .nil, .nilp => true
 | _, _ => false
def pinsOk (γ : List Nat) : List Pin → List SV → Bool
 | [], [] => true
 | p :: ps, v :: vs => pinOk γ p v && pinsOk γ ps vs
 | _, _ => false
def eqNs : List Nat → List Nat → Bool
 | [], [] => true
 | i :: is, j :: js => Nat.beq i j && eqNs is js
 | _, _ => false
section
variable {α : Type}
noncomputable def takeRow (fz own : Bool) (t : TypeId) (ls : List Lf) (v : SV) (H : Heap) (K : List (LT ls) → Heap → O α) : O α :=
 match v with
 | .nilsl => ifb (!ls.isEmpty) (K [] H) .no
 | v => match own with
  | true => match v with
   | .osl j => match lkp j H with
    | some (.row true t' ls' xs) => ifb (Nat.beq t t') (match castL ls' ls xs with
     | some xs => K xs (del j H)
     | none => .no) .no
    | _ => .no
   | _ => .no
  | false => match fz, v with
   | true, .osl j => match lkp j H with
    | some (.row false _ ls' xs) => match castL ls' ls xs with
     | some xs => K xs H
     | none => .no
    | _ => .no
   | true, .sl j sz ch n => match slOf H (.sl j sz ch n) with
    | some s => match s.own with
     | false => match castL s.ls ls (sub s.xs (sumI s.ch) s.n) with
      | some xs => O.chk s.ok (K xs H)
      | none => .no
     | true => .no
    | none => .no
   | true, _ => .no
   | false, v => evList H v fun ls' _ xs => match castL ls' ls xs with
    | some xs => K xs H
    | none => .no
def castM (kl vl kl' vl' : List Lf) (es : List (LT kl × LT vl)) : Option (List (LT kl' × LT vl')) :=
 if h : kl = kl' then (if h' : vl = vl' then some (h ▸ h' ▸ es) else none) else none
noncomputable def takeMap (t : TypeId) (ka va : Bool) (kl vl : List Lf) (v : SV) (H : Heap) (K : List (LT kl × LT vl) → Heap → O α) : O α :=
 match v with
 | .mp j => match lkp j H with
  | some (.map t' ka' va' kl' vl' es) => ifb (Nat.beq t t' && sameB ka ka' && sameB va va') (match castM kl' vl' kl vl es with
   | some es => K es (del j H)
   | none => .no) .no
  | _ => .no
 | _ => .no
noncomputable def takeTab (γ : List Nat) (fz own : Bool) (t : TypeId) (f : Shs) (v : SV) (H : Heap) (K : List f.T → Heap → O α) : O α :=
 match v with
 | .nilsl => K [] H
 | .osl j => match lkp j H with
  | some (.tab own' t' γ' _ f' xs) => match castT f' f xs with
   | some xs => match own with
    | true => ifb (own' && Nat.beq t t' && (f.lt 0 || eqNs γ γ')) (K xs (del j H)) .no
    | false => ifb (!(fz && own') && Nat.beq t t' && f.tabOk) (K xs H) .no
   | none => .no
  | _ => .no
 | _ => .no
mutual
noncomputable def takeS (γ : List Nat) (fz : Bool) : (s : Sh) → List SV → Heap → (s.T → Heap → O α) → O α
 | .leaf l, [v], H, K => match l.dec v with
  | some x => K x H
  | none => .no
 | .row own t ls, [v], H, K => takeRow fz own t ls v H K
 | .map t ka va kl vl, [v], H, K => takeMap t ka va kl vl v H K
 | .tab own t f, [v], H, K => ifb (Nat.ble 1 f.sz) (takeTab γ fz own t f v H K) .no
 | .box t f, [v], H, K => match v with
  | .ptr j 0 => match lkp j H with
   | some (.cells t' vs) => ifb (Nat.beq t t') (takeF γ fz f vs (del j H) K) .no
   | _ => .no
  | _ => .no
 | .agg f, cs, H, K => takeF γ fz f cs H K
 | _, _, _, _ => .no
noncomputable def takeF (γ : List Nat) (fz : Bool) : (f : Shs) → List SV → Heap → (f.T → Heap → O α) → O α
 | .one s ps, cs, H, K => ifb (pinsOk γ ps (cs.drop s.sz)) (takeS γ fz s (cs.take s.sz) H K) .no
 | .cons s r, cs, H, K => takeS γ fz s (cs.take s.sz) H fun x H => takeF γ fz r (cs.drop s.sz) H fun y H => K (x, y) H
 | .pin p r, v :: cs, H, K => ifb (pinOk γ p v) (takeF γ fz r cs H K) .no
 | .pins ps, cs, H, K => ifb (pinsOk γ ps cs) (K () H) .no
 | _, _, _, _ => .no
end
end
def frzV (v : SV) (st : St) : St :=
 match v with
 | .osl j => match lkp j st.H with
  | some (.row true t ls xs) => ⟨st.nx, st.dirty, (j, .row false t ls xs) :: st.H⟩
  | some (.tab true t γ _ f xs) => ifb f.tabOk ⟨Nat.succ st.nx, st.dirty, (j, .tab false t γ st.nx f xs) :: (st.nx, .ghost) :: st.H⟩ st
  | _ => st
 | .sl j _ _ _ => match lkp j st.H with
  | some (.row true t ls xs) => ⟨st.nx, st.dirty, (j, .row false t ls xs) :: st.H⟩
  | _ => st
 | _ => st
mutual
def frzS : Sh → List SV → St → St
 | .row own _ _, [v], st => match own with
  | true => st
  | false => frzV v st
 | .tab own _ _, [v], st => match own with
  | true => st
  | false => frzV v st
 | .box _ f, [v], st => match v with
  | .ptr j 0 => match lkp j st.H with
   | some (.cells _ vs) => frzF f vs st
   | _ => st
  | _ => st
 | .agg f, cs, st => frzF f cs st
 | _, _, st => st
def frzF : Shs → List SV → St → St
 | .one s _, cs, st => frzS s (cs.take s.sz) st
 | .cons s r, cs, st => frzF r (cs.drop s.sz) (frzS s (cs.take s.sz) st)
 | .pin _ r, _ :: cs, st => frzF r cs st
 | _, _, st => st
end
section
variable {α : Type}
noncomputable def foldJ (j : Nat) (st : St) (K : St → O α) : O α :=
 match lkp j st.H with
 | some (.opn t γ _ f xs i vs) => takeF γ true f vs (del j (frzF f vs st).H) fun x H => K ⟨Nat.succ (frzF f vs st).nx, st.dirty, (j, .tab true t γ (frzF f vs st).nx f (su xs i x)) :: ((frzF f vs st).nx, .ghost) :: H⟩
 | _ => K st
noncomputable def foldJs : List Nat → St → (St → O α) → O α
 | [], st, K => K st
 | j :: js, st, K => foldJ j st fun st => foldJs js st K
def isOpn : HO → Bool
 | .opn _ _ _ _ _ _ _ => true
 | _ => false
def opns : Heap → List Nat
 | [] => []
 | (j, o) :: r => bif isOpn o then j :: opns r else opns r
noncomputable def openJ (j : Nat) (i : Int) (st : St) (K : St → O α) : O α :=
 match lkp j st.H with
 | some (.tab true t γ _ f xs) => O.chk (decide (0 ≤ i ∧ i < (xs.length : Int))) (K ⟨Nat.succ (st.nx + (giveF γ f (gt (dfltF f) xs i) st.nx).2.length), st.dirty,
   (j, .opn t γ (st.nx + (giveF γ f (gt (dfltF f) xs i) st.nx).2.length) f xs i (giveF γ f (gt (dfltF f) xs i) st.nx).1) :: (st.nx + (giveF γ f (gt (dfltF f) xs i) st.nx).2.length, .ghost) :: (st.adds (giveF γ f (gt (dfltF f) xs i) st.nx).2).H⟩)
 | _ => .no
end
def evLoad (tab : Tab) (o : Op) (env : Env) (H : Heap) (K : Nat → SV → O T) : O T :=
  match o with
  | .load t a => match lkp t tab, ofOpd env a with
    | some k, some (.ptr j off) => match lkp j H with
      | some (.cells _ vs) => match partOf k.isAgg off k.size vs with
        | some v => K j v
        | none => .no
      | _ => .no
    | some k, some (.ept j sz i off) => match lkp j H with
      | some (.row _ _ ls xs) => ifb (Nat.beq sz ls.length) (
          O.chk (decide (0 ≤ i ∧ i < (xs.length : Int))) (match partOf k.isAgg off k.size (encL ls (gt (dfltL ls) xs i)) with
            | some v => K j v
            | none => .no)) .no
      | some (.tab _ _ γ _ f xs) => ifb (Nat.beq sz f.sz) (O.chk (decide (0 ≤ i ∧ i < (xs.length : Int))) (match partOf k.isAgg off k.size (giveF γ f (gt (dfltF f) xs i) 0).1 with
            | some v => ifb (plainV v) (K j v) .no
            | none => .no)) .no
      | _ => .no
    | _, _ => .no
  | .convert _ _ x => match ofOpd env x with
    | some .nilsl => .no
    | some v => evList H v fun ls _ xs => match ls, xs with
      | [.int .u8], xs => K (match v with | .osl j => j | .sl j _ _ _ => j | _ => 0) (.str (strOf xs))
      | _, _ => .no
    | none => .no
  | .lookup t x i ok => match ofOpd env x, ofOpd env i with
    | some m, some k => match mpOf tab t H m with
      | some m => match decO m.ka m.kl k with
        | some key => match ok with
          | true => K m.j (.tup [encO m.va m.vl (mget (dfltL m.vl) m.es key), .bool (mhas m.es key)])
          | false => K m.j (encO m.va m.vl (mget (dfltL m.vl) m.es key))
        | none => .no
      | none => .no
    | _, _ => .no
  | .call c => match c.callee, c.argTypes.toList, ofOpds env c.args.toList with
    | .builtin .len, [t], some [v] => match mpOf tab t H v with
      | some m => K m.j (.int .i64 (m.es.length : Int))
      | none => .no
    | _, _, _ => .no
  | _ => .no
def openAt (tab : Tab) (o : Op) (env : Env) (H : Heap) : Bool :=
 match o with
 | .load t a => match lkp t tab, ofOpd env a with
  | some k, some (.ept j _ _ off) => match lkp j H with
   | some (.tab _ _ γ _ f _) => !(match partOf k.isAgg off k.size (giveF γ f (dfltF f) 0).1 with
    | some v => plainV v
    | none => true)
   | some (.opn _ _ _ _ _ _ _) => true
   | _ => false
  | _, _ => false
 | .slice _ x _ _ _ => match ofOpd env x with
  | some (.osl j) => match lkp j H with
   | some (.tab _ _ _ _ _ _) => true
   | some (.opn _ _ _ _ _ _ _) => true
   | _ => false
  | _ => false
 | _ => false
def isConvBytes (tab : Tab) (s d : TypeId) : Bool :=
 match lkp s tab, lkp d tab with
 | some (.slice e), some .str => match lkp e tab with
  | some (.int .u8) => true
  | _ => false
 | _, _ => false
def isConvStr (tab : Tab) (s d : TypeId) : Bool :=
 match lkp s tab, lkp d tab with
 | some .str, some (.slice _) => true
 | _, _ => false
def isMapLen (tab : Tab) : List TypeId → Bool
 | [t] => isMapTy tab t
 | _ => false
def isQ (tab : Tab) : Op → Bool
 | .move _ | .assign _ | .pick _ _ _ | .nilCheck _ | .binOp _ _ _ _ _ | .unOp _ _ _ | .makeFunc _ _ _ | .fieldAddr _ _ _ | .field _ _ _ | .build _ _ | .extract _ _ | .index _ _ _ | .indexAddr _ _ _ | .slice _ _ _ _ _ | .makeInterface _ _ | .typeAssert _ _ _ _ => true
 | .convert s d _ => !isConvBytes tab s d && !isConvStr tab s d
 | .call c => match c.callee with
  | .builtin .len => !isMapLen tab c.argTypes.toList
  | .builtin .min | .builtin .max => true
  | _ => false
 | _ => false
def isSlZ : SV → Bool
 | .nilsl => true
 | _ => false
def isPlZ : SV → Bool
 | .nilp => false
 | .nilm => false
 | _ => true
def isTabTy (tab : Tab) (t : TypeId) : Bool := match lkp t tab with
 | some (.struct _ _ z _) => z.any isSlZ && z.all isPlZ
 | _ => false
def isLoad (tab : Tab) : Op → Bool
 | .load t _ => !isTabTy tab t
 | .convert s d _ => isConvBytes tab s d
 | .lookup _ _ _ _ => true
 | .call c => match c.callee with
  | .builtin .len => isMapLen tab c.argTypes.toList
  | _ => false
 | _ => false
def partsL (ls : List Lf) (n : Nat) : List (Nat × SV) → List (LT ls) → Option (List (LT ls))
 | [], xs => some xs
 | (i, v) :: r, xs => match decL ls v.cellsOf with
  | some x => bif Nat.blt i n then partsL ls n r (xs.set i x) else none
  | none => none
def partsC (n : Nat) : List (Nat × SV) → List SV → Option (List SV)
 | [], xs => some xs
 | (i, v) :: r, xs => bif isLeaf v && Nat.blt i n then partsC n r (xs.set i v) else none
def notOn (u : SV) (j : Nat) : Bool :=
 match u with
 | .osl i => !Nat.beq i j
 | .sl i _ _ _ => !Nat.beq i j
 | _ => true
def has (t : Nat) : List Nat → Bool
 | [] => false
 | s :: r => Nat.beq s t || has t r
def isSet (sl : List Nat) : Operand → Bool
 | .const _ => true
 | .tmp t => has t sl
 | _ => false
def setArgs (sl : List Nat) : Nat → List Operand → List Nat
 | _, [] => []
 | i, x :: xs => match isSet sl x with
  | true => i :: setArgs sl (Nat.succ i) xs
  | false => setArgs sl (Nat.succ i) xs
def keepJ (own : Bool) (j : Nat) (H : Heap) : Heap := match own with
 | true => del j H
 | false => H
def isSzOf (tab : Tab) (e : TypeId) (f : Shs) : Bool := match lkp e tab with
 | some k => Nat.beq k.size f.sz
 | none => false
def appT (e : TypeId) (γ : List Nat) (f : Shs) (xs : List f.T) (u : SV) (st : St) (K : SV → St → O T) : O T :=
 match u with
 | .csl ju 1 => match lkp ju st.H with
  | some (.cells _ vs) => ifb (Nat.beq vs.length f.sz && vs.all isLeaf) (takeF γ true f vs (del ju (frzF f vs st).H) fun x H =>
    O.chk (decide (xs.length + 1 ≤ 1073741824)) (K (.osl (Nat.succ (frzF f vs st).nx)) ⟨Nat.succ (Nat.succ (frzF f vs st).nx), true, (Nat.succ (frzF f vs st).nx, .tab true e (gOf γ f) (frzF f vs st).nx f (xs ++ [x])) :: ((frzF f vs st).nx, .ghost) :: H⟩)) .no
  | _ => .no
 | .osl ju => match lkp ju st.H with
  | some (.tab _ e' _ _ f' ys) => match castT f' f ys with
   | some ys => ifb (Nat.beq e e' && f.tabOk) (O.chk (decide (xs.length + ys.length ≤ 1073741824)) (K (.osl (Nat.succ st.nx)) ⟨Nat.succ (Nat.succ st.nx), true, (Nat.succ st.nx, .tab true e (gOf γ f) st.nx f (xs ++ ys)) :: (st.nx, .ghost) :: st.H⟩)) .no
   | none => .no
  | _ => .no
 | _ => .no
def evAppT (tab : Tab) (e : TypeId) (k : TK) (v u : SV) (st : St) (K : SV → St → O T) : O T :=
 match hintT e tab with
 | some f => ifb (Nat.beq k.size f.sz && Nat.ble 1 f.sz) (match v with
  | .nilsl => ifb (f.lt 0) (appT e [] f [] u st K) .no
  | .osl j => foldJ j st fun st => match lkp j st.H with
   | some (.tab true e' γ _ f' xs) => match castT f' f xs with
    | some xs => ifb (Nat.beq e e' && notOn u j) (appT e γ f xs u ⟨st.nx, st.dirty, del j st.H⟩ K) .no
    | none => .no
   | _ => .no
  | _ => .no) .no
 | none => .no
mutual
def zeroS : Sh → List SV → Bool
 | .leaf l, [v] => match lfOf v with | some m => decide (l = m) | none => false
 | .row false _ _, [.nilsl] => true
 | .tab false _ _, [.nilsl] => true
 | .agg f, cs => zeroF f cs
 | _, _ => false
def zeroF : Shs → List SV → Bool
 | .one s ps, cs => ps.isEmpty && zeroS s cs
 | .cons s r, cs => zeroS s (cs.take s.sz) && zeroF r (cs.drop s.sz)
 | _, _ => false
end
def evA (tab : Tab) (cal : Cal T) (sl : List Nat) (o : Op) (env : Env) (st : St) (K : SV → St → O T) (Kp : PV → St → O T) : O T :=
 match o with
 | .alloc t => match lkp t tab with
  | some k => K (.ptr st.nx 0) (st.add (.cells t k.zero.cellsOf))
  | none => .no
 | .box t x => match ofOpd env x with
  | some v => ifb (v.cellsOf.all isLeaf) (K (.ptr st.nx 0) (st.add (.cells t v.cellsOf))) (.no)
  | none => .no
 | .store t a x => match lkp t tab, ofOpd env a, ofOpd env x with
  | some k, some (.ptr j off), some v => match lkp j st.H with
   | some (.cells T vs) => ifb (Nat.beq v.cellsOf.length k.size && Nat.ble (off + k.size) vs.length && v.cellsOf.all isLeaf) (K (.tup []) (st.put j (.cells T (setPart off v.cellsOf vs)))) (.no)
   | _ => .no
  | some k, some (.ept j sz i off), some v => match lkp j st.H with
   | some (.row true t ls xs) => ifb (Nat.beq sz ls.length && Nat.beq v.cellsOf.length k.size && Nat.ble (off + k.size) ls.length && v.cellsOf.all isLeaf) (
     O.chk (decide (0 ≤ i ∧ i < (xs.length : Int))) (match decL ls (setPart off v.cellsOf (encL ls (gt (dfltL ls) xs i))) with
      | some y => K (.tup []) (st.put j (.row true t ls (su xs i y)))
      | none => .no)) .no
   | some (.opn t γ p f xs i' vs) => ifb (Nat.beq sz f.sz && Nat.beq v.cellsOf.length k.size && Nat.ble (off + k.size) vs.length && v.cellsOf.all isLeaf) (
     O.chk (decide (i = i')) (K (.tup []) (st.put j (.opn t γ p f xs i' (setPart off v.cellsOf vs))))) .no
   | some (.tab true _ _ _ f _) => ifb (Nat.beq sz f.sz && Nat.beq v.cellsOf.length k.size && v.cellsOf.all isLeaf) (openJ j i st fun st => match lkp j st.H with
    | some (.opn t γ p f xs i' vs) => ifb (Nat.ble (off + k.size) vs.length) (K (.tup []) (st.put j (.opn t γ p f xs i' (setPart off v.cellsOf vs)))) .no
    | _ => .no) .no
   | _ => .no
  | _, _, _ => .no
 | .makeSlice t n c => match lkp t tab, ofOpd env n, ofOpd env c with
  | some (.slice e), some (.int _ n), some (.int _ c) => match lkp e tab with
   | some k => match k.lfs with
    | some ls => O.chk (decide (0 ≤ n ∧ n = c ∧ n ≤ 1073741824)) (K (.osl st.nx) (st.add (.row true e ls (List.replicate n.toNat (dfltL ls)))))
    | none => match hintT e tab with
     | some f => ifb (Nat.beq k.size f.sz && Nat.ble 1 f.sz && f.tabOk && zeroF f k.zero.cellsOf) (O.chk (decide (0 ≤ n ∧ n = c ∧ n ≤ 1073741824)) (K (.osl (Nat.succ st.nx)) ((st.add .ghost).add (.tab true e [] st.nx f (List.replicate n.toNat (dfltF f)))))) .no
     | none => .no
   | none => .no
  | _, _, _ => .no
 | .buildSlice t n parts => match lkp t tab, ofParts env parts.toList with
  | some (.slice e), some ps => match lkp e tab with
   | some k => match k.lfs with
    | some ls => ifb (Nat.ble n 1000 && Nat.ble ls.length 1000) (match partsL ls n ps (List.replicate n (dfltL ls)) with
     | some xs => K (.osl st.nx) (st.add (.row true e ls xs))
     | none => .no) .no
    | none => match n, ps, hintT e tab with
     | 0, [], some f => ifb (Nat.beq k.size f.sz && Nat.ble 1 f.sz && f.lt 0) (K (.osl (Nat.succ st.nx)) ((st.add .ghost).add (.tab true e [] st.nx f []))) .no
     | 1, [(0, v)], some _ => ifb (Nat.beq v.cellsOf.length k.size && Nat.ble k.size 1000 && v.cellsOf.all isLeaf) (K (.csl st.nx 1) (st.add (.cells e v.cellsOf))) .no
     | n, ps, _ => ifb (Nat.ble n 1000 && Nat.beq k.size 1 && isLeaf k.zero) (match partsC n ps (List.replicate n k.zero) with
      | some vs => K (.csl st.nx n) (st.add (.cells e vs))
      | none => .no) .no
   | none => .no
  | _, _ => .no
 | .convert s d x => match lkp s tab, lkp d tab, ofOpd env x with
  | some .str, some (.slice e), some (.str s) => match lkp e tab with
   | some (.int .u8) => O.chk (decide (s.size ≤ 140737488351232)) (K (.osl st.nx) (st.add (.row true e [.int .u8] (bytesOf s))))
   | _ => .no
  | _, _, _ => .no
 | .call c => match ofOpds env c.args.toList with
  | some args => match c.callee with
   | .value f => match ofOpd env f with
    | some (.clo f caps) => cal f (args ++ caps) (setArgs sl 0 c.args.toList) st K Kp
    | _ => .no
   | .builtin .append => match c.argTypes.toList, args with
    | [t, t'], [v, u] => ifb (Nat.beq t t') (match lkp t tab with
     | some (.slice e) => match lkp e tab with
      | some k => match k.lfs with
       | some ls => evList st.H u fun ls' _ ys => match castL ls' ls ys with
        | some ys => match v with
         | .nilsl => O.chk (decide (ys.length ≤ 1073741824)) (K (.osl st.nx) (st.add (.row true e ls ys)))
         | .osl j => match lkp j st.H with
          | some (.row true e' ls'' xs) => match castL ls'' ls xs with
           | some xs => ifb (Nat.beq e e' && notOn u j) (
             O.chk (decide (xs.length + ys.length ≤ 1073741824)) (K (.osl st.nx) (st.grow j (.row true e ls (xs ++ ys))))) .no
           | none => .no
          | _ => .no
         | _ => .no
        | none => .no
       | none => evAppT tab e k v u st K
      | none => .no
     | _ => .no) .no
    | _, _ => .no
   | .builtin .copy => match c.argTypes.toList, args with
    | [t, _], [v, u] => match lkp t tab, slOf st.H v with
     | some (.slice e), some s => match lkp e tab, s.own with
      | some k, true => ifb (Nat.beq k.size s.ls.length && Nat.beq e s.t)
       (match u with
       | .str b => match castL [.int .u8] s.ls (bytesOf b) with
        | some ys => O.chk s.ok (K (.int .i64 (min (b.size : Int) s.n)) (st.put s.j (.row true s.t s.ls (putAt s.xs (sumI s.ch) (ys.take s.n.toNat)))))
        | none => .no
       | u => evList st.H u fun ls' _ ys => match castL ls' s.ls ys with
        | some ys => O.chk s.ok (K (.int .i64 (min (ys.length : Int) s.n)) (st.put s.j (.row true s.t s.ls (putAt s.xs (sumI s.ch) (ys.take s.n.toNat)))))
        | none => .no) .no
      | _, _ => .no
     | _, _ => .no
    | _, _ => .no
   | .builtin .delete => match c.argTypes.toList, args with
    | [t, _], [m, k] => match mpOf tab t st.H m with
     | some m => match decO m.ka m.kl k with
      | some key => K (.tup []) (st.put m.j (.map t m.ka m.va m.kl m.vl (mdel m.es key)))
      | none => .no
     | none => .no
    | _, _ => .no
   | _ => .no
  | none => .no
 | .panic x => match ofOpd env x with
  | some v => match toPV v with
   | some p => Kp p st
   | none => .no
  | none => .no
 | .makeMap t none => match lkp t tab with
  | some (.map k e) => match lkp k tab, lkp e tab with
   | some kk, some ek => match kk.lfs, ek.lfs with
    | some kl, some vl => ifb (keyTk kk) (K (.mp st.nx) (st.add (.map t kk.isAgg ek.isAgg kl vl []))) .no
    | _, _ => .no
   | _, _ => .no
  | _ => .no
 | .mapUpdate t m k v => match ofOpd env m, ofOpd env k, ofOpd env v with
  | some m, some k, some v => match mpOf tab t st.H m with
   | some m => match decO m.ka m.kl k, decO m.va m.vl v with
    | some key, some val => K (.tup []) (st.put m.j (.map t m.ka m.va m.kl m.vl (mput m.es key val)))
    | _, _ => .no
   | none => .no
  | _, _, _ => .no
 | .load t a => match lkp t tab, ofOpd env a with
  | some k, some (.ptr j off) => match lkp j st.H with
   | some (.cells _ vs) => match partOf k.isAgg off k.size vs with
    | some v => K v st
    | none => .no
   | _ => .no
  | some k, some (.ept j sz i off) => foldJ j st fun st => match lkp j st.H with
   | some (.tab own _ γ _ f xs) => ifb (Nat.beq sz f.sz) (match f.tabOk with
    | true => O.chk (decide (0 ≤ i ∧ i < (xs.length : Int))) (match partOf k.isAgg off k.size (giveF γ f (gt (dfltF f) xs i) st.nx).1 with
     | some v => K v (st.adds (giveF γ f (gt (dfltF f) xs i) st.nx).2)
     | none => .no)
    | false => match own with
     | true => openJ j i st fun st => match lkp j st.H with
      | some (.opn _ _ _ _ _ _ vs) => match partOf k.isAgg off k.size vs with
       | some v => K v st
       | none => .no
      | _ => .no
     | false => .no) .no
   | _ => .no
  | _, _ => .no
 | .slice t x lo hi none => match lkp t tab, ofOpd env x with
  | some (.slice e), some (.osl j) => foldJ j st fun st => match lkp j st.H with
   | some (.tab own e' γ _ f xs) => ifb (Nat.beq e e' && (own || f.tabOk) && isSzOf tab e f) (
     match lo, hi with
     | some l, none => match ofOpd env l with
      | some (.int _ l) => O.chk (decide (0 ≤ l ∧ l ≤ (xs.length : Int))) (K (.osl (Nat.succ st.nx)) ⟨Nat.succ (Nat.succ st.nx), st.dirty, (Nat.succ st.nx, .tab own e (gOf γ f) st.nx f (xs.drop l.toNat)) :: (st.nx, .ghost) :: keepJ own j st.H⟩)
      | _ => .no
     | none, some h => match ofOpd env h with
      | some (.int _ h) => O.chk (decide (0 ≤ h ∧ h ≤ (xs.length : Int))) (K (.osl (Nat.succ st.nx)) ⟨Nat.succ (Nat.succ st.nx), st.dirty, (Nat.succ st.nx, .tab own e (gOf γ f) st.nx f (xs.take h.toNat)) :: (st.nx, .ghost) :: keepJ own j st.H⟩)
      | _ => .no
     | _, _ => .no) .no
   | _ => .no
  | _, _ => .no
 | _ => .no
def evOp (tab : Tab) (cal : Cal T) (sl : List Nat) (o : Op) (env : Env) (st : St) (K : SV → St → O T) (Kp : PV → St → O T) : O T :=
 ifb (openAt tab o env st.H) (evA tab cal sl o env st K Kp) (
 ifb (isQ tab o) (evQ tab st.H o env (K · st)) (
 ifb (isLoad tab o) (evLoad tab o env st.H fun _ v => K v st)
 (evA tab cal sl o env st K Kp)))
def Fr.put (fr : Fr) (d : Option Tmp) (v : SV) : Fr :=
 match d with
 | some d => ⟨(d, v) :: fr.env, fr.dfs, fr.base, fr.sl⟩
 | none => fr
def dstOf (ops : List Oper) (j : Nat) : Option Tmp := match ops[j]? with | some o => o.dst | none => none
def okDst (n : Nat) : Option Tmp → Bool
 | some d => Nat.blt d n
 | none => true
def deferOf (env : Env) : Op → Option SV
 | .defer c => match c.callee, c.args.toList with
  | .value f, [] => match ofOpd env f with
   | some (.clo f cs) => some (.clo f cs)
   | _ => none
  | _, _ => none
 | _ => none
def isDefer : Op → Bool
 | .defer _ => true
 | _ => false
def doOp (tab : Tab) (cal : Cal T) (sl : List Nat) (o : Oper) (fr : Fr) (st : St) (K : Fr → St → O T) (Kp : PV → Fr → St → O T) : O T :=
 ifb (isDefer o.op) (match deferOf fr.env o.op with
  | some v => K (Fr.put ⟨fr.env, v :: fr.dfs, fr.base, fr.sl⟩ o.dst (.tup [])) st
  | none => .no)
 (evOp tab cal sl o.op fr.env st (fun v st => K (fr.put o.dst v) st) (fun e st => Kp e fr st))
def rid (t : Nat) : List Nat → List Nat
 | [] => []
 | s :: r => bif Nat.beq s t then rid t r else s :: rid t r
def isPlc : Option SV → Bool
 | some .nilp => true
 | some (.ptr _ _) => true
 | some (.ept _ _ _ _) => true
 | _ => false
def isNone : Option SV → Bool
 | some .nilp => true
 | _ => false
def settle (sl : List Nat) (env : Env) (o : Oper) : List Nat :=
 match o.dst with
 | none => sl
 | some d => match (match o.op with
   | .move x | .assign x | .unOp _ _ x | .typeAssert x _ _ _ | .extract x _ => isSet sl x
   | .binOp _ _ x y _ => isSet sl x && isSet sl y || isPlc (ofOpd env x) && isNone (ofOpd env y)
   | .pick c a b => match ofOpd env c with
    | some (.bool true) => isSet sl a
    | some (.bool false) => isSet sl b
    | _ => false
   | .buildSlice _ _ _ => true
   | .call c => match c.callee, c.args.toList with
    | .builtin .len, [x] => isSet sl x
    | _, _ => false
   | _ => false) with
  | true => d :: sl
  | false => rid d sl
def evOps (tab : Tab) (cal : Cal T) (n : Nat) (all : List Oper) : List Oper → List Nat → Fr → St → (Fr → St → O T) → (PV → Fr → St → O T) → O T
 | [], sl, fr, st, K, _ => K ⟨fr.env, fr.dfs, fr.base, sl⟩ st
 | o :: rest, sl, fr, st, K, Kp =>
  ifb (okDst n o.dst) (
   match o.guard with
   | none => doOp tab cal sl o fr st (fun fr st => evOps tab cal n all rest (settle sl fr.env o) fr st K Kp) Kp
   | some (j, want) =>
    match dstOf all j with
    | some d => match lkp d fr.env with
     | some (.bool b) =>
      O.test (has d sl) b
       (match want with
        | true => doOp tab cal (d :: sl) o (fr.put (some d) (.bool true)) st (fun fr st => evOps tab cal n all rest (settle (d :: sl) fr.env o) fr st K Kp) Kp
        | false => evOps tab cal n all rest (d :: sl) ((fr.put (some d) (.bool true)).put o.dst (.tup [])) st K Kp)
       (match want with
        | false => doOp tab cal (d :: sl) o (fr.put (some d) (.bool false)) st (fun fr st => evOps tab cal n all rest (settle (d :: sl) fr.env o) fr st K Kp) Kp
        | true => evOps tab cal n all rest (d :: sl) ((fr.put (some d) (.bool false)).put o.dst (.tup [])) st K Kp)
     | some (.tup []) => evOps tab cal n all rest sl (fr.put o.dst (.tup [])) st K Kp
     | _ => .no
    | none => .no) .no
def isLd (Z : List Nat) (tab : Tab) (o : Oper) : Bool := isLoad tab o.op && !(match o.dst with | some d => has d Z | none => false)
def isEff (Z : List Nat) (tab : Tab) (o : Oper) : Bool := !(isQ tab o.op || isLd Z tab o)
def acts (Z : List Nat) (tab : Tab) (ops : Array Oper) (listed : Array Bool) : List Nat :=
 (List.range ops.size).filter fun e => listed.getD e false && (match ops[e]? with | some o => isEff Z tab o | none => false)
def onsOf (o : Oper) : List Nat := (o.after.toList.filter (Region.binds .any)).map (·.on)
def anc1 (ops : Array Oper) (i : Nat) (A : List Nat) : List Nat :=
 match has i A with
 | true => (match ops[i]? with | some o => onsOf o ++ A | none => A)
 | false => A
def ancs (ops : Array Oper) : Nat → List Nat → List Nat
 | 0, A => A
 | i + 1, A => ancs ops i (anc1 ops i A)
def gone (Z : List Nat) (tab : Tab) (ops : Array Oper) (listed : Array Bool) : List Nat := ancs ops ops.size (acts Z tab ops listed)
def pendIn (L Z : List Nat) (tab : Tab) (ops : Array Oper) (G : List Nat) : Bool :=
 (List.range ops.size).any fun l => !(has l L) && (match ops[l]? with | some o => isLd Z tab o | none => false) && !(has l G)
def pend (Z : List Nat) (tab : Tab) (ops : Array Oper) (listed : Array Bool) : Bool := pendIn [] Z tab ops (gone Z tab ops listed)
def pendX (L Z : List Nat) (tab : Tab) (ops : Array Oper) (listed : Array Bool) : Bool := pendIn L Z tab ops (gone Z tab ops listed)
def cellsAt (H : Heap) (j : Nat) : Bool := match lkp j H with
 | some (.cells _ _) => true
 | _ => false
def storeOk (W : List Nat) (o : Op) (env : Env) (st : St) : Bool :=
 match o with
 | .store _ a _ => match ofOpd env a with
  | some (.ptr j _) => !(has j W) && W.all (cellsAt st.H)
  | _ => false
 | _ => false
def ptrsAt (env : Env) : List Nat → List Nat
 | [] => []
 | t :: ts => match lkp t env with
  | some (.ptr j _) => j :: ptrsAt env ts
  | _ => ptrsAt env ts
def readyNow (ops : Array Oper) (listed : Array Bool) : List Nat :=
 (List.range ops.size).filter fun i =>
  !listed.getD i true && ((ops[i]?).map (·.after.all fun e => !Region.binds .any e || listed.getD e.on false)).getD false
def slotsOf : List Operand → List Tmp
 | [] => []
 | .tmp t :: r => t :: slotsOf r
 | _ :: r => slotsOf r
def looksAt (ops : Array Oper) (o : Oper) : List Tmp :=
 slotsOf o.op.operands.toList ++ (match o.guard with | some (g, _) => ((ops[g]?).bind (·.dst)).toList | none => [])
def apartOk (ops : Array Oper) (x y : Oper) : Bool :=
  (match x.dst with
   | some d => !(has d (looksAt ops y)) && (match y.dst with | some e => !(Nat.beq e d) | none => true)
   | none => true) &&
  (match y.dst with
   | some d => !(has d (looksAt ops x))
   | none => true)
def freeNow (ops : Array Oper) (listed : Array Bool) (i : Nat) : Bool :=
 match ops[i]? with
 | none => false
 | some oi => (List.range ops.size).all fun j => Nat.beq j i || listed.getD j true || match ops[j]? with
   | some oj => oj.after.any (fun e => Region.binds .any e && Nat.beq e.on i) || apartOk ops oi oj
   | none => true
def otherOf (Z : List Nat) (tab : Tab) (ops : Array Oper) (i : Nat) (listed : Array Bool) : Option Nat :=
 match (match ops[i]? with | some o => isEff Z tab o | none => false) with
 | true => match readyNow ops listed with
  | [a, b] => bif Nat.beq a i then some b else bif Nat.beq b i then some a else none
  | _ => none
 | false => none
def fore (Z : List Nat) (tab : Tab) (ops : Array Oper) : Nat → Array Bool → List Nat → List Nat
 | 0, _, c => c
 | f + 1, listed, c => match c.find? (fun x => match ops[x]? with | some o => !isEff Z tab o && has x (readyNow ops listed) | none => false) with
  | some x => x :: fore Z tab ops f (listed.setIfInBounds x true) (rid x c)
  | none => c
def orderOk (Z : List Nat) (tab : Tab) (ops : Array Oper) : Nat → List Nat → Array Bool → Bool
 | _, [], listed => (readyNow ops listed).isEmpty
 | 0, _ :: _, _ => false
 | f + 1, i :: c, listed =>
  match ops[i]? with
  | some o => bif isEff Z tab o then
    (match readyNow ops listed with
     | [a] => Nat.beq a i && orderOk Z tab ops f c (listed.setIfInBounds i true)
     | [a, b] => (Nat.beq a i || Nat.beq b i) && (match otherOf Z tab ops i listed with
      | some j => (match ops[j]? with | some p => isEff Z tab p | none => false) && orderOk Z tab ops f c (listed.setIfInBounds i true) && orderOk Z tab ops f (fore Z tab ops f (listed.setIfInBounds j true) (i :: rid j c)) (listed.setIfInBounds j true)
      | none => false)
     | _ => false)
    else freeNow ops listed i && has i (readyNow ops listed) && orderOk Z tab ops f c (listed.setIfInBounds i true)
  | none => false
def noSelect : List Oper → Bool
 | [] => true
 | o :: r => (match o.op with | .select _ _ | .defer _ => false | _ => true) && noSelect r
def isDst (t : Nat) (o : Oper) : Bool := match o.dst with | some d => Nat.beq d t | none => false
def envOut (ops : List Oper) : Env → Env
 | [] => []
 | (t, v) :: r => bif ops.any (isDst t) then envOut ops r else (t, v) :: envOut ops r
def doD (Z : List Nat) (tab : Tab) (cal : Cal T) (sl L W : List Nat) (ops : Array Oper) (st0 : St) (envP : Env) (i : Nat) (o : Oper) (listed : Array Bool) (fr : Fr) (st : St) (K : SV → St → St → O T) (Kp : PV → Fr → St → O T) : O T :=
 ifb (isQ tab o.op) (evQ tab st.H o.op fr.env (K · st0 st)) (
 ifb (isLd Z tab o) (evLoad tab o.op fr.env st0.H fun j v => ifb (!(has i L) || (has j W && cellsAt st0.H j)) (K v st0 st) .no) (
 ifb (isLoad tab o.op && !openAt tab o.op fr.env st.H) (evLoad tab o.op fr.env st.H fun _ v => K v st0 st)
 (evA tab cal sl o.op fr.env st (fun v st' => ifb (pend Z tab ops (listed.setIfInBounds i true)) (ifb st'.dirty (ifb (!(pendX L Z tab ops (listed.setIfInBounds i true)) && storeOk W o.op fr.env st) (K v st0 st') .no) (K v st' st')) (K v st0 st')) (fun e st' => Kp e ⟨envP, fr.dfs, fr.base, []⟩ st'))))
def evStep (Z : List Nat) (tab : Tab) (cal : Cal T) (L W : List Nat) (n : Nat) (ops : Array Oper) (st0 : St) (envP : Env) (i : Nat) (listed : Array Bool) (sl : List Nat) (fr : Fr) (st : St) (R : List Nat → St → Fr → St → O T) (Kp : PV → Fr → St → O T) : O T :=
  match ops[i]? with
  | none => .no
  | some o =>
   ifb (okDst n o.dst) (
    match o.guard with
    | none => doD Z tab cal sl L W ops st0 envP i o listed fr st (fun v st0 st => R (settle sl (fr.put o.dst v).env o) st0 (fr.put o.dst v) st) Kp
    | some (j, want) =>
     match dstOf ops.toList j with
     | some d => match lkp d fr.env with
      | some (.bool b) =>
       O.test (has d sl) b
        (match want with
         | true => doD Z tab cal (d :: sl) L W ops st0 envP i o listed (fr.put (some d) (.bool true)) st (fun v st0 st => R (settle (d :: sl) ((fr.put (some d) (.bool true)).put o.dst v).env o) st0 ((fr.put (some d) (.bool true)).put o.dst v) st) Kp
         | false => R (d :: sl) st0 ((fr.put (some d) (.bool true)).put o.dst (.tup [])) st)
        (match want with
         | false => doD Z tab cal (d :: sl) L W ops st0 envP i o listed (fr.put (some d) (.bool false)) st (fun v st0 st => R (settle (d :: sl) ((fr.put (some d) (.bool false)).put o.dst v).env o) st0 ((fr.put (some d) (.bool false)).put o.dst v) st) Kp
         | true => R (d :: sl) st0 ((fr.put (some d) (.bool false)).put o.dst (.tup [])) st)
      | some (.tup []) => R sl st0 (fr.put o.dst (.tup [])) st
      | _ => .no
     | none => .no) .no
def evD (Z : List Nat) (tab : Tab) (cal : Cal T) (L W : List Nat) (n : Nat) (ops : Array Oper) (envP : Env) (K : Fr → St → O T) (Kp : PV → Fr → St → O T) : Nat → List Nat → Array Bool → List Nat → St → Fr → St → O T
 | _, [], _, sl, _, fr, st => K ⟨fr.env, fr.dfs, fr.base, sl⟩ st
 | 0, _ :: _, _, _, _, _, _ => .no
 | f + 1, i :: c, listed, sl, st0, fr, st => match otherOf Z tab ops i listed with
  | none => evStep Z tab cal L W n ops st0 envP i listed sl fr st (evD Z tab cal L W n ops envP K Kp f c (listed.setIfInBounds i true)) Kp
  | some j => O.same (evStep Z tab cal L W n ops st0 envP i listed sl fr st (evD Z tab cal L W n ops envP K Kp f c (listed.setIfInBounds i true)) Kp)
    (evStep Z tab cal L W n ops st0 envP j listed sl fr st (evD Z tab cal L W n ops envP K Kp f (fore Z tab ops f (listed.setIfInBounds j true) (i :: rid j c)) (listed.setIfInBounds j true)) Kp)
def keep (env : Env) : List Nat → Env
 | [] => []
 | t :: ts => match lkp t env with
  | some v => (t, v) :: keep env ts
  | none => keep env ts
def keepN (H : Heap) : List Nat → Heap
 | [] => []
 | j :: js => match lkp j H with
  | some o => (j, o) :: keepN H js
  | none => keepN H js
mutual
def namesOf : SV → List Nat
 | .ptr j _ => [j]
 | .ept j _ _ _ => [j]
 | .osl j => [j]
 | .mp j => [j]
 | .sl j _ _ _ => [j]
 | .csl j _ => [j]
 | .clo _ cs => namesL cs
 | .iface _ v => namesOf v
 | .agg cs => namesL cs
 | .tup cs => namesL cs
 | _ => []
def namesL : List SV → List Nat
 | [] => []
 | v :: vs => namesOf v ++ namesL vs
end
def hoNames : HO → List Nat
 | .cells _ vs => namesL vs
 | .row _ _ _ _ => []
 | .map _ _ _ _ _ _ => []
 | .tab _ _ γ p _ _ => p :: γ
 | .opn _ γ p _ _ _ vs => p :: (γ ++ namesL vs)
 | .ghost => []
def reach (base : Nat) (H : Heap) : Nat → List Nat → List Nat → List Nat
 | 0, _, found => found
 | _ + 1, [], found => found
 | k + 1, j :: todo, found => bif Nat.blt j base || has j found then reach base H k todo found else
   reach base H k (todo ++ (match lkp j H with | some o => hoNames o | none => [])) (found ++ [j])
def idx (j : Nat) : List Nat → Nat
 | [] => 0
 | i :: r => bif Nat.beq i j then 0 else Nat.succ (idx j r)
def rn (base : Nat) (found : List Nat) (j : Nat) : Nat := bif Nat.blt j base then j else base + idx j found
mutual
def renS (r : Nat → Nat) : SV → SV
 | .ptr j off => .ptr (r j) off
 | .ept j sz i off => .ept (r j) sz i off
 | .osl j => .osl (r j)
 | .mp j => .mp (r j)
 | .sl j sz ch n => .sl (r j) sz ch n
 | .csl j n => .csl (r j) n
 | .clo f cs => .clo f (renL r cs)
 | .iface t v => .iface t (renS r v)
 | .agg cs => .agg (renL r cs)
 | .tup cs => .tup (renL r cs)
 | .int k n => .int k n
 | .bool b => .bool b
 | .str s => .str s
 | .nilp => .nilp
 | .nilsl => .nilsl
 | .nilf => .nilf
 | .nili => .nili
 | .nilm => .nilm
def renL (r : Nat → Nat) : List SV → List SV
 | [] => []
 | v :: vs => renS r v :: renL r vs
end
def renH (r : Nat → Nat) : HO → HO
 | .cells T vs => .cells T (renL r vs)
 | .row own t ls xs => .row own t ls xs
 | .map t ka va kl vl es => .map t ka va kl vl es
 | .tab own t γ p f xs => .tab own t (γ.map r) (r p) f xs
 | .opn t γ p f xs i vs => .opn t (γ.map r) (r p) f xs i (renL r vs)
 | .ghost => .ghost
def renE (r : Nat → Nat) : Env → Env
 | [] => []
 | (t, v) :: e => (t, renS r v) :: renE r e
def foundH (base : Nat) (all : List Nat) (H : Heap) (i : Nat) : List Nat → Heap
 | [] => []
 | j :: js => match lkp j H with
  | some o => (i, renH (rn base all) o) :: foundH base all H (Nat.succ i) js
  | none => foundH base all H (Nat.succ i) js
def inOr (base : Nat) (found : List Nat) : List Nat → Bool
 | [] => true
 | j :: js => (Nat.blt j base || has j found) && inOr base found js
def namesE : Env → List Nat
 | [] => []
 | (_, v) :: e => namesOf v ++ namesE e
def heapIn (base : Nat) (found : List Nat) (H : Heap) : List Nat → Bool
 | [] => true
 | j :: js => (match lkp j H with | some o => inOr base found (hoNames o) | none => true) && heapIn base found H js
def namesH (H : Heap) : List Nat → List Nat
 | [] => []
 | j :: js => (match lkp j H with | some o => hoNames o | none => []) ++ namesH H js
inductive Nl where
 | slot (t : Nat) (path : List Nat)
 | name (j : Nat) (path : List Nat)
inductive RowK where
 | pl (ls : List Lf)
 | tb (f : Shs)
structure Cut where
 ts : List Nat
 nils : List (Nl × TypeId × RowK)
def cellAt (H : Heap) (j : Nat) : List Nat → Option (Nat × Nat)
 | [] => none
 | [o] => some (j, o)
 | o :: os => match lkp j H with
  | some (.cells _ vs) => match vs[o]? with
   | some (.ptr i 0) => cellAt H i os
   | _ => none
  | _ => none
def ownRow (v : SV) (e : TypeId) (r : RowK) (st : St) (K : SV → St → O T) (K0 : O T) : O T :=
 match v, r with
 | .nilsl, .pl (l :: ls) => K (.osl st.nx) (st.add (.row true e (l :: ls) []))
 | .nilsl, .tb f => ifb (Nat.ble 1 f.sz && f.lt 0) (K (.osl (Nat.succ st.nx)) ((st.add .ghost).add (.tab true e [] st.nx f []))) K0
 | .sl j sz ch n, .pl _ => match lkp j st.H with
  | some (.row true t ls xs) => ifb (Nat.beq sz ls.length && Nat.beq t e) (O.chk (posI ch && decide (0 ≤ n ∧ sumI ch + n ≤ (xs.length : Int))) (K (.osl st.nx) ⟨Nat.succ st.nx, st.dirty, (st.nx, .row true t ls (sub xs (sumI ch) n)) :: del j st.H⟩)) K0
  | _ => K0
 | .sl j sz ch n, .tb _ => match lkp j st.H with
  | some (.tab true t γ _ f xs) => ifb (Nat.beq sz f.sz && Nat.beq t e) (O.chk (posI ch && decide (0 ≤ n ∧ sumI ch + n ≤ (xs.length : Int))) (K (.osl (Nat.succ st.nx)) ⟨Nat.succ (Nat.succ st.nx), st.dirty, (Nat.succ st.nx, .tab true t (gOf γ f) st.nx f (sub xs (sumI ch) n)) :: (st.nx, .ghost) :: del j st.H⟩)) K0
  | _ => K0
 | _, _ => K0
def fillCell (x : Nat × Nat) (e : TypeId) (r : RowK) (st : St) (K : St → O T) : O T :=
 match lkp x.1 st.H with
 | some (.cells t vs) => match vs[x.2]? with
  | some v => ownRow v e r st (fun v st => match lkp x.1 st.H with
   | some (.cells t' vs') => ifb (Nat.beq t t' && Nat.beq vs.length vs'.length) (K ⟨st.nx, true, (x.1, .cells t' (vs'.set x.2 v)) :: st.H⟩) .no
   | _ => .no) (K st)
  | none => K st
 | _ => K st
def fillNil (x : Nl × TypeId × RowK) (fr : Fr) (st : St) (K : Fr → St → O T) : O T :=
 match x.1 with
 | .slot t [] => match lkp t fr.env with
  | some v => ownRow v x.2.1 x.2.2 st (fun v st => K ⟨(t, v) :: fr.env, fr.dfs, fr.base, fr.sl⟩ st) (K fr st)
  | none => K fr st
 | .slot t path => match lkp t fr.env with
  | some (.ptr j 0) => match cellAt st.H j path with
   | some y => fillCell y x.2.1 x.2.2 st fun st => K fr st
   | none => K fr st
  | _ => K fr st
 | .name j path => match cellAt st.H j path with
  | some y => fillCell y x.2.1 x.2.2 st fun st => K fr st
  | none => K fr st
def fillNils : List (Nl × TypeId × RowK) → Fr → St → (Fr → St → O T) → O T
 | [], fr, st, K => K fr st
 | x :: xs, fr, st, K => fillNil x fr st fun fr st => fillNils xs fr st K
def cutTo1 (c : Cut) (K : Fr → St → O T) (fr : Fr) (st : St) : O T :=
 let env := keep fr.env c.ts
 let found := reach fr.base st.H 1000 (namesE env ++ namesL fr.dfs ++ namesH st.H (List.range fr.base)) []
 ifb (inOr fr.base found (namesE env) && inOr fr.base found (namesL fr.dfs) && heapIn fr.base found st.H found && heapIn fr.base found st.H (List.range fr.base))
  (K ⟨renE (rn fr.base found) env, renL (rn fr.base found) fr.dfs, fr.base, []⟩ ⟨fr.base + found.length, true, foundH fr.base found st.H fr.base found ++ foundH fr.base found st.H 0 (List.range fr.base)⟩) .no
def cutTo (c : Cut) (fr : Fr) (st : St) (K : Fr → St → O T) : O T :=
 foldJs (opns st.H) st fun st => fillNils c.nils fr st (cutTo1 c K)
def loopK (c : Cut) (R : Fr → St → O T) (K : Ex → Fr → St → O T) : Ex → Fr → St → O T := fun e fr st =>
 match e with
 | .normal => cutTo c fr st R
 | e => K e fr st
def blockK (id : Nat) (K : Ex → Fr → St → O T) : Ex → Fr → St → O T := fun e fr st =>
 match e with
 | .exit id' => ifb (Nat.beq id' id) (K .normal fr st) (K (.exit id') fr st)
 | e => K e fr st
def evLoop (body : Fr → St → (Ex → Fr → St → O T) → O T) (c : Cut) (K : Ex → Fr → St → O T) : Nat → Fr → St → O T
 | 0, _, _ => .no
 | k + 1, fr, st => body fr st (loopK c (evLoop body c K k) K)
def turnK (R : Fr → St → O T) (K : Ex → Fr → St → O T) : Ex → Fr → St → O T := fun e fr st =>
 match e with
 | .normal => R fr st
 | e => K e fr st
def evTurns (body : Fr → St → (Ex → Fr → St → O T) → O T) (K : Ex → Fr → St → O T) : Nat → Fr → St → O T
 | 0, _, _ => .no
 | k + 1, fr, st => body fr st (turnK (evTurns body K k) K)
def firstId : Code → Nat
 | .region id _ _ => id
 | .seq a _ => firstId a
 | .block _ a => firstId a
 | .loop a => firstId a
 | _ => 0
structure Notes where
 loops : List (Nat × Cut)
 cuts : List (Nat × Cut)
 orders : List (Nat × List Nat)
 turns : List (Nat × Nat)
 keeps : List (Nat × List Nat × List Nat × List Nat)
theorem hide_ex : ∃ B : (T : Type) → (Fr → St → O T) → Fr → St → O T, ∀ T F fr st, B T F fr st = F fr st := ⟨_, fun _ _ _ _ => rfl⟩
noncomputable def hide (F : Fr → St → O T) (fr : Fr) (st : St) : O T := Classical.choose hide_ex T F fr st
theorem hide_eq (F : Fr → St → O T) (fr : Fr) (st : St) : hide F fr st = F fr st := Classical.choose_spec hide_ex T F fr st
def keepsOf (id : Nat) (nt : Notes) : List Nat × List Nat × List Nat := match lkp id nt.keeps with
 | some c => c
 | none => ([], [], [])
def seqK (nt : Notes) (id : Nat) (B : Fr → St → O T) (K : Ex → Fr → St → O T) : Ex → Fr → St → O T := fun e fr st =>
 match e with
 | .normal => match lkp id nt.cuts with
  | none => B fr st
  | some c => cutTo c fr st (hide B)
 | e => K e fr st
def ev (tab : Tab) (cal : Cal T) (n : Nat) (nt : Notes) (k : Nat) : Code → Fr → St → (Ex → Fr → St → O T) → O T
 | .skip, fr, st, K => K .normal fr st
 | .region id ops draw, fr, st, K => match draw with
  | false => evOps tab cal n ops.toList ops.toList fr.sl fr st (fun fr st => K .normal fr st) (fun e fr st => K (.panic e) fr st)
  | true => match lkp id nt.orders with
   | some order => ifb (orderOk (keepsOf id nt).2.2 tab ops order.length order (Array.replicate ops.size false) && Nat.beq order.length ops.size && noSelect ops.toList)
     (evD (keepsOf id nt).2.2 tab cal (keepsOf id nt).1 (ptrsAt fr.env (keepsOf id nt).2.1) n ops (envOut ops.toList fr.env) (fun fr st' => K .normal fr (st'.wash (st.dirty || st'.dirty))) (fun e fr st' => K (.panic e) fr (st'.wash (st.dirty || st'.dirty))) order.length order (Array.replicate ops.size false) fr.sl (st.wash false) fr (st.wash false)) .no
   | none => .no
 | .seq a b, fr, st, K => ev tab cal n nt k a fr st (seqK nt (firstId b) (fun fr st => ev tab cal n nt k b fr st K) K)
 | .cond c a b, fr, st, K => match ofOpd fr.env c with
  | some (.bool t) => O.test (isSet fr.sl c) t (ev tab cal n nt k a fr st K) (ev tab cal n nt k b fr st K)
  | _ => .no
 | .block id a, fr, st, K => ev tab cal n nt k a fr st (blockK id K)
 | .loop a, fr, st, K => match lkp (firstId a) nt.turns with
  | some m => evTurns (fun fr st K => ev tab cal n nt k a fr st K) K m fr st
  | none => match lkp (firstId a) nt.loops with
   | some c => cutTo c fr st (evLoop (fun fr st K => ev tab cal n nt k a fr st K) c K k)
   | none => .no
 | .exit id, fr, st, K => K (.exit id) fr st
 | .ret, fr, st, K => K .ret fr st
 | _, _, _, _ => .no
inductive Dir where
 | l | r | t | e | b | p
def subC : List Dir → Code → Code
 | [], c => c
 | .l :: ds, .seq a _ => subC ds a
 | .r :: ds, .seq _ b => subC ds b
 | .t :: ds, .cond _ a _ => subC ds a
 | .e :: ds, .cond _ _ b => subC ds b
 | .b :: ds, .block _ a => subC ds a
 | .p :: ds, .loop a => subC ds a
 | _, c => c
def cutOf (x : Option Cut) : Cut :=
 match x with
 | some c => c
 | none => ⟨[], []⟩
def kAt (tab : Tab) (cal : Cal T) (n : Nat) (nt : Notes) (k : Nat) : List (Fr → St → O T) → List Dir → Code → (Ex → Fr → St → O T) → (Ex → Fr → St → O T)
 | _, [], _, K => K
 | Rs, .l :: ds, .seq a b, K => kAt tab cal n nt k Rs ds a (seqK nt (firstId b) (fun fr st => ev tab cal n nt k b fr st K) K)
 | Rs, .r :: ds, .seq _ b, K => kAt tab cal n nt k Rs ds b K
 | Rs, .t :: ds, .cond _ a _, K => kAt tab cal n nt k Rs ds a K
 | Rs, .e :: ds, .cond _ _ b, K => kAt tab cal n nt k Rs ds b K
 | Rs, .b :: ds, .block id a, K => kAt tab cal n nt k Rs ds a (blockK id K)
 | R :: Rs, .p :: ds, .loop a, K => kAt tab cal n nt k Rs ds a (loopK (cutOf (lkp (firstId a) nt.loops)) R K)
 | _, _, _, K => K
def loopAt (tab : Tab) (cal : Cal T) (n : Nat) (nt : Notes) (k : Nat) (Rs : List (Fr → St → O T)) (ds : List Dir) (c : Code) (K : Ex → Fr → St → O T) (j : Nat) (fr : Fr) (st : St) : O T :=
 evLoop (fun fr st K => ev tab cal n nt k (subC (ds ++ [.p]) c) fr st K) (cutOf (lkp (firstId (subC (ds ++ [.p]) c)) nt.loops)) (kAt tab cal n nt k Rs ds c K) j fr st
def codeAt (tab : Tab) (cal : Cal T) (n : Nat) (nt : Notes) (k : Nat) (Rs : List (Fr → St → O T)) (ds : List Dir) (c : Code) (K : Ex → Fr → St → O T) (fr : Fr) (st : St) : O T :=
 hide (fun fr st => ev tab cal n nt k (subC ds c) fr st (kAt tab cal n nt k Rs ds c K)) fr st
theorem codeAt_eq (tab : Tab) (cal : Cal T) (n : Nat) (nt : Notes) (k : Nat) (Rs : List (Fr → St → O T)) (ds : List Dir) (c : Code) (K : Ex → Fr → St → O T) (fr : Fr) (st : St) :
  codeAt tab cal n nt k Rs ds c K fr st = ev tab cal n nt k (subC ds c) fr st (kAt tab cal n nt k Rs ds c K) := hide_eq _ _ _
def argEnv : List SV → Nat → Env
 | [], _ => []
 | v :: vs, i => (i, v) :: argEnv vs (Nat.succ i)
def resVals (tab : Tab) (fr : Fr) (st : St) : List ResultVar → Option (List SV)
 | [] => some []
 | .tmp t :: rs => match lkp t fr.env with
  | some v => match resVals tab fr st rs with
   | some vs => some (v :: vs)
   | none => none
  | none => none
 | .cell a t :: rs => match lkp a fr.env, lkp t tab with
  | some (.ptr j off), some k => match lkp j st.H with
   | some (.cells _ vs) => match partOf k.isAgg off k.size vs with
    | some v => match resVals tab fr st rs with
     | some vs => some (v :: vs)
     | none => none
    | none => none
   | _ => none
  | _, _ => none
def resVal : List SV → SV
 | [v] => v
 | vs => .tup vs
def finK (tab : Tab) (rs : List ResultVar) (K : SV → St → O T) (Kp : PV → St → O T) : Ex → Fr → St → O T := fun e fr st =>
 match e, fr.dfs with
 | .normal, [] | .ret, [] => match resVals tab fr st rs with
  | some vs => K (resVal vs) st
  | none => .no
 | .panic e, [] => Kp e st
 | _, _ => .no
def bodyOf (fn : Func) : Code :=
 match fn.body with
 | some c => c
 | none => .skip
def evFn (tab : Tab) (cal : Cal T) (fn : Func) (nt : Notes) (k : Nat) (b : Nat) (args : List SV) (sl : List Nat) (st : St) (K : SV → St → O T) (Kp : PV → St → O T) : O T :=
 ifb (fn.body.isSome) (ev tab cal fn.ntmps nt k (bodyOf fn) ⟨argEnv args 0, [], b, sl⟩ st (finK tab fn.results.toList K Kp)) (.no)
end
end Go.Aq
end
section
namespace Go.Aq
open Go.RowKit (Below)
def blk : Value → Nat
 | .pointer (some a) => a.block
 | .slice (some a) _ _ => a.block
 | .map (some b) => b
 | _ => 0
def mpV : Value → Value
 | .map b => .map b
 | _ => .map none
def hdr : Value → Value
 | .slice a n c => .slice a n c
 | _ => .slice none 0 0
def offs : Value → Nat
 | .slice (some a) _ _ => a.off
 | _ => 0
def chop (sz : Nat) : List Int → Addr × Nat → Addr × Nat
 | [], p => p
 | l :: ls, p => chop sz ls (if p.2 = l.toNat then p.1 else p.1.add (l.toNat * sz), p.2 - l.toNat)
def cutV (sz : Nat) (ch : List Int) (n : Int) : Value → Value
 | .slice (some a) _ c => .slice (some (chop sz ch (a, c)).1) n.toNat (chop sz ch (a, c)).2
 | _ => .slice none 0 0
mutual
def den (ν : Nat → Value) : SV → Value
 | .int k n => .int k n
 | .bool b => .bool b
 | .str s => .string s
 | .ptr j off => .pointer (some ⟨blk (ν j), off, none⟩)
 | .ept j sz i off => .pointer (some ⟨blk (ν j), offs (ν j) + i.toNat * sz + off, none⟩)
 | .osl j => hdr (ν j)
 | .mp j => mpV (ν j)
 | .sl j sz ch n => cutV sz ch n (ν j)
 | .csl j n => .slice (some ⟨blk (ν j), 0, none⟩) n n
 | .clo f cs => .func (.func f) #[] (denL ν cs).toArray
 | .iface t v => .iface t (den ν v)
 | .agg cs => .agg (denL ν cs).toArray
 | .tup cs => .tuple (denL ν cs).toArray
 | .nilp => .pointer none
 | .nilsl => .slice none 0 0
 | .nilf => .nilFunc
 | .nili => .nilIface
 | .nilm => .map none
def denL (ν : Nat → Value) : List SV → List Value
 | [] => []
 | v :: vs => den ν v :: denL ν vs
end
theorem denL_eq (ν : Nat → Value) (vs : List SV) : denL ν vs = vs.map (den ν) := by
 induction vs with
 | nil => simp [denL]
 | cons v vs ih => simp [denL, ih]
mutual
def svLt (n : Nat) : SV → Bool
 | .ptr j _ => Nat.blt j n
 | .ept j _ _ _ => Nat.blt j n
 | .osl j => Nat.blt j n
 | .mp j => Nat.blt j n
 | .sl j _ _ _ => Nat.blt j n
 | .csl j _ => Nat.blt j n
 | .clo _ cs => belowL n cs
 | .iface _ v => svLt n v
 | .agg cs => belowL n cs
 | .tup cs => belowL n cs
 | _ => true
def belowL (n : Nat) : List SV → Bool
 | [] => true
 | v :: vs => svLt n v && belowL n vs
end
def ltNs (n : Nat) : List Nat → Bool
 | [] => true
 | j :: js => Nat.blt j n && ltNs n js
def hoLt (n : Nat) : HO → Bool
 | .cells _ vs => belowL n vs
 | .row _ _ _ _ => true
 | .map _ _ _ _ _ _ => true
 | .tab _ _ γ p _ _ => Nat.blt p n && ltNs n γ
 | .opn _ γ p _ _ _ vs => Nat.blt p n && (ltNs n γ && belowL n vs)
 | .ghost => true
mutual
theorem den_congr {ν ν' : Nat → Value} {n : Nat} (h : ∀ j, j < n → ν j = ν' j) : ∀ v, svLt n v = true → den ν v = den ν' v
 | .int _ _, _ | .bool _, _ | .str _, _ | .nilp, _ | .nilsl, _ | .nilf, _ | .nili, _ | .nilm, _ => by simp [den]
 | .ptr j off, hv => by simp [svLt] at hv; simp [den, h j hv]
 | .ept j sz i off, hv => by simp [svLt] at hv; simp [den, h j hv]
 | .osl j, hv => by simp [svLt] at hv; simp [den, h j hv]
 | .mp j, hv => by simp [svLt] at hv; simp [den, h j hv]
 | .sl j sz ch m, hv => by simp [svLt] at hv; simp [den, h j hv]
 | .csl j m, hv => by simp [svLt] at hv; simp [den, h j hv]
 | .clo f cs, hv => by simp [svLt] at hv; simp [den, denL_congr h cs hv]
 | .iface t v, hv => by simp [svLt] at hv; simp [den, den_congr h v hv]
 | .agg cs, hv => by simp [svLt] at hv; simp [den, denL_congr h cs hv]
 | .tup cs, hv => by simp [svLt] at hv; simp [den, denL_congr h cs hv]
theorem denL_congr {ν ν' : Nat → Value} {n : Nat} (h : ∀ j, j < n → ν j = ν' j) : ∀ vs, belowL n vs = true → denL ν vs = denL ν' vs
 | [], _ => by simp [denL]
 | v :: vs, hv => by
  simp [belowL] at hv
  simp [denL, den_congr h v hv.1, denL_congr h vs hv.2]
end
mutual
theorem svLt_mono {m n : Nat} (h : m ≤ n) : ∀ v, svLt m v = true → svLt n v = true
 | .int _ _, _ | .bool _, _ | .str _, _ | .nilp, _ | .nilsl, _ | .nilf, _ | .nili, _ | .nilm, _ => by simp [svLt]
 | .ptr j off, hv => by simp [svLt] at *; omega
 | .ept j _ _ _, hv => by simp [svLt] at *; omega
 | .osl j, hv => by simp [svLt] at *; omega
 | .mp j, hv => by simp [svLt] at *; omega
 | .sl j _ _ _, hv => by simp [svLt] at *; omega
 | .csl j _, hv => by simp [svLt] at *; omega
 | .clo f cs, hv => by simp only [svLt] at *; exact belowL_mono h cs hv
 | .iface t v, hv => by simp only [svLt] at *; exact svLt_mono h v hv
 | .agg cs, hv => by simp only [svLt] at *; exact belowL_mono h cs hv
 | .tup cs, hv => by simp only [svLt] at *; exact belowL_mono h cs hv
theorem belowL_mono {m n : Nat} (h : m ≤ n) : ∀ vs, belowL m vs = true → belowL n vs = true
 | [], _ => by simp [belowL]
 | v :: vs, hv => by
  simp [belowL] at *
  exact ⟨svLt_mono h v hv.1, belowL_mono h vs hv.2⟩
end
theorem belowL_iff {n : Nat} {vs : List SV} : belowL n vs = true ↔ ∀ v ∈ vs, svLt n v = true := by
 induction vs with
 | nil => simp [belowL]
 | cons v vs ih => simp [belowL, ih]
theorem ltNs_mono {m n : Nat} (h : m ≤ n) : ∀ js, ltNs m js = true → ltNs n js = true
 | [], _ => rfl
 | j :: js, hj => by
  simp only [ltNs, Bool.and_eq_true] at *
  exact ⟨Nat.ble_eq_true_of_le (by have := Nat.le_of_ble_eq_true hj.1; omega), ltNs_mono h js hj.2⟩
theorem ltNs_nth {n : Nat} : ∀ {js : List Nat}, ltNs n js = true → ∀ k, k < js.length → nth js k < n
 | j :: js, h, 0, _ => Nat.le_of_ble_eq_true (by simp only [ltNs, Bool.and_eq_true] at h; exact h.1)
 | j :: js, h, k + 1, hk => by
  simp only [ltNs, Bool.and_eq_true] at h
  exact ltNs_nth h.2 k (by simpa using hk)
theorem blt_mono {j m n : Nat} (h : m ≤ n) (hj : Nat.blt j m = true) : Nat.blt j n = true := Nat.ble_eq_true_of_le (by have := Nat.le_of_ble_eq_true hj; omega)
theorem hoLt_mono {m n : Nat} (h : m ≤ n) : ∀ o, hoLt m o = true → hoLt n o = true
 | .cells _ vs, ho => by simp only [hoLt] at *; exact belowL_mono h vs ho
 | .row _ _ _ _, _ => by simp [hoLt]
 | .map _ _ _ _ _ _, _ => by simp [hoLt]
 | .tab _ _ γ p _ _, ho => by
  simp only [hoLt, Bool.and_eq_true] at *
  exact ⟨blt_mono h ho.1, ltNs_mono h γ ho.2⟩
 | .opn _ γ p _ _ _ vs, ho => by
  simp only [hoLt, Bool.and_eq_true] at *
  exact ⟨blt_mono h ho.1, ltNs_mono h γ ho.2.1, belowL_mono h vs ho.2.2⟩
 | .ghost, _ => by simp [hoLt]
def ν0 : Nat → Value := fun _ => .pointer none
theorem lf_enc_lt (n : Nat) (l : Lf) (x : l.T) : svLt n (l.enc x) = true := by cases l <;> rfl
theorem encL_lt (n : Nat) : ∀ (ls : List Lf) (x : LT ls), belowL n (encL ls x) = true
 | [], _ => rfl
 | [l], x => Bool.and_eq_true_iff.2 ⟨lf_enc_lt n l x, rfl⟩
 | l :: m :: ls, x => by show (svLt n (l.enc x.1) && belowL n (encL (m :: ls) x.2)) = true; rw [lf_enc_lt, encL_lt n (m :: ls) x.2]; rfl
theorem encL_length : ∀ (ls : List Lf) (x : LT ls), (encL ls x).length = ls.length
 | [], _ => rfl
 | [l], x => rfl
 | l :: m :: ls, x => by simp [encL, encL_length (m :: ls) x.2]
theorem lf_leaf (l : Lf) (x : l.T) : isLeaf (l.enc x) = true := by cases l <;> rfl
theorem encL_leaf : ∀ (ls : List Lf) (x : LT ls), (encL ls x).all isLeaf = true
 | [], _ => rfl
 | [l], x => Bool.and_eq_true_iff.2 ⟨lf_leaf l x, rfl⟩
 | l :: m :: ls, x => by show (isLeaf (l.enc x.1) && (encL (m :: ls) x.2).all isLeaf) = true; rw [lf_leaf, encL_leaf (m :: ls) x.2]; rfl
theorem lf_dec {l : Lf} {v : SV} {x : l.T} (h : l.dec v = some x) : v = l.enc x := by
 cases l <;> cases v <;> simp only [Lf.dec, reduceCtorEq] at h
 ·rename_i k k' n
  by_cases hk : k = k'
  ·subst hk
   rw [decide_eq_true rfl, cond_true] at h
   rw [← Option.some.inj h]; rfl
  ·rw [decide_eq_false hk, cond_false] at h; cases h
 ·rw [← Option.some.inj h]; rfl
 ·rw [← Option.some.inj h]; rfl
theorem decL_one (l : Lf) (v : SV) : decL [l] [v] = l.dec v := rfl
theorem decL_more (l m : Lf) (ls : List Lf) (v : SV) (vs : List SV) : decL (l :: m :: ls) (v :: vs) = (match l.dec v with
  | some x => match decL (m :: ls) vs with
   | some y => some (x, y)
   | none => none
  | none => none) := rfl
theorem decL_of : ∀ (ls : List Lf) (vs : List SV) (x : LT ls), decL ls vs = some x → vs = encL ls x := by
 intro ls
 induction ls with
 | nil =>
  intro vs x h
  cases vs with
  | nil => rfl
  | cons v vs => exact nomatch h
 | cons l ls ih =>
  intro vs x h
  cases ls with
  | nil =>
   cases vs with
   | nil => exact nomatch h
   | cons v vs =>
    cases vs with
    | nil => rw [decL_one] at h; rw [lf_dec h]; rfl
    | cons _ _ => exact nomatch h
  | cons m ls =>
   cases vs with
   | nil => exact nomatch h
   | cons v vs =>
    rw [decL_more] at h
    split at h
    ·rename_i y hy
     split at h
     ·rename_i z hz
      rw [← Option.some.inj h, lf_dec hy, ih vs z hz]; rfl
     ·exact nomatch h
    ·exact nomatch h
def cellsV (ls : List Lf) (x : LT ls) : List Value := denL ν0 (encL ls x)
theorem cellsV_length (ls : List Lf) (x : LT ls) : (cellsV ls x).length = ls.length := by simp [cellsV, denL_eq, encL_length]
theorem cellsV_any (ls : List Lf) (x : LT ls) (ν : Nat → Value) : denL ν (encL ls x) = cellsV ls x := denL_congr (n := 0) (fun j hj => absurd hj (Nat.not_lt_zero j)) _ (encL_lt 0 ls x)
def flat (ls : List Lf) : List (LT ls) → List Value
 | [] => []
 | x :: xs => cellsV ls x ++ flat ls xs
theorem flat_length (ls : List Lf) : ∀ xs : List (LT ls), (flat ls xs).length = xs.length * ls.length
 | [] => by simp [flat]
 | x :: xs => by simp [flat, flat_length ls xs, cellsV_length, Nat.add_mul, Nat.add_comm]
theorem flat_append (ls : List Lf) : ∀ xs ys : List (LT ls), flat ls (xs ++ ys) = flat ls xs ++ flat ls ys
 | [], ys => rfl
 | x :: xs, ys => by simp [flat, flat_append ls xs ys]
theorem flat_take (ls : List Lf) : ∀ (xs : List (LT ls)) (n : Nat), flat ls (xs.take n) = (flat ls xs).take (n * ls.length)
 | [], n => by simp [flat]
 | x :: xs, 0 => by simp [flat]
 | x :: xs, n + 1 => by
  simp only [List.take_succ_cons, flat, flat_take ls xs n]
  have hl := cellsV_length ls x
  rw [List.take_append, hl, Nat.add_mul, Nat.one_mul, Nat.add_sub_cancel, List.take_of_length_le (l := cellsV ls x) (by omega)]
theorem flat_drop (ls : List Lf) : ∀ (xs : List (LT ls)) (n : Nat), flat ls (xs.drop n) = (flat ls xs).drop (n * ls.length)
 | [], n => by simp [flat]
 | x :: xs, 0 => by simp
 | x :: xs, n + 1 => by
  simp only [List.drop_succ_cons, flat, flat_drop ls xs n]
  have hl := cellsV_length ls x
  rw [List.drop_append, hl, Nat.add_mul, Nat.one_mul, Nat.add_sub_cancel, List.drop_of_length_le (l := cellsV ls x) (by omega), List.nil_append]
theorem getD_split {α : Type} (d : α) (xs : List α) (i : Nat) (h : i < xs.length) : xs = xs.take i ++ xs.getD i d :: xs.drop (i + 1) := by
 rw [List.getD_eq_getElem?_getD, List.getElem?_eq_getElem h]
 simp
theorem flat_at (ls : List Lf) (xs : List (LT ls)) (i : Nat) (h : i < xs.length) : ((flat ls xs).drop (i * ls.length)).take ls.length = cellsV ls (xs.getD i (dfltL ls)) := by
 rw [← flat_drop, List.drop_eq_getElem_cons h, flat, List.getD_eq_getElem?_getD, List.getElem?_eq_getElem h]
 simp [cellsV_length]
theorem flat_set (ls : List Lf) (xs : List (LT ls)) (i : Nat) (h : i < xs.length) (x : LT ls) : flat ls (xs.set i x) = (flat ls xs).take (i * ls.length) ++ (cellsV ls x ++ (flat ls xs).drop ((i + 1) * ls.length)) := by
 rw [List.set_eq_take_append_cons_drop, if_pos h, flat_append, flat, flat_take, flat_drop]
theorem leaf_one (ν : Nat → Value) {v : SV} (h : isLeaf v = true) : (den ν v).oneCell' = true := by
 cases v <;> simp [isLeaf] at h <;> simp [den, Value.oneCell']
 ·rename_i j
  cases ν j <;> rfl
 ·rename_i j
  cases ν j <;> rfl
 ·rename_i j sz ch n
  cases ν j <;> first | rfl | (rename_i a _ _; cases a <;> rfl)
theorem leafL_one (ν : Nat → Value) {vs : List SV} (h : vs.all isLeaf = true) : ∀ x ∈ denL ν vs, x.oneCell' = true := by
 intro x hx
 rw [denL_eq, List.mem_map] at hx
 obtain ⟨v, hv, rfl⟩ := hx
 exact leaf_one ν (List.all_eq_true.1 h v hv)
theorem flat_one (ls : List Lf) (xs : List (LT ls)) : ∀ x ∈ flat ls xs, x.oneCell' = true := by
 induction xs with
 | nil => intro x hx; cases hx
 | cons y ys ih =>
  intro x hx
  rcases List.mem_append.1 hx with h | h
  ·exact leafL_one ν0 (encL_leaf ls y) x h
  ·exact ih x h
def Thawed (n : Nat) (fz : Nat × Nat) : Prop := ∀ i, i < n → ¬ (fz.1 ≤ i ∧ i < fz.2)
def RowVal (v : Value) (n : Nat) : Prop :=
 (v = .slice none 0 0 ∧ n = 0) ∨ ∃ a cap, v = .slice (some a) n cap ∧ n ≤ cap ∧ (n ≠ 0 → a.spot = none)
def RowSat (w : World) (v : Value) (own : Bool) (t : TypeId) (ls : List Lf) (xs : List (LT ls)) : Prop :=
 (v = .slice none 0 0 ∧ xs = []) ∨ ∃ a cap, v = .slice (some a) xs.length cap ∧ xs.length ≤ cap ∧
  (own = false → (∀ i u, (flat ls xs)[i]? = some u → w.cell? (a.add i) = some u) ∧ (xs ≠ [] → ls ≠ [] → a.spot = none)) ∧
  (own = true → a.spot = none ∧ cap ≤ maxLen ∧ ∃ cur fz, w.heap[a.block]? = some (.cells cur t fz) ∧ a.off + cap * ls.length ≤ cur.size ∧ Thawed cur.size fz ∧ (cur.toList.drop a.off).take (xs.length * ls.length) = flat ls xs)
def oneV (agg : Bool) (ls : List Lf) (x : LT ls) : Value := match agg with
 | true => .agg (denL ν0 (encL ls x)).toArray
 | false => match denL ν0 (encL ls x) with
  | [v] => v
  | _ => .agg #[]
def MapSat (w : World) (b : Nat) (ka va : Bool) (kl vl : List Lf) (es : List (LT kl × LT vl)) : Prop :=
 ∃ (ms : Array MapEntry) (clock : Nat), w.heap[b]? = some (.map ms clock) ∧ ms.toList.map (fun e => (e.key, e.val)) = (es.map fun e => (oneV ka kl e.1, oneV va vl e.2)) ∧
  (ms.toList.map (·.born)).Nodup ∧ (∀ e ∈ ms.toList, e.born < clock) ∧ (es.map (·.1)).Nodup
theorem cell_of_heap {w w' : World} {a : Addr} (h : w'.heap[a.block]? = w.heap[a.block]?) : w'.cell? a = w.cell? a := by simp [World.cell?, h]
theorem add_block (a : Addr) (n : Nat) : (a.add n).block = a.block := by unfold Addr.add; split <;> rfl
theorem add_plain (b o i : Nat) : (⟨b, o, none⟩ : Addr).add i = ⟨b, o + i, none⟩ := by unfold Addr.add; split <;> simp_all
def rowMine (own : Bool) (v : Value) : List Nat := match own with
 | true => match v with | .slice (some a) _ _ => [a.block] | _ => []
 | false => []
def rowSeen {α : Type} (own : Bool) (xs : List α) (v : Value) : List Nat := match own, xs with
 | false, _ :: _ => match v with | .slice (some a) _ _ => [a.block] | _ => []
 | _, _ => []
def unB : Value → List Nat
 | .tuple a => a.toList.map blk
 | _ => []
def ghF : Value → List Nat
 | .tuple a => match a.toList with | [f, _] => unB f | _ => []
 | _ => []
def ghG : Value → List Nat
 | .tuple a => match a.toList with | [_, g] => unB g | _ => []
 | _ => []
def mkB (l : List Nat) : Value := .tuple (l.map fun b => Value.pointer (some ⟨b, 0, none⟩)).toArray
def mkG (F G : List Nat) : Value := .tuple #[mkB F, mkB G]
theorem unB_mk (l : List Nat) : unB (mkB l) = l := by
 simp [unB, mkB, List.map_map, Function.comp_def, blk]
theorem ghF_mk (F G : List Nat) : ghF (mkG F G) = F := unB_mk F
theorem ghG_mk (F G : List Nat) : ghG (mkG F G) = G := unB_mk G
theorem RowSat.congr {w w' : World} {v : Value} {own : Bool} {t : TypeId} {ls : List Lf} {xs : List (LT ls)} (h : RowSat w v own t ls xs) (hm : ∀ b ∈ rowMine own v, w'.heap[b]? = w.heap[b]?) (hs : ∀ b ∈ rowSeen own xs v, w'.heap[b]? = w.heap[b]?) : RowSat w' v own t ls xs := by
 rcases h with h | ⟨a, cap, hv, hc, h1, h2⟩
 ·exact .inl h
 ·refine .inr ⟨a, cap, hv, hc, fun ho => ⟨fun i u hu => ?_, (h1 ho).2⟩, fun ho => ?_⟩
  ·subst ho
   cases xs with
   | nil => simp [flat] at hu
   | cons x xs =>
    rw [cell_of_heap (w := w) (by rw [add_block]; exact hs a.block (by rw [hv]; simp [rowSeen]))]
    exact (h1 rfl).1 i u hu
  ·obtain ⟨e2, e3, cur, fz, e4, e5⟩ := h2 ho
   subst ho
   exact ⟨e2, e3, cur, fz, by rw [hm a.block (by rw [hv]; simp [rowMine])]; exact e4, e5⟩
theorem heap_lt {w : World} {b : Nat} {o : Obj} (h : w.heap[b]? = some o) : b < w.heap.size := (Array.getElem?_eq_some_iff.1 h).1
theorem RowSat.mine_lt {w : World} {v : Value} {own : Bool} {t : TypeId} {ls : List Lf} {xs : List (LT ls)} (h : RowSat w v own t ls xs) : ∀ b ∈ rowMine own v, b < w.heap.size := by
 intro b hb
 rcases h with ⟨rfl, _⟩ | ⟨a, cap, rfl, hc, h1, h2⟩
 ·cases own <;> simp [rowMine] at hb
 ·cases own with
  | false => simp [rowMine] at hb
  | true =>
   simp [rowMine] at hb
   subst hb
   obtain ⟨_, _, cur, fz, e4, _⟩ := h2 rfl
   exact heap_lt e4
theorem RowSat.seen_lt {w : World} {v : Value} {own : Bool} {t : TypeId} {ls : List Lf} {xs : List (LT ls)} (hls : ls ≠ []) (h : RowSat w v own t ls xs) : ∀ b ∈ rowSeen own xs v, b < w.heap.size := by
 intro b hb
 rcases h with ⟨rfl, rfl⟩ | ⟨a, cap, rfl, hc, h1, h2⟩
 ·cases own <;> simp [rowSeen] at hb
 ·cases own with
  | true => simp [rowSeen] at hb
  | false =>
   cases xs with
   | nil => simp [rowSeen] at hb
   | cons x xs =>
    simp [rowSeen] at hb
    subst hb
    have hl : 0 < (flat ls (x :: xs)).length := by
     rw [flat_length]
     exact Nat.mul_pos (by simp) (List.length_pos_iff.2 hls)
    have := (h1 rfl).1 0 _ (List.getElem?_eq_getElem hl)
    simpa [add_block] using block_lt_of_cell this
theorem RowSat.rowVal {w : World} {v : Value} {own : Bool} {t : TypeId} {ls : List Lf} {xs : List (LT ls)} (hls : ls ≠ []) (h : RowSat w v own t ls xs) : RowVal v xs.length := by
 rcases h with ⟨rfl, rfl⟩ | ⟨a, cap, hv, hc, h1, h2⟩
 ·exact .inl ⟨rfl, rfl⟩
 ·refine .inr ⟨a, cap, hv, hc, fun hn => ?_⟩
  cases own with
  | true => exact (h2 rfl).1
  | false => exact (h1 rfl).2 (by intro h; subst h; exact hn rfl) hls
theorem RowVal.hdr {v : Value} {n : Nat} (h : RowVal v n) : hdr v = v := by
 rcases h with ⟨rfl, _⟩ | ⟨a, cap, rfl, _⟩ <;> rfl
def pinD (α : Nat → Value) : Pin → Value
 | .ref k => α k
 | .nil => .pointer none
def Elts {X : Type} (R : X → List Value → List Nat → Prop) (n : Nat) : List X → List Value → List Nat → Prop
 | [], vs, F => vs = [] ∧ F = []
 | x :: xs, vs, F => ∃ v1 v2 F1 F2, vs = v1 ++ v2 ∧ F = F1 ++ F2 ∧ v1.length = n ∧ R x v1 F1 ∧ Elts R n xs v2 F2
def ColIs (w : World) (Av : Nat → Prop) (own : Bool) (t : TypeId) (n len : Nat) (v : Value) (us : List Value) (F : List Nat) : Prop :=
 (v = .slice none 0 0 ∧ len = 0 ∧ us = [] ∧ F = []) ∨ ∃ a cap, v = .slice (some a) len cap ∧ len ≤ cap ∧
  (own = false → F = [] ∧ (∀ i u, us[i]? = some u → w.cell? (a.add i) = some u) ∧ (len ≠ 0 → a.spot = none ∧ Av a.block)) ∧
  (own = true → F = [a.block] ∧ a.spot = none ∧ cap ≤ maxLen ∧ ∃ cur fz, w.heap[a.block]? = some (.cells cur t fz) ∧ a.off + cap * n ≤ cur.size ∧ Thawed cur.size fz ∧ (cur.toList.drop a.off).take (len * n) = us)
mutual
def repS (w : World) (α : Nat → Value) (Av : Nat → Prop) : (s : Sh) → s.T → List Value → List Nat → Prop
 | .leaf l, x, vs, F => vs = [den ν0 (l.enc x)] ∧ F = []
 | .row own t ls, xs, vs, F => ∃ v, vs = [v] ∧ ls ≠ [] ∧ RowSat w v own t ls xs ∧ F = rowMine own v ∧ ∀ b ∈ rowSeen own xs v, Av b
 | .map _ ka va kl vl, es, vs, F => ∃ b, vs = [.map (some b)] ∧ MapSat w b ka va kl vl es ∧ F = [b]
 | .tab own t f, xs, vs, F => ∃ v us F0 F1, vs = [v] ∧ F = F0 ++ F1 ∧ 1 ≤ f.sz ∧ ColIs w Av own t f.sz xs.length v us F0 ∧ Elts (repF w α Av f) f.sz xs us F1
 | .box t f, x, vs, F => ∃ b cs F', vs = [.pointer (some ⟨b, 0, none⟩)] ∧ w.heap[b]? = some (.cells cs.toArray t (0, 0)) ∧ repF w α Av f x cs F' ∧ F = F' ++ [b]
 | .agg f, x, vs, F => repF w α Av f x vs F
def repF (w : World) (α : Nat → Value) (Av : Nat → Prop) : (f : Shs) → f.T → List Value → List Nat → Prop
 | .one s ps, x, vs, F => ∃ us, vs = us ++ ps.map (pinD α) ∧ repS w α Av s x us F
 | .cons s r, x, vs, F => ∃ vs1 vs2 F1 F2, vs = vs1 ++ vs2 ∧ F = F1 ++ F2 ∧ repS w α Av s x.1 vs1 F1 ∧ repF w α Av r x.2 vs2 F2
 | .pin p r, x, vs, F => ∃ us, vs = pinD α p :: us ∧ repF w α Av r x us F
 | .pins ps, _, vs, F => vs = ps.map (pinD α) ∧ F = []
end
theorem Elts.imp {X : Type} {R R' : X → List Value → List Nat → Prop} {n : Nat} : ∀ {xs : List X} {vs : List Value} {F : List Nat}, Elts R n xs vs F → (∀ x v F', (∀ b ∈ F', b ∈ F) → R x v F' → R' x v F') → Elts R' n xs vs F
 | [], _, _, h, _ => h
 | x :: xs, vs, F, h, k => by
  obtain ⟨v1, v2, F1, F2, rfl, rfl, h1, h2, h3⟩ := h
  exact ⟨v1, v2, F1, F2, rfl, rfl, h1, k x v1 F1 (fun b hb => by simp [hb]) h2, h3.imp fun x v F' hF hr => k x v F' (fun b hb => by simp [hF b hb]) hr⟩
theorem Elts.mem {X : Type} {R : X → List Value → List Nat → Prop} {n : Nat} {Q : Nat → Prop} (hR : ∀ x v F, R x v F → ∀ b ∈ F, Q b) : ∀ {xs : List X} {vs : List Value} {F : List Nat}, Elts R n xs vs F → ∀ b ∈ F, Q b
 | [], _, _, h, b, hb => by rw [h.2] at hb; cases hb
 | x :: xs, vs, F, h, b, hb => by
  obtain ⟨v1, v2, F1, F2, rfl, rfl, h1, h2, h3⟩ := h
  rcases List.mem_append.1 hb with hb | hb
  ·exact hR _ _ _ h2 b hb
  ·exact h3.mem hR b hb
theorem Elts.len {X : Type} {R : X → List Value → List Nat → Prop} {n : Nat} : ∀ {xs : List X} {vs : List Value} {F : List Nat}, Elts R n xs vs F → vs.length = xs.length * n
 | [], _, _, h => by rw [h.1]; simp
 | x :: xs, vs, F, h => by
  obtain ⟨v1, v2, F1, F2, rfl, rfl, h1, h2, h3⟩ := h
  rw [List.length_append, h1, h3.len, List.length_cons, Nat.add_mul, Nat.one_mul, Nat.add_comm]
theorem Elts.append {X : Type} {R : X → List Value → List Nat → Prop} {n : Nat} : ∀ {xs ys : List X} {vs us : List Value} {F G : List Nat}, Elts R n xs vs F → Elts R n ys us G → Elts R n (xs ++ ys) (vs ++ us) (F ++ G)
 | [], ys, vs, us, F, G, h, k => by rw [h.1, h.2]; exact k
 | x :: xs, ys, vs, us, F, G, h, k => by
  obtain ⟨v1, v2, F1, F2, rfl, rfl, h1, h2, h3⟩ := h
  exact ⟨v1, v2 ++ us, F1, F2 ++ G, by simp, by simp, h1, h2, h3.append k⟩
theorem Elts.split {X : Type} {R : X → List Value → List Nat → Prop} {n : Nat} : ∀ {xs ys : List X} {vs : List Value} {F : List Nat}, Elts R n (xs ++ ys) vs F → ∃ v1 v2 F1 F2, vs = v1 ++ v2 ∧ F = F1 ++ F2 ∧ Elts R n xs v1 F1 ∧ Elts R n ys v2 F2
 | [], ys, vs, F, h => ⟨[], vs, [], F, rfl, rfl, ⟨rfl, rfl⟩, h⟩
 | x :: xs, ys, vs, F, h => by
  obtain ⟨v1, v2, F1, F2, rfl, rfl, h1, h2, h3⟩ := h
  obtain ⟨u1, u2, G1, G2, rfl, rfl, k1, k2⟩ := h3.split
  exact ⟨v1 ++ u1, u2, F1 ++ G1, G2, by simp, by simp, ⟨v1, u1, F1, G1, rfl, rfl, h1, h2, k1⟩, k2⟩
theorem Elts.at {X : Type} {R : X → List Value → List Nat → Prop} {n : Nat} {xs : List X} {vs : List Value} {F : List Nat} (h : Elts R n xs vs F) {i : Nat} (d : X) (hi : i < xs.length) :
  ∃ va v vb Fa Fi Fb, vs = va ++ (v ++ vb) ∧ F = Fa ++ (Fi ++ Fb) ∧ va.length = i * n ∧ v.length = n ∧ Elts R n (xs.take i) va Fa ∧ R (xs.getD i d) v Fi ∧ Elts R n (xs.drop (i + 1)) vb Fb := by
 rw [getD_split d xs i hi] at h
 obtain ⟨va, v2, Fa, F2, rfl, rfl, h1, h2⟩ := h.split
 obtain ⟨v, vb, Fi, Fb, rfl, rfl, h3, h4, h5⟩ := h2
 refine ⟨va, v, vb, Fa, Fi, Fb, rfl, rfl, ?_, h3, h1, h4, h5⟩
 rw [h1.len, List.length_take, Nat.min_eq_left (by omega)]
theorem Elts.put {X : Type} {R : X → List Value → List Nat → Prop} {n : Nat} {xs : List X} {i : Nat} (hi : i < xs.length) {va v vb : List Value} {Fa Fi Fb : List Nat} {x : X} (h1 : Elts R n (xs.take i) va Fa) (hv : v.length = n) (h2 : R x v Fi) (h3 : Elts R n (xs.drop (i + 1)) vb Fb) :
  Elts R n (xs.set i x) (va ++ (v ++ vb)) (Fa ++ (Fi ++ Fb)) := by
 rw [List.set_eq_take_append_cons_drop, if_pos hi]
 exact h1.append ⟨v, vb, Fi, Fb, rfl, rfl, hv, h2, h3⟩
theorem ColIs.congr {w w' : World} {Av Av' : Nat → Prop} {own : Bool} {t : TypeId} {n len : Nat} {v : Value} {us : List Value} {F : List Nat} (h : ColIs w Av own t n len v us F) (hul : us.length = len * n) (hm : ∀ b ∈ F, w'.heap[b]? = w.heap[b]?) (hs : ∀ b, Av b → w'.heap[b]? = w.heap[b]?) (hA : ∀ b, Av b → Av' b) : ColIs w' Av' own t n len v us F := by
 rcases h with h | ⟨a, cap, hv, hc, h1, h2⟩
 ·exact .inl h
 ·refine .inr ⟨a, cap, hv, hc, fun ho => ?_, fun ho => ?_⟩
  ·obtain ⟨k1, k2, k3⟩ := h1 ho
   refine ⟨k1, fun i u hu => ?_, fun hl => ⟨(k3 hl).1, hA _ (k3 hl).2⟩⟩
   have hl : len ≠ 0 := by
    rintro rfl
    rw [Nat.zero_mul] at hul
    rw [List.length_eq_zero_iff.1 hul] at hu
    simp at hu
   rw [cell_of_heap (w := w) (by rw [add_block]; exact hs a.block (k3 hl).2)]
   exact k2 i u hu
  ·obtain ⟨e1, e2, e3, cur, fz, e4, e5⟩ := h2 ho
   exact ⟨e1, e2, e3, cur, fz, by rw [hm a.block (by rw [e1]; simp)]; exact e4, e5⟩
theorem ColIs.hdr {w : World} {Av : Nat → Prop} {own : Bool} {t : TypeId} {n len : Nat} {v : Value} {us : List Value} {F : List Nat} (h : ColIs w Av own t n len v us F) : hdr v = v := by
 rcases h with ⟨rfl, _⟩ | ⟨a, cap, rfl, _⟩ <;> rfl
theorem ColIs.lt {w : World} {Av : Nat → Prop} {own : Bool} {t : TypeId} {n len : Nat} {v : Value} {us : List Value} {F : List Nat} (h : ColIs w Av own t n len v us F) : ∀ b ∈ F, b < w.heap.size := by
 intro b hb
 rcases h with ⟨_, _, _, rfl⟩ | ⟨a, cap, rfl, hc, h1, h2⟩
 ·cases hb
 ·cases own with
  | false => rw [(h1 rfl).1] at hb; cases hb
  | true =>
   obtain ⟨e1, _, _, cur, fz, e4, _⟩ := h2 rfl
   rw [e1, List.mem_singleton] at hb
   subst hb
   exact heap_lt e4
mutual
theorem repS_congr {w w' : World} {α : Nat → Value} {Av Av' : Nat → Prop} (hs : ∀ b, Av b → w'.heap[b]? = w.heap[b]?) (hA : ∀ b, Av b → Av' b) : ∀ (s : Sh) (x : s.T) (vs : List Value) (F : List Nat), (∀ b ∈ F, w'.heap[b]? = w.heap[b]?) → repS w α Av s x vs F → repS w' α Av' s x vs F
 | .leaf _, _, _, _, _, h => h
 | .row own t ls, xs, vs, F, hF, h => by
  obtain ⟨v, h1, h2, h3, rfl, h5⟩ := h
  exact ⟨v, h1, h2, h3.congr hF (fun b hb => hs b (h5 b hb)), rfl, fun b hb => hA b (h5 b hb)⟩
 | .map t ka va kl vl, es, vs, F, hF, h => by
  obtain ⟨b, h1, ⟨ms, clock, h2, h3⟩, rfl⟩ := h
  exact ⟨b, h1, ⟨ms, clock, by rw [hF b (by simp)]; exact h2, h3⟩, rfl⟩
 | .tab own t f, xs, vs, F, hF, h => by
  obtain ⟨v, us, F0, F1, h1, rfl, h2, h3, h4⟩ := h
  exact ⟨v, us, F0, F1, h1, rfl, h2, h3.congr h4.len (fun b hb => hF b (by simp [hb])) hs hA, h4.imp fun x v F' hF' hr => repF_congr hs hA f x v F' (fun b hb => hF b (by simp [hF' b hb])) hr⟩
 | .box t f, x, vs, F, hF, h => by
  obtain ⟨b, cs, F', h1, h2, h3, rfl⟩ := h
  exact ⟨b, cs, F', h1, by rw [hF b (by simp)]; exact h2, repF_congr hs hA f x cs F' (fun b hb => hF b (by simp [hb])) h3, rfl⟩
 | .agg f, x, vs, F, hF, h => repF_congr hs hA f x vs F hF h
theorem repF_congr {w w' : World} {α : Nat → Value} {Av Av' : Nat → Prop} (hs : ∀ b, Av b → w'.heap[b]? = w.heap[b]?) (hA : ∀ b, Av b → Av' b) : ∀ (f : Shs) (x : f.T) (vs : List Value) (F : List Nat), (∀ b ∈ F, w'.heap[b]? = w.heap[b]?) → repF w α Av f x vs F → repF w' α Av' f x vs F
 | .one s ps, x, vs, F, hF, h => by
  obtain ⟨us, h1, h2⟩ := h
  exact ⟨us, h1, repS_congr hs hA s x us F hF h2⟩
 | .cons s r, x, vs, F, hF, h => by
  obtain ⟨v1, v2, F1, F2, h1, rfl, h2, h3⟩ := h
  exact ⟨v1, v2, F1, F2, h1, rfl, repS_congr hs hA s x.1 v1 F1 (fun b hb => hF b (by simp [hb])) h2, repF_congr hs hA r x.2 v2 F2 (fun b hb => hF b (by simp [hb])) h3⟩
 | .pin p r, x, vs, F, hF, h => by
  obtain ⟨us, h1, h2⟩ := h
  exact ⟨us, h1, repF_congr hs hA r x us F hF h2⟩
 | .pins _, _, _, _, _, h => h
end
mutual
theorem repS_lt {w : World} {α : Nat → Value} {Av : Nat → Prop} : ∀ (s : Sh) (x : s.T) (vs : List Value) (F : List Nat), repS w α Av s x vs F → ∀ b ∈ F, b < w.heap.size
 | .leaf _, _, _, _, h, b, hb => by rw [h.2] at hb; cases hb
 | .row own t ls, xs, vs, F, h, b, hb => by
  obtain ⟨v, h1, h2, h3, rfl, h5⟩ := h
  exact h3.mine_lt b hb
 | .map t ka va kl vl, es, vs, F, h, b, hb => by
  obtain ⟨c, h1, ⟨ms, clock, h2, h3⟩, rfl⟩ := h
  rw [List.mem_singleton] at hb; subst hb
  exact heap_lt h2
 | .tab own t f, xs, vs, F, h, b, hb => by
  obtain ⟨v, us, F0, F1, h1, rfl, h2, h3, h4⟩ := h
  rcases List.mem_append.1 hb with hb | hb
  ·exact h3.lt b hb
  ·exact h4.mem (fun x v F hr b hb => repF_lt f x v F hr b hb) b hb
 | .box t f, x, vs, F, h, b, hb => by
  obtain ⟨c, cs, F', h1, h2, h3, rfl⟩ := h
  rcases List.mem_append.1 hb with hb | hb
  ·exact repF_lt f x cs F' h3 b hb
  ·rw [List.mem_singleton] at hb; subst hb
   exact heap_lt h2
 | .agg f, x, vs, F, h, b, hb => repF_lt f x vs F h b hb
theorem repF_lt {w : World} {α : Nat → Value} {Av : Nat → Prop} : ∀ (f : Shs) (x : f.T) (vs : List Value) (F : List Nat), repF w α Av f x vs F → ∀ b ∈ F, b < w.heap.size
 | .one s ps, x, vs, F, h, b, hb => by
  obtain ⟨us, h1, h2⟩ := h
  exact repS_lt s x us F h2 b hb
 | .cons s r, x, vs, F, h, b, hb => by
  obtain ⟨v1, v2, F1, F2, h1, rfl, h2, h3⟩ := h
  rcases List.mem_append.1 hb with hb | hb
  ·exact repS_lt s x.1 v1 F1 h2 b hb
  ·exact repF_lt r x.2 v2 F2 h3 b hb
 | .pin p r, x, vs, F, h, b, hb => by
  obtain ⟨us, h1, h2⟩ := h
  exact repF_lt r x us F h2 b hb
 | .pins _, _, _, _, h, b, hb => by rw [h.2] at hb; cases hb
end
theorem Elts.list {X : Type} {R : (Nat → Prop) → X → List Value → List Nat → Prop} {Av : Nat → Prop} {n : Nat} (hm : ∀ A B : Nat → Prop, (∀ b, A b → B b) → ∀ x v F, R A x v F → R B x v F) (hR : ∀ x v F, R Av x v F → ∃ G : List Nat, (∀ b ∈ G, Av b) ∧ R (· ∈ G) x v F) :
  ∀ {xs : List X} {vs : List Value} {F : List Nat}, Elts (R Av) n xs vs F → ∃ G : List Nat, (∀ b ∈ G, Av b) ∧ Elts (R (· ∈ G)) n xs vs F
 | [], _, _, h => ⟨[], fun b hb => (by cases hb), h⟩
 | x :: xs, vs, F, h => by
  obtain ⟨v1, v2, F1, F2, rfl, rfl, h1, h2, h3⟩ := h
  obtain ⟨G1, a1, b1⟩ := hR x v1 F1 h2
  obtain ⟨G2, a2, b2⟩ := h3.list hm hR
  refine ⟨G1 ++ G2, fun b hb => (List.mem_append.1 hb).elim (a1 b) (a2 b), v1, v2, F1, F2, rfl, rfl, h1, hm _ _ (fun b hb => by simp [hb]) x v1 F1 b1, b2.imp fun x v F' _ hr => hm _ _ (fun b hb => by simp [hb]) x v F' hr⟩
mutual
theorem repS_list {w : World} {α : Nat → Value} {Av : Nat → Prop} : ∀ (s : Sh) (x : s.T) (vs : List Value) (F : List Nat), repS w α Av s x vs F → ∃ G : List Nat, (∀ b ∈ G, Av b) ∧ repS w α (· ∈ G) s x vs F
 | .leaf _, _, _, _, h => ⟨[], fun b hb => (by cases hb), h⟩
 | .row own t ls, xs, vs, F, h => by
  obtain ⟨v, h1, h2, h3, h4, h5⟩ := h
  exact ⟨rowSeen own xs v, h5, v, h1, h2, h3, h4, fun b hb => hb⟩
 | .map _ _ _ _ _, _, _, _, h => ⟨[], fun b hb => (by cases hb), h⟩
 | .tab own t f, xs, vs, F, h => by
  obtain ⟨v, us, F0, F1, h1, h2, h3, h4, h5⟩ := h
  obtain ⟨G, g1, g2⟩ := h5.list (R := fun A => repF w α A f) (fun A B hAB x v F hr => repF_congr (fun _ _ => rfl) hAB f x v F (fun _ _ => rfl) hr) (fun x v F hr => repF_list f x v F hr)
  rcases h4 with ⟨k1, k2, k3, k4⟩ | ⟨a, cap, k1, k2, k3, k4⟩
  ·exact ⟨G, g1, v, us, F0, F1, h1, h2, h3, .inl ⟨k1, k2, k3, k4⟩, g2⟩
  ·cases own with
   | true => exact ⟨G, g1, v, us, F0, F1, h1, h2, h3, .inr ⟨a, cap, k1, k2, fun h => (by cases h), k4⟩, g2⟩
   | false =>
    obtain ⟨e1, e2, e3⟩ := k3 rfl
    by_cases hl : xs.length = 0
    ·exact ⟨G, g1, v, us, F0, F1, h1, h2, h3, .inr ⟨a, cap, k1, k2, fun _ => ⟨e1, e2, fun h => absurd hl h⟩, fun h => (by cases h)⟩, g2⟩
    ·refine ⟨a.block :: G, fun b hb => ?_, v, us, F0, F1, h1, h2, h3, .inr ⟨a, cap, k1, k2, fun _ => ⟨e1, e2, fun h => ⟨(e3 h).1, by simp⟩⟩, fun h => (by cases h)⟩, g2.imp fun x v F' _ hr => repF_congr (fun _ _ => rfl) (fun b hb => by simp [hb]) f x v F' (fun _ _ => rfl) hr⟩
     rcases List.mem_cons.1 hb with rfl | hb
     ·exact (e3 hl).2
     ·exact g1 b hb
 | .box t f, x, vs, F, h => by
  obtain ⟨b, cs, F', h1, h2, h3, h4⟩ := h
  obtain ⟨G, g1, g2⟩ := repF_list f x cs F' h3
  exact ⟨G, g1, b, cs, F', h1, h2, g2, h4⟩
 | .agg f, x, vs, F, h => repF_list f x vs F h
theorem repF_list {w : World} {α : Nat → Value} {Av : Nat → Prop} : ∀ (f : Shs) (x : f.T) (vs : List Value) (F : List Nat), repF w α Av f x vs F → ∃ G : List Nat, (∀ b ∈ G, Av b) ∧ repF w α (· ∈ G) f x vs F
 | .one s ps, x, vs, F, h => by
  obtain ⟨us, h1, h2⟩ := h
  obtain ⟨G, g1, g2⟩ := repS_list s x us F h2
  exact ⟨G, g1, us, h1, g2⟩
 | .cons s r, x, vs, F, h => by
  obtain ⟨v1, v2, F1, F2, h1, h2, h3, h4⟩ := h
  obtain ⟨G1, a1, b1⟩ := repS_list s x.1 v1 F1 h3
  obtain ⟨G2, a2, b2⟩ := repF_list r x.2 v2 F2 h4
  exact ⟨G1 ++ G2, fun b hb => (List.mem_append.1 hb).elim (a1 b) (a2 b), v1, v2, F1, F2, h1, h2, repS_congr (fun _ _ => rfl) (fun b hb => by simp [hb]) s x.1 v1 F1 (fun _ _ => rfl) b1, repF_congr (fun _ _ => rfl) (fun b hb => by simp [hb]) r x.2 v2 F2 (fun _ _ => rfl) b2⟩
 | .pin p r, x, vs, F, h => by
  obtain ⟨us, h1, h2⟩ := h
  obtain ⟨G, g1, g2⟩ := repF_list r x us F h2
  exact ⟨G, g1, us, h1, g2⟩
 | .pins _, _, _, _, h => ⟨[], fun b hb => (by cases hb), h⟩
end
theorem pinD_congr {α α' : Nat → Value} {n : Nat} (h : ∀ k, k < n → α k = α' k) {p : Pin} (hp : p.lt n = true) : pinD α p = pinD α' p := by
 cases p with
 | ref k => exact h k (Nat.le_of_ble_eq_true hp)
 | nil => rfl
theorem pinsD_congr {α α' : Nat → Value} {n : Nat} (h : ∀ k, k < n → α k = α' k) : ∀ {ps : List Pin}, ps.all (Pin.lt n) = true → ps.map (pinD α) = ps.map (pinD α')
 | [], _ => rfl
 | p :: ps, hp => by
  simp only [List.all_cons, Bool.and_eq_true] at hp
  rw [List.map_cons, List.map_cons, pinD_congr h hp.1, pinsD_congr h hp.2]
mutual
theorem repS_alpha {w : World} {α α' : Nat → Value} {Av : Nat → Prop} {n : Nat} (ha : ∀ k, k < n → α k = α' k) : ∀ (s : Sh) (x : s.T) (vs : List Value) (F : List Nat), s.lt n = true → repS w α Av s x vs F → repS w α' Av s x vs F
 | .leaf _, _, _, _, _, h => h
 | .row _ _ _, _, _, _, _, h => h
 | .map _ _ _ _ _, _, _, _, _, h => h
 | .tab own t f, xs, vs, F, hl, h => by
  obtain ⟨v, us, F0, F1, h1, h2, h3, h4, h5⟩ := h
  exact ⟨v, us, F0, F1, h1, h2, h3, h4, h5.imp fun x v F' _ hr => repF_alpha ha f x v F' hl hr⟩
 | .box t f, x, vs, F, hl, h => by
  obtain ⟨b, cs, F', h1, h2, h3, h4⟩ := h
  exact ⟨b, cs, F', h1, h2, repF_alpha ha f x cs F' hl h3, h4⟩
 | .agg f, x, vs, F, hl, h => repF_alpha ha f x vs F hl h
theorem repF_alpha {w : World} {α α' : Nat → Value} {Av : Nat → Prop} {n : Nat} (ha : ∀ k, k < n → α k = α' k) : ∀ (f : Shs) (x : f.T) (vs : List Value) (F : List Nat), f.lt n = true → repF w α Av f x vs F → repF w α' Av f x vs F
 | .one s ps, x, vs, F, hl, h => by
  obtain ⟨us, h1, h2⟩ := h
  simp only [Shs.lt, Bool.and_eq_true] at hl
  exact ⟨us, by rw [← pinsD_congr ha hl.2]; exact h1, repS_alpha ha s x us F hl.1 h2⟩
 | .cons s r, x, vs, F, hl, h => by
  obtain ⟨v1, v2, F1, F2, h1, h2, h3, h4⟩ := h
  simp only [Shs.lt, Bool.and_eq_true] at hl
  exact ⟨v1, v2, F1, F2, h1, h2, repS_alpha ha s x.1 v1 F1 hl.1 h3, repF_alpha ha r x.2 v2 F2 hl.2 h4⟩
 | .pin p r, x, vs, F, hl, h => by
  obtain ⟨us, h1, h2⟩ := h
  simp only [Shs.lt, Bool.and_eq_true] at hl
  exact ⟨us, by rw [← pinD_congr ha hl.1]; exact h1, repF_alpha ha r x us F hl.2 h2⟩
 | .pins ps, x, vs, F, hl, h => ⟨by rw [← pinsD_congr ha hl]; exact h.1, h.2⟩
end
mutual
theorem repS_len {w : World} {α : Nat → Value} {Av : Nat → Prop} : ∀ (s : Sh) (x : s.T) (vs : List Value) (F : List Nat), repS w α Av s x vs F → vs.length = s.sz
 | .leaf _, _, _, _, h => by rw [h.1]; rfl
 | .row _ _ _, _, _, _, h => by obtain ⟨v, h1, _⟩ := h; rw [h1]; rfl
 | .map _ _ _ _ _, _, _, _, h => by obtain ⟨v, h1, _⟩ := h; rw [h1]; rfl
 | .tab _ _ _, _, _, _, h => by obtain ⟨v, us, F0, F1, h1, _⟩ := h; rw [h1]; rfl
 | .box _ _, _, _, _, h => by obtain ⟨b, cs, F', h1, _⟩ := h; rw [h1]; rfl
 | .agg f, x, vs, F, h => repF_len f x vs F h
theorem repF_len {w : World} {α : Nat → Value} {Av : Nat → Prop} : ∀ (f : Shs) (x : f.T) (vs : List Value) (F : List Nat), repF w α Av f x vs F → vs.length = f.sz
 | .one s ps, x, vs, F, h => by
  obtain ⟨us, h1, h2⟩ := h
  rw [h1, List.length_append, repS_len s x us F h2, List.length_map]; rfl
 | .cons s r, x, vs, F, h => by
  obtain ⟨v1, v2, F1, F2, h1, h2, h3, h4⟩ := h
  rw [h1, List.length_append, repS_len s x.1 v1 F1 h3, repF_len r x.2 v2 F2 h4]; rfl
 | .pin p r, x, vs, F, h => by
  obtain ⟨us, h1, h2⟩ := h
  rw [h1, List.length_cons, repF_len r x us F h2]; rfl
 | .pins ps, _, _, _, h => by rw [h.1, List.length_map]; rfl
end
def αOf (ν : Nat → Value) (γ : List Nat) : Nat → Value := fun k => den ν (.ptr (nth γ k) 0)
theorem αOf_congr {ν ν' : Nat → Value} {n : Nat} (h : ∀ j, j < n → ν j = ν' j) {γ : List Nat} (hγ : ltNs n γ = true) : ∀ k, k < γ.length → αOf ν γ k = αOf ν' γ k := by
 intro k hk
 have := ltNs_nth hγ k hk
 simp only [αOf, den, h _ this]
def mineL (ν : Nat → Value) (j : Nat) : HO → List Nat
 | .cells _ _ => [blk (ν j)]
 | .row own _ _ _ => rowMine own (ν j)
 | .map _ _ _ _ _ _ => [blk (ν j)]
 | .tab _ _ _ p _ _ => ghF (ν p)
 | .opn _ _ p _ _ _ _ => ghF (ν p)
 | .ghost => []
def seenL (ν : Nat → Value) (j : Nat) : HO → List Nat
 | .row own _ _ xs => rowSeen own xs (ν j)
 | .tab _ _ _ p _ _ => ghG (ν p)
 | .opn _ _ p _ _ _ _ => ghG (ν p)
 | _ => []
def hoSat (ν : Nat → Value) (w : World) (j : Nat) : HO → Prop
 | .cells T vs => ∃ b, ν j = .pointer (some ⟨b, 0, none⟩) ∧ w.heap[b]? = some (.cells (denL ν vs).toArray T (0, 0))
 | .row own t ls xs => ls ≠ [] ∧ RowSat w (ν j) own t ls xs
 | .map _ ka va kl vl es => ∃ b, ν j = .map (some b) ∧ MapSat w b ka va kl vl es
 | .tab own t γ p f xs => f.lt γ.length = true ∧ (∀ b ∈ ghG (ν p), b < w.heap.size) ∧ repS w (αOf ν γ) (· ∈ ghG (ν p)) (.tab own t f) xs [ν j] (ghF (ν p))
 | .opn t γ p f xs i vs => f.lt γ.length = true ∧ (∀ b ∈ ghG (ν p), b < w.heap.size) ∧ 0 ≤ i ∧ i < (xs.length : Int) ∧ vs.length = f.sz ∧ vs.all isLeaf = true ∧ 1 ≤ f.sz ∧
   ∃ ua ub F0 Fa Fb, ghF (ν p) = F0 ++ (Fa ++ Fb) ∧ ColIs w (· ∈ ghG (ν p)) true t f.sz xs.length (ν j) (ua ++ (denL ν vs ++ ub)) F0 ∧
    Elts (repF w (αOf ν γ) (· ∈ ghG (ν p)) f) f.sz (xs.take i.toNat) ua Fa ∧ Elts (repF w (αOf ν γ) (· ∈ ghG (ν p)) f) f.sz (xs.drop (i.toNat + 1)) ub Fb
 | .ghost => True
theorem mineL_congr {ν ν' : Nat → Value} {n : Nat} (h : ∀ j, j < n → ν j = ν' j) {j : Nat} (hj : j < n) {o : HO} (ho : hoLt n o = true) : mineL ν j o = mineL ν' j o := by
 cases o <;> simp only [mineL, h j hj]
 all_goals
  simp only [hoLt, Bool.and_eq_true] at ho
  rw [h _ (Nat.le_of_ble_eq_true ho.1)]
theorem seenL_congr {ν ν' : Nat → Value} {n : Nat} (h : ∀ j, j < n → ν j = ν' j) {j : Nat} (hj : j < n) {o : HO} (ho : hoLt n o = true) : seenL ν j o = seenL ν' j o := by
 cases o <;> simp only [seenL, h j hj]
 all_goals
  simp only [hoLt, Bool.and_eq_true] at ho
  rw [h _ (Nat.le_of_ble_eq_true ho.1)]
theorem heap_same_lt {w w' : World} {b : Nat} (hb : b < w.heap.size) (h : w'.heap[b]? = w.heap[b]?) : b < w'.heap.size := by
 rw [Array.getElem?_eq_getElem hb] at h
 exact heap_lt h
theorem hoSat_congr {ν ν' : Nat → Value} {n : Nat} {w w' : World} {j : Nat} (h : ∀ j, j < n → ν j = ν' j) (hj : j < n) {o : HO} (hw : ∀ b, b ∈ mineL ν j o ∨ b ∈ seenL ν j o → w'.heap[b]? = w.heap[b]?) (ho : hoLt n o = true) (hs : hoSat ν w j o) : hoSat ν' w' j o := by
 cases o with
 | cells T vs =>
  obtain ⟨b, hb, hc⟩ := hs
  refine ⟨b, by rw [← h j hj, hb], ?_⟩
  simp only [hoLt] at ho
  rw [← denL_congr h vs ho, ← hc]
  exact hw b (.inl (by simp [mineL, hb, blk]))
 | row own t ls xs => exact ⟨hs.1, by rw [← h j hj]; exact hs.2.congr (fun b hb => hw b (.inl hb)) (fun b hb => hw b (.inr hb))⟩
 | map t ka va kl vl es =>
  obtain ⟨b, hb, ms, clock, h1, h2⟩ := hs
  exact ⟨b, by rw [← h j hj, hb], ms, clock, by rw [hw b (.inl (by simp [mineL, hb, blk]))]; exact h1, h2⟩
 | tab own t γ p f xs =>
  obtain ⟨h1, h2, h3⟩ := hs
  simp only [hoLt, Bool.and_eq_true] at ho
  have hp := h p (Nat.le_of_ble_eq_true ho.1)
  refine ⟨h1, fun b hb => ?_, ?_⟩
  ·rw [← hp] at hb
   exact heap_same_lt (h2 b hb) (hw b (.inr hb))
  ·rw [← hp, ← h j hj]
   exact repS_alpha (αOf_congr h ho.2) (.tab own t f) xs _ _ h1 (repS_congr (fun b hb => hw b (.inr hb)) (fun _ h => h) (.tab own t f) xs _ _ (fun b hb => hw b (.inl hb)) h3)
 | opn t γ p f xs i vs =>
  obtain ⟨h1, h2, h3, h4, h5, h5l, h6, ua, ub, F0, Fa, Fb, k1, k2, k3, k4⟩ := hs
  simp only [hoLt, Bool.and_eq_true] at ho
  have hp := h p (Nat.le_of_ble_eq_true ho.1)
  have hmine : ∀ b, b ∈ F0 ++ (Fa ++ Fb) → w'.heap[b]? = w.heap[b]? := fun b hb => hw b (.inl (by show b ∈ ghF (ν p); rw [k1]; exact hb))
  have hl : (ua ++ (denL ν vs ++ ub)).length = xs.length * f.sz := by
   have e : (xs.length - (i.toNat + 1)) * f.sz + (i.toNat + 1) * f.sz = xs.length * f.sz := by rw [← Nat.add_mul]; congr 1; omega
   rw [List.length_append, List.length_append, k3.len, k4.len, List.length_take, List.length_drop, Nat.min_eq_left (by omega), denL_eq, List.length_map, h5]
   rw [Nat.add_mul] at e; omega
  have conv : ∀ x v F, (∀ b ∈ F, b ∈ F0 ++ (Fa ++ Fb)) → repF w (αOf ν γ) (· ∈ ghG (ν p)) f x v F → repF w' (αOf ν' γ) (· ∈ ghG (ν p)) f x v F := fun x v F hF hr =>
   repF_alpha (αOf_congr h ho.2.1) f x v F h1 (repF_congr (fun b hb => hw b (.inr hb)) (fun _ h => h) f x v F (fun b hb => hmine b (hF b hb)) hr)
  refine ⟨h1, fun b hb => ?_, h3, h4, h5, h5l, h6, ua, ub, F0, Fa, Fb, by rw [← hp]; exact k1, ?_, ?_, ?_⟩
  ·rw [← hp] at hb
   exact heap_same_lt (h2 b hb) (hw b (.inr hb))
  ·rw [← hp, ← h j hj, ← denL_congr h vs ho.2.2]
   exact k2.congr hl (fun b hb => hmine b (by simp [hb])) (fun b hb => hw b (.inr hb)) (fun _ h => h)
  ·rw [← hp]
   exact k3.imp fun x v F hF hr => conv x v F (fun b hb => by simp [hF b hb]) hr
  ·rw [← hp]
   exact k4.imp fun x v F hF hr => conv x v F (fun b hb => by simp [hF b hb]) hr
 | ghost => trivial
theorem hoSat_lt {ν : Nat → Value} {w : World} {j : Nat} {o : HO} (hs : hoSat ν w j o) : ∀ b, b ∈ mineL ν j o ∨ b ∈ seenL ν j o → b < w.heap.size := by
 intro b hb
 cases o with
 | cells T vs =>
  obtain ⟨b', hb', hc⟩ := hs
  simp [mineL, seenL, hb', blk] at hb
  subst hb
  exact heap_lt hc
 | row own t ls xs =>
  rcases hb with hb | hb
  ·exact hs.2.mine_lt b hb
  ·exact hs.2.seen_lt hs.1 b hb
 | map t ka va kl vl es =>
  obtain ⟨b', hb', ms, clock, hc, _⟩ := hs
  simp [mineL, seenL, hb', blk] at hb
  subst hb
  exact heap_lt hc
 | tab own t γ p f xs =>
  rcases hb with hb | hb
  ·exact repS_lt (.tab own t f) xs _ _ hs.2.2 b hb
  ·exact hs.2.1 b hb
 | opn t γ p f xs i vs =>
  obtain ⟨h1, h2, h3, h4, h5, h5l, h6, ua, ub, F0, Fa, Fb, k1, k2, k3, k4⟩ := hs
  rcases hb with hb | hb
  ·have hb : b ∈ ghF (ν p) := hb
   rw [k1] at hb
   rcases List.mem_append.1 hb with hb | hb
   ·exact k2.lt b hb
   ·rcases List.mem_append.1 hb with hb | hb
    ·exact k3.mem (fun x v F hr b hb => repF_lt f x v F hr b hb) b hb
    ·exact k4.mem (fun x v F hr b hb => repF_lt f x v F hr b hb) b hb
  ·exact h2 b hb
 | ghost => simp [mineL, seenL] at hb
structure Bl where
 own : Nat → Prop
 frz : Nat → Prop
instance : CoeFun Bl (fun _ => Nat → Prop) := ⟨Bl.own⟩
structure RelW (S : Bl) (w0 : World) (ν : Nat → Value) (st : St) (w : World) : Prop where
 sat : ∀ j o, lkp j st.H = some o → hoSat ν w j o
 lt : ∀ j o, lkp j st.H = some o → j < st.nx ∧ hoLt st.nx o = true
 inj : ∀ i j oi oj b, lkp i st.H = some oi → lkp j st.H = some oj → b ∈ mineL ν i oi → b ∈ mineL ν j oj → i = j
 nd : ∀ j o, lkp j st.H = some o → (mineL ν j o).Nodup
 mine : ∀ j o b, lkp j st.H = some o → b ∈ mineL ν j o → S b ∨ w0.heap.size ≤ b
 seen : ∀ j o b, lkp j st.H = some o → b ∈ seenL ν j o → w0.heap.size ≤ b ∨ S b ∨ S.frz b
 apart : ∀ i j oi oj b, lkp i st.H = some oi → lkp j st.H = some oj → b ∈ mineL ν i oi → b ∈ seenL ν j oj → False
 os : w.os = w0.os
 tape : w.tape = w0.tape
 output : w.output = w0.output
 size : w0.heap.size ≤ w.heap.size
 frame : ∀ b, b < w0.heap.size → ¬ S b → w.heap[b]? = w0.heap[b]?
structure Step (ν : Nat → Value) (st : St) (w : World) (ν' : Nat → Value) (st' : St) (w' : World) : Prop where
 nx : st.nx ≤ st'.nx
 agree : ∀ j, j < st.nx → ν j = ν' j
 dirt : st.dirty = true → st'.dirty = true
 size : w.heap.size ≤ w'.heap.size
 same : st'.dirty = false → ∀ b, b < w.heap.size → w'.heap[b]? = w.heap[b]?
theorem Step.refl (ν : Nat → Value) (st : St) (w : World) : Step ν st w ν st w := ⟨Nat.le_refl _, fun _ _ => rfl, id, Nat.le_refl _, fun _ _ _ => rfl⟩
theorem Step.trans {ν : Nat → Value} {st : St} {w : World} {ν' : Nat → Value} {st' : St} {w' : World} {ν'' : Nat → Value} {st'' : St} {w'' : World}
  (h : Step ν st w ν' st' w') (k : Step ν' st' w' ν'' st'' w'') : Step ν st w ν'' st'' w'' where
 nx := Nat.le_trans h.nx k.nx
 agree j hj := (h.agree j hj).trans (k.agree j (Nat.lt_of_lt_of_le hj h.nx))
 dirt h' := k.dirt (h.dirt h')
 size := Nat.le_trans h.size k.size
 same e b hb := by
  refine (k.same e b (Nat.lt_of_lt_of_le hb h.size)).trans (h.same ?_ b hb)
  cases hd : st'.dirty with
  | false => rfl
  | true => rw [k.dirt hd] at e; cases e
structure Ext (w w' : World) : Prop where
 os : w'.os = w.os
 tape : w'.tape = w.tape
 output : w'.output = w.output
 size : w.heap.size ≤ w'.heap.size
theorem lkp_cons {α : Type _} (t s : Nat) (v : α) (r : List (Nat × α)) : lkp t ((s, v) :: r) = if s = t then some v else lkp t r := by
 simp only [lkp]
 by_cases h : s = t
 ·simp [h]
 ·rw [if_neg h, show Nat.beq s t = false from Bool.eq_false_iff.2 fun e => h (Nat.eq_of_beq_eq_true e)]; rfl
theorem lkp_del {α : Type _} (t s : Nat) (r : List (Nat × α)) : lkp t (del s r) = if s = t then none else lkp t r := by
 induction r with
 | nil => simp [del, lkp]
 | cons x xs ih =>
  obtain ⟨i, v⟩ := x
  simp only [del]
  by_cases hi : i = s
  ·subst hi
   rw [Nat.beq_refl, cond_true, ih, lkp_cons]
   split <;> rfl
  ·rw [show Nat.beq i s = false from Bool.eq_false_iff.2 fun e => hi (Nat.eq_of_beq_eq_true e), cond_false, lkp_cons, lkp_cons, ih]
   by_cases h1 : i = t
   ·subst h1; rw [if_pos rfl, if_pos rfl, if_neg (fun e => hi e.symm)]
   ·rw [if_neg h1, if_neg h1]
theorem lkp_del_some {α : Type _} {t s : Nat} {r : List (Nat × α)} {v : α} (h : lkp t (del s r) = some v) : s ≠ t ∧ lkp t r = some v := by
 rw [lkp_del] at h
 split at h
 ·cases h
 ·rename_i e; exact ⟨e, h⟩
def upd (ν : Nat → Value) (n : Nat) (v : Value) : Nat → Value := fun j => if j = n then v else ν j
theorem upd_old {ν : Nat → Value} {n j : Nat} {v : Value} (h : j < n) : ν j = upd ν n v j := by simp [upd, Nat.ne_of_lt h]
theorem upd_new {ν : Nat → Value} {n : Nat} {v : Value} : upd ν n v n = v := by simp [upd]
theorem heap_alloc_lt (w : World) (o : Obj) (k : Nat) (h : k < w.heap.size) : (w.alloc o).heap[k]? = w.heap[k]? := Below.heap_alloc w o k h
section
variable {S : Bl} {w0 : World} {ν : Nat → Value} {st : St} {w : World}
theorem RelW.less (h : RelW S w0 ν st w) {ν' : Nat → Value} {n : Nat} {H : Heap} (hν : ∀ j, j < st.nx → ν j = ν' j) (hn : st.nx ≤ n) (hs : ∀ j o, lkp j H = some o → lkp j st.H = some o) (d : Bool) : RelW S w0 ν' ⟨n, d, H⟩ w where
 sat j o hj := hoSat_congr hν (h.lt j o (hs j o hj)).1 (fun _ _ => rfl) (h.lt j o (hs j o hj)).2 (h.sat j o (hs j o hj))
 lt j o hj := ⟨Nat.lt_of_lt_of_le (h.lt j o (hs j o hj)).1 hn, hoLt_mono hn o (h.lt j o (hs j o hj)).2⟩
 inj i j oi oj b hi hj hbi hbj := by
  rw [← mineL_congr hν (h.lt i oi (hs i oi hi)).1 (h.lt i oi (hs i oi hi)).2] at hbi
  rw [← mineL_congr hν (h.lt j oj (hs j oj hj)).1 (h.lt j oj (hs j oj hj)).2] at hbj
  exact h.inj i j oi oj b (hs _ _ hi) (hs _ _ hj) hbi hbj
 nd j o hj := by
  rw [← mineL_congr hν (h.lt j o (hs j o hj)).1 (h.lt j o (hs j o hj)).2]
  exact h.nd j o (hs j o hj)
 mine j o b hj hb := by
  rw [← mineL_congr hν (h.lt j o (hs j o hj)).1 (h.lt j o (hs j o hj)).2] at hb
  exact h.mine j o b (hs _ _ hj) hb
 seen j o b hj hb := by
  rw [← seenL_congr hν (h.lt j o (hs j o hj)).1 (h.lt j o (hs j o hj)).2] at hb
  exact h.seen j o b (hs _ _ hj) hb
 apart i j oi oj b hi hj hbi hbj := by
  rw [← mineL_congr hν (h.lt i oi (hs i oi hi)).1 (h.lt i oi (hs i oi hi)).2] at hbi
  rw [← seenL_congr hν (h.lt j oj (hs j oj hj)).1 (h.lt j oj (hs j oj hj)).2] at hbj
  exact h.apart i j oi oj b (hs _ _ hi) (hs _ _ hj) hbi hbj
 os := h.os
 tape := h.tape
 output := h.output
 size := h.size
 frame := h.frame
theorem RelW.part (h : RelW S w0 ν st w) {H : Heap} (hs : ∀ j o, lkp j H = some o → lkp j st.H = some o) (d : Bool) : RelW S w0 ν ⟨st.nx, d, H⟩ w := h.less (fun _ _ => rfl) (Nat.le_refl _) hs d
theorem RelW.world (h : RelW S w0 ν st w) {w' : World} (he : Ext w w') (hw : ∀ j o b, lkp j st.H = some o → b ∈ mineL ν j o ∨ b ∈ seenL ν j o → w'.heap[b]? = w.heap[b]?)
  (hfr : ∀ b, b < w0.heap.size → ¬ S b → w'.heap[b]? = w.heap[b]?) : RelW S w0 ν st w' where
 sat j o hj := hoSat_congr (fun _ _ => rfl) (h.lt j o hj).1 (fun b hb => hw j o b hj hb) (h.lt j o hj).2 (h.sat j o hj)
 lt := h.lt
 inj := h.inj
 nd := h.nd
 mine := h.mine
 seen := h.seen
 apart := h.apart
 os := he.os.trans h.os
 tape := he.tape.trans h.tape
 output := he.output.trans h.output
 size := Nat.le_trans h.size he.size
 frame b hlt hS := (hfr b hlt hS).trans (h.frame b hlt hS)
theorem RelW.below (h : RelW S w0 ν st w) {w' : World} (hb : Below w.heap.size w w') : RelW S w0 ν st w' :=
 h.world ⟨hb.os, hb.tape, hb.output, hb.size⟩ (fun j o b hj hon => hb.block b (hoSat_lt (h.sat j o hj) b hon)) (fun b hlt _ => hb.block b (Nat.lt_of_lt_of_le hlt h.size))
theorem RelW.setG (h : RelW S w0 ν st w) {j : Nat} {o : HO} (hj : j < st.nx) (ho : hoLt st.nx o = true) (hs : hoSat ν w j o) (hnd : (mineL ν j o).Nodup)
  (hm : ∀ b ∈ mineL ν j o, S b ∨ w0.heap.size ≤ b) (hsn : ∀ b ∈ seenL ν j o, w0.heap.size ≤ b ∨ S b ∨ S.frz b)
  (h1 : ∀ b ∈ mineL ν j o, ∀ i q, i ≠ j → lkp i st.H = some q → b ∉ mineL ν i q ∧ b ∉ seenL ν i q) (h2 : ∀ b ∈ seenL ν j o, ∀ i q, i ≠ j → lkp i st.H = some q → b ∉ mineL ν i q)
  (h3 : ∀ b ∈ mineL ν j o, b ∉ seenL ν j o) (d : Bool) : RelW S w0 ν ⟨st.nx, d, (j, o) :: st.H⟩ w := by
 have hlk : ∀ i q, lkp i ((j, o) :: st.H) = some q → (i = j ∧ q = o) ∨ (i ≠ j ∧ lkp i st.H = some q) := by
  intro i q hq
  rw [lkp_cons] at hq
  split at hq
  ·rename_i e; subst e; cases hq; exact .inl ⟨rfl, rfl⟩
  ·rename_i e; exact .inr ⟨fun e' => e e'.symm, hq⟩
 refine ⟨?_, ?_, ?_, ?_, ?_, ?_, ?_, h.os, h.tape, h.output, h.size, h.frame⟩
 ·intro i q hq
  rcases hlk i q hq with ⟨rfl, rfl⟩ | ⟨_, h'⟩
  ·exact hs
  ·exact h.sat i q h'
 ·intro i q hq
  rcases hlk i q hq with ⟨rfl, rfl⟩ | ⟨_, h'⟩
  ·exact ⟨hj, ho⟩
  ·exact h.lt i q h'
 ·intro i k oi ok b hi hk hbi hbk
  rcases hlk i oi hi with ⟨rfl, rfl⟩ | ⟨e, h'⟩ <;> rcases hlk k ok hk with ⟨rfl, rfl⟩ | ⟨e', h''⟩
  ·rfl
  ·exact ((h1 b hbi k ok e' h'').1 hbk).elim
  ·exact ((h1 b hbk i oi e h').1 hbi).elim
  ·exact h.inj i k oi ok b h' h'' hbi hbk
 ·intro i q hq
  rcases hlk i q hq with ⟨rfl, rfl⟩ | ⟨_, h'⟩
  ·exact hnd
  ·exact h.nd i q h'
 ·intro i q b hq hb
  rcases hlk i q hq with ⟨rfl, rfl⟩ | ⟨_, h'⟩
  ·exact hm b hb
  ·exact h.mine i q b h' hb
 ·intro i q b hq hb
  rcases hlk i q hq with ⟨rfl, rfl⟩ | ⟨_, h'⟩
  ·exact hsn b hb
  ·exact h.seen i q b h' hb
 ·intro i k oi ok b hi hk hbi hbk
  rcases hlk i oi hi with ⟨rfl, rfl⟩ | ⟨e, h'⟩ <;> rcases hlk k ok hk with ⟨rfl, rfl⟩ | ⟨e', h''⟩
  ·exact h3 b hbi hbk
  ·exact (h1 b hbi k ok e' h'').2 hbk
  ·exact h2 b hbk i oi e h' hbi
  ·exact h.apart i k oi ok b h' h'' hbi hbk
theorem RelW.new {w' : World} (h : RelW S w0 ν st w) (he : Ext w w') (v : Value) (o : HO) (H' : Heap) (d : Bool)
  (hH : ∀ j o', lkp j H' = some o' → lkp j st.H = some o')
  (hsame : ∀ j o' b, lkp j H' = some o' → b ∈ mineL ν j o' ∨ b ∈ seenL ν j o' → w'.heap[b]? = w.heap[b]?)
  (hfr : ∀ b, b < w0.heap.size → ¬ S b → w'.heap[b]? = w.heap[b]?)
  (ho : hoLt (Nat.succ st.nx) o = true) (hs : hoSat (upd ν st.nx v) w' st.nx o) (hnd : (mineL (upd ν st.nx v) st.nx o).Nodup)
  (hinj : ∀ j o' b, lkp j H' = some o' → b ∈ mineL (upd ν st.nx v) st.nx o → b ∉ mineL ν j o' ∧ b ∉ seenL ν j o')
  (hmine : ∀ b, b ∈ mineL (upd ν st.nx v) st.nx o → S b ∨ w0.heap.size ≤ b)
  (hseen : ∀ b, b ∈ seenL (upd ν st.nx v) st.nx o → (w0.heap.size ≤ b ∨ S b ∨ S.frz b) ∧ (∀ j o', lkp j H' = some o' → b ∉ mineL ν j o') ∧ b ∉ mineL (upd ν st.nx v) st.nx o) :
  RelW S w0 (upd ν st.nx v) ⟨Nat.succ st.nx, d, (st.nx, o) :: H'⟩ w' := by
 have hold : ∀ j, j < st.nx → ν j = upd ν st.nx v j := fun j hj => upd_old hj
 have hp := ((h.part hH st.dirty).world he hsame hfr).less hold (Nat.le_succ _) (fun _ _ h => h) d
 have cm : ∀ i q, lkp i H' = some q → mineL ν i q = mineL (upd ν st.nx v) i q := fun i q hq => mineL_congr hold (h.lt i q (hH i q hq)).1 (h.lt i q (hH i q hq)).2
 have cs : ∀ i q, lkp i H' = some q → seenL ν i q = seenL (upd ν st.nx v) i q := fun i q hq => seenL_congr hold (h.lt i q (hH i q hq)).1 (h.lt i q (hH i q hq)).2
 refine hp.setG (j := st.nx) (Nat.lt_succ_self _) ho hs hnd hmine (fun b hb => (hseen b hb).1) ?_ ?_ (fun b hb hb' => (hseen b hb').2.2 hb) d
 ·intro b hb i q _ hq
  rw [← cm i q hq, ← cs i q hq]
  exact hinj i q b hq hb
 ·intro b hb i q _ hq
  rw [← cm i q hq]
  exact (hseen b hb).2.1 i q hq
theorem RelW.fresh (h : RelW S w0 ν st w) (ob : Obj) (v : Value) (o : HO)
  (ho : hoLt (Nat.succ st.nx) o = true) (hs : hoSat (upd ν st.nx v) (w.alloc ob) st.nx o) (hm : ∀ b, b ∈ mineL (upd ν st.nx v) st.nx o → b = w.heap.size) (hnd : (mineL (upd ν st.nx v) st.nx o).Nodup) (hn : seenL (upd ν st.nx v) st.nx o = []) :
  RelW S w0 (upd ν st.nx v) (st.add o) (w.alloc ob) := by
 refine h.new (w' := w.alloc ob) ⟨rfl, rfl, rfl, by simp⟩ v o st.H st.dirty (fun j o' hj => hj) (fun j o' b hj hb => heap_alloc_lt w ob b (hoSat_lt (h.sat j o' hj) b hb)) (fun b hb _ => heap_alloc_lt w ob b (Nat.lt_of_lt_of_le hb h.size)) ho hs hnd ?_ ?_ (fun b hb => by rw [hn] at hb; cases hb)
 ·intro j o' b hj hb
  have := hm b hb
  exact ⟨fun hb' => by have := hoSat_lt (h.sat j o' hj) b (.inl hb'); omega, fun hb' => by have := hoSat_lt (h.sat j o' hj) b (.inr hb'); omega⟩
 ·intro b hb
  rw [hm b hb]
  exact .inr h.size
theorem RelW.add (h : RelW S w0 ν st w) (T : TypeId) (vs : List SV) (hv : belowL st.nx vs = true) :
  RelW S w0 (upd ν st.nx (.pointer (some ⟨w.heap.size, 0, none⟩))) (st.add (.cells T vs)) (w.alloc (.cells (denL ν vs).toArray T)) := by
 have hold : ∀ j, j < st.nx → ν j = upd ν st.nx (.pointer (some ⟨w.heap.size, 0, none⟩)) j := fun j hj => upd_old hj
 refine h.fresh _ _ _ (by simp only [hoLt]; exact belowL_mono (Nat.le_succ _) vs hv) ⟨w.heap.size, upd_new, ?_⟩ (fun b hb => by simpa [mineL, upd_new, blk] using hb) (by simp [mineL]) rfl
 rw [← denL_congr hold vs hv]
 show (w.heap.push _)[_]? = _
 simp
theorem RelW.wash (h : RelW S w0 ν st w) (d : Bool) : RelW S w0 ν (st.wash d) w :=
 ⟨h.sat, h.lt, h.inj, h.nd, h.mine, h.seen, h.apart, h.os, h.tape, h.output, h.size, h.frame⟩
theorem Step.wash {ν' : Nat → Value} {st' : St} {w' : World} (h : Step ν st w ν' st' w') (d : Bool) : Step ν (st.wash (d || st.dirty)) w ν' (st'.wash (d || st'.dirty)) w' := by
 refine ⟨h.nx, h.agree, fun e => ?_, h.size, fun e => ?_⟩
 ·simp only [St.wash, Bool.or_eq_true] at e ⊢
  exact e.imp id h.dirt
 ·simp only [St.wash, Bool.or_eq_false_iff] at e
  exact h.same e.2
theorem Step.add (ν : Nat → Value) (st : St) (w : World) (v : Value) (o : HO) (b : Obj) : Step ν st w (upd ν st.nx v) (st.add o) (w.alloc b) :=
 ⟨Nat.le_succ _, fun j hj => upd_old hj, id, by simp, fun _ j hj => heap_alloc_lt w b j hj⟩
theorem Step.dirty {ν' : Nat → Value} {st' : St} {w' : World} (h1 : st.nx ≤ st'.nx) (h2 : ∀ j, j < st.nx → ν j = ν' j) (h3 : w.heap.size ≤ w'.heap.size) (h4 : st'.dirty = true) : Step ν st w ν' st' w' :=
 ⟨h1, h2, fun _ => h4, h3, fun h => by rw [h4] at h; cases h⟩
theorem Step.below (ν : Nat → Value) (st : St) {w w' : World} (hb : Below w.heap.size w w') : Step ν st w ν st w' :=
 ⟨Nat.le_refl _, fun _ _ => rfl, id, hb.size, fun _ b h => hb.block b h⟩
theorem RelW.turn {w' : World} (h : RelW S w0 ν st w) {j : Nat} {o o' : HO} (hj : lkp j st.H = some o) (he : Ext w w')
  (hm : mineL ν j o' = mineL ν j o) (hn : ∀ b ∈ seenL ν j o', b ∈ seenL ν j o) (hw : ∀ b, b ∉ mineL ν j o → w'.heap[b]? = w.heap[b]?) (ho : hoLt st.nx o' = true) (hs : hoSat ν w' j o') : RelW S w0 ν (st.put j o') w' := by
 have hp : RelW S w0 ν ⟨st.nx, true, del j st.H⟩ w := h.part (fun i q hq => (lkp_del_some hq).2) true
 have hp' : RelW S w0 ν ⟨st.nx, true, del j st.H⟩ w' := by
  refine hp.world he (fun i q b hq hb => hw b fun hb' => ?_) (fun b hlt hS => hw b fun hb' => ?_)
  ·obtain ⟨e, hq⟩ := lkp_del_some hq
   rcases hb with hb | hb
   ·exact e (h.inj j i o q b hj hq hb' hb)
   ·exact h.apart j i o q b hj hq hb' hb
  ·rcases h.mine j o b hj hb' with h2 | h2
   ·exact hS h2
   ·omega
 have key := hp'.setG (j := j) (o := o') (h.lt j o hj).1 ho hs (by rw [hm]; exact h.nd j o hj) (fun b hb => by rw [hm] at hb; exact h.mine j o b hj hb) (fun b hb => h.seen j o b hj (hn b hb))
  (fun b hb i q e hq => by
   rw [hm] at hb
   obtain ⟨_, hq⟩ := lkp_del_some hq
   exact ⟨fun hb' => e (h.inj j i o q b hj hq hb hb').symm, fun hb' => h.apart j i o q b hj hq hb hb'⟩)
  (fun b hb i q e hq hb' => by
   obtain ⟨_, hq⟩ := lkp_del_some hq
   exact h.apart i j q o b hq hj hb' (hn b hb))
  (fun b hb hb' => by
   rw [hm] at hb
   exact h.apart j j o o b hj hj hb (hn b hb')) true
 refine key.part (fun i q hq => ?_) true
 rw [lkp_cons] at hq
 rw [lkp_cons]
 split
 ·rename_i e; rw [if_pos e] at hq; exact hq
 ·rename_i e; rw [if_neg e] at hq; rw [lkp_del, if_neg e]; exact hq
theorem RelW.put (h : RelW S w0 ν st w) {j b : Nat} {T : TypeId} {vs vs' : List SV} (hj : lkp j st.H = some (.cells T vs))
  (hb : ν j = .pointer (some ⟨b, 0, none⟩)) (hv : belowL st.nx vs' = true) : RelW S w0 ν (st.put j (.cells T vs')) (w.setRow b (denL ν vs').toArray) := by
 obtain ⟨b', hb', hc⟩ := h.sat j _ hj
 obtain rfl : b = b' := by rw [hb] at hb'; injection hb' with e; injection e with e; injection e
 refine h.turn hj ⟨rfl, rfl, rfl, by simp⟩ rfl (fun b hb => hb) (fun c hc' => setRow_other w b c _ (fun e => hc' (by simp [mineL, hb, blk, e]))) hv ⟨b, hb, setRow_heap w b _ _ T (0, 0) hc⟩
end
theorem denL_append (ν : Nat → Value) (a b : List SV) : denL ν (a ++ b) = denL ν a ++ denL ν b := by simp [denL_eq]
theorem belowL_append {n : Nat} {a b : List SV} (ha : belowL n a = true) (hb : belowL n b = true) : belowL n (a ++ b) = true := by
 rw [belowL_iff] at *
 intro v hv
 rcases List.mem_append.1 hv with hv | hv
 ·exact ha v hv
 ·exact hb v hv
theorem adds_nx (os : List HO) : ∀ st : St, (st.adds os).nx = st.nx + os.length := by
 induction os with
 | nil => intro st; rfl
 | cons o os ih => intro st; simp only [St.adds, ih]; simp [St.add]; omega
theorem adds_dirty (os : List HO) : ∀ st : St, (st.adds os).dirty = st.dirty := by
 induction os with
 | nil => intro st; rfl
 | cons o os ih => intro st; simp only [St.adds, ih]; rfl
theorem adds_append (a b : List HO) : ∀ st : St, st.adds (a ++ b) = (st.adds a).adds b := by
 induction a with
 | nil => intro st; rfl
 | cons o os ih => intro st; simp only [List.cons_append, St.adds, ih]
end Go.Aq
end
section
namespace Go.Aq
open Go.RowKit (Below)
mutual
def svEq : SV → Value → Bool
 | .int k n, .int k' n' => decide (k = k') && decide (n = n')
 | .bool b, .bool b' => b == b'
 | .str s, .string s' => decide (s = s')
 | .nilp, .pointer none => true
 | .nilsl, .slice none 0 0 => true
 | .nilf, .nilFunc => true
 | .nili, .nilIface => true
 | .nilm, .map none => true
 | .agg cs, .agg vs => svEqL cs vs.toList
 | _, _ => false
def svEqL : List SV → List Value → Bool
 | [], [] => true
 | c :: cs, v :: vs => svEq c v && svEqL cs vs
 | _, _ => false
end
mutual
theorem svEq_den (ν : Nat → Value) : ∀ c v, svEq c v = true → den ν c = v
 | .int k n, v, h => by cases v <;> simp [svEq] at h; obtain ⟨rfl, rfl⟩ := h; simp [den]
 | .bool b, v, h => by cases v <;> simp [svEq] at h; subst h; simp [den]
 | .str s, v, h => by cases v <;> simp [svEq] at h; subst h; simp [den]
 | .nilp, v, h => by
  cases v with
  | pointer a => cases a <;> simp [svEq] at h; simp [den]
  | _ => simp [svEq] at h
 | .nilsl, v, h => by
  cases v with
  | slice a n c =>
   cases a with
   | some _ => simp [svEq] at h
   | none =>
    cases n with
    | succ _ => simp [svEq] at h
    | zero => cases c <;> simp [svEq] at h; simp [den]
  | _ => simp [svEq] at h
 | .nilf, v, h => by cases v <;> simp [svEq] at h; simp [den]
 | .nili, v, h => by cases v <;> simp [svEq] at h; simp [den]
 | .nilm, v, h => by
  cases v with
  | map a => cases a <;> simp [svEq] at h; simp [den]
  | _ => simp [svEq] at h
 | .agg cs, v, h => by
  cases v <;> simp [svEq] at h
  rename_i vs
  simp [den, svEqL_den ν cs vs.toList h]
 | .ptr _ _, v, h | .osl _, v, h | .mp _, v, h | .ept _ _ _ _, v, h | .sl _ _ _ _, v, h | .csl _ _, v, h | .clo _ _, v, h | .iface _ _, v, h | .tup _, v, h => by cases v <;> simp [svEq] at h
theorem svEqL_den (ν : Nat → Value) : ∀ cs vs, svEqL cs vs = true → denL ν cs = vs
 | [], [], _ => by simp [denL]
 | c :: cs, v :: vs, h => by
  simp [svEqL] at h
  simp [denL, svEq_den ν c v h.1, svEqL_den ν cs vs h.2]
 | [], _ :: _, h => by simp [svEqL] at h
 | _ :: _, [], h => by simp [svEqL] at h
end
def aggD : TypeDesc → Bool
 | .struct _ | .array _ _ => true
 | _ => false
def fieldsChk (P : Program) : List (Nat × Nat × Bool) → List Field → Bool
 | [], [] => true
 | (o, n, g) :: xs, f :: fs => Nat.beq f.offset o && (match P.info? f.type, P.underlying f.type with | some i, some d => Nat.beq i.size n && (aggD d == g) | _, _ => false) && fieldsChk P xs fs
 | _, _ => false
def descChk (P : Program) : TK → TypeDesc → Bool
 | .int k, .int k' => decide (k = k')
 | .bool, .bool => true
 | .str, .string => true
 | .ptr, .pointer _ => true
 | .slice e, .slice e' => Nat.beq e e'
 | .map k e, .map k' e' => Nat.beq k k' && Nat.beq e e'
 | .func, .func _ _ _ => true
 | .tabE _ _, .func _ _ _ => true
 | .iface, .interface _ => true
 | .struct fs _ _ _, .struct fields => fieldsChk P fs fields.toList
 | _, _ => false
def makeChk : TypeDesc → SV → Bool
 | .int _, .int _ _ => true
 | .bool, .bool _ => true
 | .string, .str _ => true
 | _, _ => false
def eqFsChk (P : Program) : Nat → List Field → List SV → Bool
 | _, [], [] => true
 | i, f :: fs, z :: zs => decide (f.name ≠ "_") && Nat.beq f.offset i && (match P.underlying f.type with | some d => makeChk d z && !aggD d | none => false) && eqFsChk P (Nat.succ i) fs zs
 | _, _, _ => false
def eqChk (P : Program) (t : TypeId) : TK → TypeDesc → Bool
 | .struct _ _ z true, .struct fields => !P.stoodInHeld t && !P.eqGuardType P.depth t && eqFsChk P 0 fields.toList z
 | _, _ => true
def tyChk (P : Program) (x : Nat × TK) : Bool :=
 match P.info? x.1, P.underlying x.1 with
 | some i, some d => Nat.beq i.size x.2.size && Nat.ble i.bytes 65536 && (match i.zero with | some z => svEq x.2.zero z | none => false) && Nat.beq x.2.zero.cellsOf.length x.2.size && svLt 0 x.2.zero && x.2.zero.cellsOf.all isLeaf && descChk P x.2 d && eqChk P x.1 x.2 d
 | _, _ => false
def tabChk (P : Program) : Tab → Bool
 | [] => true
 | x :: xs => tyChk P x && tabChk P xs
theorem tabChk_at {P : Program} {tab : Tab} (h : tabChk P tab = true) {t : Nat} {k : TK} (ht : lkp t tab = some k) : tyChk P (t, k) = true := by
 induction tab with
 | nil => simp [lkp] at ht
 | cons x xs ih =>
  obtain ⟨s, v⟩ := x
  rw [lkp_cons] at ht
  simp [tabChk] at h
  split at ht
  ·rename_i e; subst e; cases ht; exact h.1
  ·exact ih h.2 ht
structure TyOk (P : Program) (t : TypeId) (k : TK) : Prop where
 info : ∃ i, P.info? t = some i ∧ i.size = k.size ∧ i.bytes ≤ 65536 ∧ ∃ z, i.zero = some z ∧ ∀ ν, den ν k.zero = z
 desc : ∃ d, P.underlying t = some d ∧ descChk P k d = true ∧ eqChk P t k d = true
 zlen : k.zero.cellsOf.length = k.size
 zlt : svLt 0 k.zero = true
 zleaf : k.zero.cellsOf.all isLeaf = true
theorem tyOk {P : Program} {tab : Tab} (h : tabChk P tab = true) {t : Nat} {k : TK} (ht : lkp t tab = some k) : TyOk P t k := by
 have h := tabChk_at h ht
 unfold tyChk at h
 simp only at h
 split at h
 ·rename_i i d hi hd
  simp only [Bool.and_eq_true] at h
  obtain ⟨⟨⟨⟨⟨⟨⟨h1, h6⟩, h2⟩, h3⟩, h4⟩, h7⟩, h5⟩, h8⟩ := h
  split at h2
  ·rename_i z hz
   exact ⟨⟨i, hi, Nat.eq_of_beq_eq_true h1, Nat.le_of_ble_eq_true h6, z, hz, fun ν => svEq_den ν _ _ h2⟩, ⟨d, hd, h5, h8⟩, Nat.eq_of_beq_eq_true h3, h4, h7⟩
  ·cases h2
 ·cases h
section
variable {P : Program} {w : World}
theorem run_underlying' {t : TypeId} {d : TypeDesc} (h : P.underlying t = some d) : (underlying t).run P w = .ok d w := by simp [underlying, h]
theorem run_typeInfo' {t : TypeId} {i : TypeInfo} (h : P.info? t = some i) : (typeInfo t).run P w = .ok i w := by simp [typeInfo, h]
theorem run_sizeOf' {t : TypeId} {i : TypeInfo} (h : P.info? t = some i) : (sizeOf t).run P w = .ok i.size w := by simp [sizeOf, run_typeInfo' h]
theorem run_zeroValue' {t : TypeId} {i : TypeInfo} {z : Value} (h : P.info? t = some i) (hz : i.zero = some z) : (zeroValue t).run P w = .ok z w := by simp [zeroValue, run_typeInfo' h, hz]
theorem run_isAgg' {t : TypeId} {d : TypeDesc} (h : P.underlying t = some d) : (isAgg t).run P w = .ok (aggD d) w := by
 simp only [isAgg, Sem.run_bind, run_underlying' h, Result.andThen_ok]
 cases d <;> rfl
theorem aggD_of {k : TK} {d : TypeDesc} (h : descChk P k d = true) : aggD d = k.isAgg := by
 cases k <;> cases d <;> simp [descChk] at h <;> rfl
end
theorem cellsOf_den (ν : Nat → Value) (v : SV) : (den ν v).cells = (denL ν v.cellsOf).toArray := by
 cases v <;> simp [den, SV.cellsOf, Value.cells, denL]
 ·rename_i j
  cases ν j <;> rfl
 ·rename_i j
  cases ν j <;> rfl
 ·rename_i j sz ch n
  cases ν j <;> first | rfl | (rename_i a _ _; cases a <;> rfl)
theorem lfOf_zero {v : SV} {l : Lf} (h : lfOf v = some l) : v = l.enc l.dflt := by
 unfold lfOf at h
 split at h <;> first | (cases h; rfl) | cases h
theorem lfsOf_zero : ∀ {vs : List SV} {ls : List Lf}, lfsOf vs = some ls → vs = encL ls (dfltL ls)
 | [], ls, h => by cases h; rfl
 | v :: vs, ls, h => by
  simp only [lfsOf] at h
  split at h
  ·rename_i l hl
   split at h
   ·rename_i ls' hls
    cases h
    have ih := lfsOf_zero hls
    rw [lfOf_zero hl, ih]
    cases ls' with
    | nil => rfl
    | cons m ls => rfl
   ·cases h
  ·cases h
theorem lfs_zero {k : TK} {ls : List Lf} (h : k.lfs = some ls) : k.zero.cellsOf = encL ls (dfltL ls) := by
 unfold TK.lfs at h
 split at h
 ·rename_i e; cases h; exact lfsOf_zero e
 ·cases h
theorem lfs_ne {k : TK} {ls : List Lf} (h : k.lfs = some ls) : ls ≠ [] := by
 unfold TK.lfs at h
 split at h
 ·cases h; simp
 ·cases h
theorem lfs_size {P : Program} {t : TypeId} {k : TK} (ht : TyOk P t k) {ls : List Lf} (h : k.lfs = some ls) : ls.length = k.size := by
 rw [← ht.zlen, lfs_zero h, encL_length]
theorem denL_length (ν : Nat → Value) (vs : List SV) : (denL ν vs).length = vs.length := by simp [denL_eq]
theorem ofConst_den (ν : Nat → Value) {v : Value} {x : SV} (h : ofConst v = some x) : den ν x = v ∧ svLt 0 x = true := by
 unfold ofConst at h
 split at h <;> first | (cases h; exact ⟨by simp [den], by simp [svLt]⟩) | cases h
structure EnvOk (ν : Nat → Value) (n nx : Nat) (fr : Fr) (a : Act) : Prop where
 size : a.tmps.size = n
 get : ∀ t v, lkp t fr.env = some v → a.tmps[t]? = some (den ν v) ∧ svLt nx v = true
 dfs : a.defers = (denL ν fr.dfs).map fun v => match v with | .func fn first caps => ⟨.fn fn caps, first⟩ | _ => ⟨.nil, #[]⟩
 dlt : belowL nx fr.dfs = true
section
variable {ν : Nat → Value} {n nx : Nat} {fr : Fr} {a : Act}
theorem ofOpd_den (h : EnvOk ν n nx fr a) {x : Operand} {v : SV} (hx : ofOpd fr.env x = some v) : a.eval x = den ν v ∧ svLt nx v = true := by
 cases x with
 | tmp t =>
  have := h.get t v hx
  refine ⟨?_, this.2⟩
  simp [Act.eval, Array.getD_eq_getD_getElem?, this.1]
 | const c =>
  have := ofConst_den ν hx
  exact ⟨this.1.symm, svLt_mono (Nat.zero_le _) v this.2⟩
 | global g => cases hx
 | func f => cases hx; exact ⟨by simp [Act.eval, den, denL], by simp [svLt, belowL]⟩
theorem ofOpds_den (h : EnvOk ν n nx fr a) : ∀ {xs : List Operand} {vs : List SV}, ofOpds fr.env xs = some vs → xs.map a.eval = denL ν vs ∧ belowL nx vs = true
 | [], vs, hx => by cases hx; simp [denL, belowL]
 | x :: xs, vs, hx => by
  simp only [ofOpds] at hx
  split at hx
  ·rename_i v hv
   split at hx
   ·rename_i vs' hvs
    cases hx
    have h1 := ofOpd_den h hv
    have h2 := ofOpds_den h hvs
    simp [denL, belowL, h1, h2]
   ·cases hx
  ·cases hx
theorem ofParts_den (h : EnvOk ν n nx fr a) : ∀ {xs : List (Nat × Operand)} {vs : List (Nat × SV)}, ofParts fr.env xs = some vs → xs.map (fun p => (p.1, a.eval p.2)) = vs.map (fun p => (p.1, den ν p.2)) ∧ ∀ p ∈ vs, svLt nx p.2 = true
 | [], vs, hx => by cases hx; simp
 | (i, x) :: xs, vs, hx => by
  simp only [ofParts] at hx
  split at hx
  ·rename_i v hv
   split at hx
   ·rename_i vs' hvs
    cases hx
    have h1 := ofOpd_den h hv
    have h2 := ofParts_den h hvs
    refine ⟨by simp [h1.1, h2.1], fun p hp => ?_⟩
    rcases List.mem_cons.1 hp with rfl | hp
    ·exact h1.2
    ·exact h2.2 p hp
   ·cases hx
  ·cases hx
end
end Go.Aq
end
section
namespace Go.Aq
open Go.RowKit (Below)
def panOf (e : PV) : List PanicEntry := [{ v := den (fun _ => .pointer none) (ofPV e), recovered := false }]
theorem toGL_of {v : SV} {g : GL} (h : toGL v = some g) : v = ofGL g := by cases v <;> simp [toGL] at h <;> subst h <;> rfl
theorem toGLs_of : ∀ {vs : List SV} {gs : List GL}, toGLs vs = some gs → vs = gs.map ofGL
 | [], gs, h => by simp [toGLs] at h; subst h; rfl
 | v :: vs, gs, h => by
  simp only [toGLs] at h
  split at h
  ·rename_i g hg
   split at h
   ·rename_i gs' hgs
    cases h
    rw [toGL_of hg, toGLs_of hgs]; rfl
   ·cases h
  ·cases h
theorem toPV_of {v : SV} {p : PV} (h : toPV v = some p) : v = ofPV p := by
 unfold toPV at h
 split at h
 ·split at h
  ·rename_i gs hg; cases h; rw [toGLs_of hg]; rfl
  ·cases h
 ·split at h
  ·rename_i g hg; cases h; rw [toGL_of hg]; rfl
  ·cases h
 ·cases h
theorem ofGL_lt (n : Nat) (g : GL) : svLt n (ofGL g) = true := by cases g <;> rfl
theorem ofPV_lt (n : Nat) (p : PV) : svLt n (ofPV p) = true := by
 obtain ⟨t, a, cs⟩ := p
 unfold ofPV
 simp only [svLt]
 split
 ·exact ofGL_lt n _
 ·simp only [svLt, belowL_iff, List.mem_map]
  rintro v ⟨g, _, rfl⟩
  exact ofGL_lt n g
theorem den_ofPV (ν : Nat → Value) (p : PV) : den ν (ofPV p) = den (fun _ => .pointer none) (ofPV p) :=
 den_congr (n := 0) (fun j hj => absurd hj (Nat.not_lt_zero j)) _ (ofPV_lt 0 p)
def CalPost {T : Type} (S : Bl) (w0 : World) (ν : Nat → Value) (st : St) (w : World) (K : SV → St → O T) (Kp : PV → St → O T) (res : O T) : Ending → World → Prop
 | .returned v, w' => ∃ ν' st' r, RelW S w0 ν' st' w' ∧ Step ν st w ν' st' w' ∧ v = den ν' r ∧ svLt st'.nx r = true ∧ K r st' = res
 | .panicked ch, w' => ∃ ν' st' e, RelW S w0 ν' st' w' ∧ Step ν st w ν' st' w' ∧ ch = panOf e ∧ Kp e st' = res
 | .outgrown, _ => False
def CalOk (P : Program) {T : Type} (cal : Cal T) : Prop :=
 ∀ f args sl st (K : SV → St → O T) (Kp : PV → St → O T), cal f args sl st K Kp ≠ .no → (∀ as w, (callFunc f as).run P w = .ok (.enter f as) w) ∧
  ∀ S w0 ν w, RelW S w0 ν st w → belowL st.nx args = true → Calls P f (denL ν args).toArray w (CalPost S w0 ν st w K Kp (cal f args sl st K Kp))
theorem O.chk_ne {α : Type} {b : Bool} {x res : O α} (h : O.chk b x = res) (hne : res ≠ .no) : b = true ∧ x = res := by
 rw [O.chk_eq] at h
 cases b with
 | true => exact ⟨rfl, h⟩
 | false => exact absurd h.symm hne
theorem O.chkC_ne {α : Type} {c b : Bool} {x res : O α} (h : O.chkC c b x = res) (hne : res ≠ .no) : b = true ∧ x = res := by
 cases c with
 | true => cases b with
  | true => exact ⟨rfl, h⟩
  | false => exact absurd h.symm hne
 | false => exact O.chk_ne h hne
section
variable {P : Program} {o : Oper} {a : Act} {w w' : World} {next : Act → World → Prop} {Q : Exit → Act → World → Prop} {v : Value}
theorem wp_value (h : (execOp a.eval o).run P w = .ok (.value v) w') (hn : next (a.put o.dst v) w') : o.wp P a w next Q := by
 unfold Oper.wp; rw [h]; exact hn
theorem wp_unit (h : (execOp a.eval o).run P w = .ok .skip w') (hn : next (a.put o.dst undef) w') : o.wp P a w next Q := by
 unfold Oper.wp; rw [h]; exact hn
end
theorem intOp_run {P : Program} {T : Type} {op : BinOp} {k : IntKind} {x y : Int} {K : SV → O T} {res : O T} (ν : Nat → Value) {cst : Bool} (h : intOp cst op k x y K = res) (hne : res ≠ .no) (hs : op ≠ .shl) (hr : op ≠ .shr) (t : TypeId) :
  ∃ v, K v = res ∧ svLt 0 v = true ∧ ∀ w, (binOp op t (.int k x) (.int k y)).run P w = .ok (den ν v) w := by
 cases op <;> simp only [intOp] at h
 case shl => exact absurd rfl hs
 case shr => exact absurd rfl hr
 case add => exact ⟨_, h, rfl, fun w => by simp [Go.binOp, Op.intArith, den]⟩
 case sub => exact ⟨_, h, rfl, fun w => by simp [Go.binOp, Op.intArith, den]⟩
 case mul => exact ⟨_, h, rfl, fun w => by simp [Go.binOp, Op.intArith, den]⟩
 case quo => obtain ⟨hb, h⟩ := O.chkC_ne h hne; simp only [decide_eq_true_eq] at hb; exact ⟨_, h, rfl, fun w => by simp [Go.binOp, Op.intDiv, den, hb]⟩
 case rem => obtain ⟨hb, h⟩ := O.chkC_ne h hne; simp only [decide_eq_true_eq] at hb; exact ⟨_, h, rfl, fun w => by simp [Go.binOp, Op.intDiv, den, hb]⟩
 case and => exact ⟨_, h, rfl, fun w => by simp [Go.binOp, Op.intBits, den, bAnd]⟩
 case or => exact ⟨_, h, rfl, fun w => by simp [Go.binOp, Op.intBits, den, bOr]⟩
 case xor => exact ⟨_, h, rfl, fun w => by simp [Go.binOp, Op.intBits, den, bXor]⟩
 case andNot => exact ⟨_, h, rfl, fun w => by simp [Go.binOp, Op.intBits, den, bAndNot]⟩
 case eql => exact ⟨_, h, rfl, fun w => by simp only [Go.binOp, Op.intCmp, den, ne_eq, not_true_eq_false, if_false, Sem.run_pure]; congr 2⟩
 case neq => exact ⟨_, h, rfl, fun w => by simp only [Go.binOp, Op.intCmp, den, ne_eq, not_true_eq_false, if_false, Sem.run_pure]; congr 2; by_cases e : x = y <;> simp [e, bne]⟩
 case lss => exact ⟨_, h, rfl, fun w => by simp [Go.binOp, Op.intCmp, den]⟩
 case leq => exact ⟨_, h, rfl, fun w => by simp [Go.binOp, Op.intCmp, den]⟩
 case gtr => exact ⟨_, h, rfl, fun w => by simp [Go.binOp, Op.intCmp, den]⟩
 case geq => exact ⟨_, h, rfl, fun w => by simp [Go.binOp, Op.intCmp, den]⟩
theorem bytes_toList (a : ByteArray) : a.toList = a.data.toList := by
 have h : ∀ (n i : Nat) (r : List UInt8), a.size - i = n → ByteArray.toList.loop a i r = r.reverse ++ a.data.toList.drop i := by
  intro n
  induction n with
  | zero =>
   intro i r hn
   unfold ByteArray.toList.loop
   have : ¬ i < a.size := by omega
   have hs : a.data.toList.length = a.size := by simp
   simp [this, List.drop_eq_nil_of_le (show a.data.toList.length ≤ i by omega)]
  | succ n ih =>
   intro i r hn
   unfold ByteArray.toList.loop
   have hi : i < a.size := by omega
   have hs : a.data.toList.length = a.size := by simp
   rw [if_pos hi, ih (i + 1) _ (by omega), List.drop_eq_getElem_cons (show i < a.data.toList.length by omega)]
   have : a.get! i = a.data.toList[i]'(by omega) := by
    cases a with | mk d => simp only [ByteArray.get!]; rw [getElem!_pos d i hi]; simp
   simp [this]
 simpa [ByteArray.toList] using h a.size 0 [] rfl
theorem str_eq (a b : ByteArray) : (a.toList == b.toList) = decide (a = b) := by
 rw [bytes_toList, bytes_toList, Bool.eq_iff_iff]
 simp
 constructor
 ·intro h; cases a; cases b; simp at h; rw [h]
 ·rintro rfl; rfl
theorem run_eqFields {P : Program} (ν : Nat → Value) (d : Nat) (xs ys : Array Value) (w : World) : ∀ (fs : List Field) (zs as bs : List SV) (i : Nat) (e : Bool), eqFsChk P i fs zs = true → eqLfs zs as bs = some e →
  xs.toList.drop i = denL ν as → ys.toList.drop i = denL ν bs → (Op.eqFields (d + 1) xs ys fs).run P w = .ok e w
 | [], [], as, bs, i, e, _, he, _, _ => by
  cases as <;> cases bs <;> simp [eqLfs] at he
  subst he
  simp [Op.eqFields]
 | [], _ :: _, _, _, _, _, h, _, _, _ => by simp [eqFsChk] at h
 | _ :: _, [], _, _, _, _, h, _, _, _ => by simp [eqFsChk] at h
 | f :: fs, z :: zs, as, bs, i, e, h, he, hx, hy => by
  cases as with
  | nil => simp [eqLfs] at he
  | cons a as =>
  cases bs with
  | nil => simp [eqLfs] at he
  | cons b bs =>
  simp only [eqFsChk, Bool.and_eq_true, decide_eq_true_eq] at h
  obtain ⟨⟨⟨h1, h2⟩, h3⟩, h4⟩ := h
  have h2 := Nat.eq_of_beq_eq_true h2
  simp only [eqLfs] at he
  split at he
  ·rename_i e1 he1
   split at he
   ·rename_i es hes
    cases he
    split at h3
    ·rename_i dd hdd
     simp only [Bool.and_eq_true, Bool.not_eq_true'] at h3
     have hxi : xs[i]? = some (den ν a) := by
      have : (xs.toList.drop i)[0]? = some (den ν a) := by rw [hx]; rfl
      simpa using this
     have hyi : ys[i]? = some (den ν b) := by
      have : (ys.toList.drop i)[0]? = some (den ν b) := by rw [hy]; rfl
      simpa using this
     have hag : (isAgg f.type).run P w = .ok false w := by rw [run_isAgg' hdd, h3.2]
     have hpx : (part f.type xs f.offset).run P w = .ok (den ν a) w := by
      simp only [part, Sem.run_bind, hag, Result.andThen_ok, h2]
      simp [hxi]
     have hpy : (part f.type ys f.offset).run P w = .ok (den ν b) w := by
      simp only [part, Sem.run_bind, hag, Result.andThen_ok, h2]
      simp [hyi]
     have heq : (Op.equalIn (d + 1) f.type (den ν a) (den ν b)).run P w = .ok e1 w := by
      cases z <;> cases a <;> cases b <;> simp [eqLf] at he1
      ·rename_i k n k1 n1 k2 n2
       by_cases hk : k1 = k2
       ·subst hk
        simp at he1; subst he1
        cases dd <;> simp [makeChk] at h3
        simp only [den]
        rw [run_equalIn_int w d f.type _ _ _ _ hdd]
        congr 1
       ·simp [hk] at he1
      ·subst he1
       cases dd <;> simp [makeChk] at h3
       simp only [den]
       rw [run_equalIn_bool' w d f.type _ _ hdd]
       congr 1
      ·subst he1
       cases dd <;> simp [makeChk] at h3
       simp only [den]
       rw [run_equalIn_string w d f.type _ _ hdd, str_eq]
     simp only [Op.eqFields, h1, ne_eq, not_false_eq_true, if_true, Sem.run_bind, hpx, hpy, heq, Result.andThen_ok]
     have ih := run_eqFields ν d xs ys w fs zs as bs (i + 1) es h4 hes (by rw [← List.drop_drop, hx]; rfl) (by rw [← List.drop_drop, hy]; rfl)
     cases e1
     ·simp
     ·simp [ih]
    ·cases h3
   ·cases he
  ·cases he
theorem evNil_run {P : Program} {tab : Tab} (hT : tabChk P tab = true) (ν : Nat → Value) {t : TypeId} (hl : lkp t tab = some .ptr) {x y : SV} {e : Bool} (he : isNil x = some e) (hy : isNilC y = true) (op : BinOp) (xo yo : Operand) (w : World) :
  (op = .eql → (do eqGuard op t xo yo (den ν x) (den ν y); Go.binOp op t (den ν x) (den ν y)).run P w = .ok (.bool e) w) ∧
  (op = .neq → (do eqGuard op t xo yo (den ν x) (den ν y); Go.binOp op t (den ν x) (den ν y)).run P w = .ok (.bool (!e)) w) := by
 obtain ⟨d, hd, hk, _⟩ := (tyOk hT hl).desc
 cases d <;> simp [descChk] at hk
 have hy' : y = .nilp := by cases y <;> simp [isNilC] at hy; rfl
 subst hy'
 have hx : ∃ p, den ν x = .pointer p ∧ e = p.isNone := by
  cases x <;> simp [isNil] at he <;> subst he <;> exact ⟨_, rfl, rfl⟩
 obtain ⟨p, hp, rfl⟩ := hx
 have hg : (eqGuard op t xo yo (.pointer p) (.pointer none)).run P w = .ok () w := by unfold eqGuard; cases op <;> rfl
 have heq : (Op.equal t (.pointer p) (.pointer none)).run P w = .ok p.isNone w := by
  show (Op.equalIn (9999 + 1) t (.pointer p) (.pointer none)).run P w = _
  generalize 9999 = m
  cases p <;> simp only [Op.equalIn, Sem.run_bind, run_underlying' hd, Result.andThen_ok, Sem.run_pure] <;> rfl
 rw [hp]
 constructor <;> (rintro rfl; simp only [den, Sem.run_bind, hg, Result.andThen_ok, Go.binOp, heq, Sem.run_pure])
theorem evIfNil_run {P : Program} {tab : Tab} (hT : tabChk P tab = true) (ν : Nat → Value) {t : TypeId} (hl : lkp t tab = some .iface) {x y : SV} {e : Bool} (he : ifNil x = some e) (hy : ifNilC y = true) (op : BinOp) (xo yo : Operand) (hc : isConst yo = true) (w : World) :
  (op = .eql → (do eqGuard op t xo yo (den ν x) (den ν y); Go.binOp op t (den ν x) (den ν y)).run P w = .ok (.bool e) w) ∧
  (op = .neq → (do eqGuard op t xo yo (den ν x) (den ν y); Go.binOp op t (den ν x) (den ν y)).run P w = .ok (.bool (!e)) w) := by
 obtain ⟨d, hd, hk, _⟩ := (tyOk hT hl).desc
 cases d <;> simp [descChk] at hk
 have hy' : y = .nili := by cases y <;> simp [ifNilC] at hy; rfl
 subst hy'
 cases yo <;> simp [isConst] at hc
 cases x <;> simp [ifNil] at he
 ·subst he
  rename_i tx v
  have hg : (eqGuard op t xo (.const ‹_›) (.iface tx (den ν v)) .nilIface).run P w = .ok () w := by unfold eqGuard; cases op <;> rfl
  have heq : (Op.equal t (.iface tx (den ν v)) .nilIface).run P w = .ok false w := by
   show (Op.equalIn (9999 + 1) t _ _).run P w = _
   generalize 9999 = m
   simp only [Op.equalIn, Sem.run_bind, run_underlying' hd, Result.andThen_ok, Sem.run_pure]
  constructor <;> (rintro rfl; simp only [den, Sem.run_bind, hg, Result.andThen_ok, Go.binOp, heq, Sem.run_pure])
 ·subst he
  have hg : (eqGuard op t xo (.const ‹_›) .nilIface .nilIface).run P w = .ok () w := by
   unfold eqGuard; cases op <;> first | rfl | simp
  have heq : (Op.equal t .nilIface .nilIface).run P w = .ok true w := by
   show (Op.equalIn (9999 + 1) t _ _).run P w = _
   generalize 9999 = m
   simp only [Op.equalIn, Sem.run_bind, run_underlying' hd, Result.andThen_ok, Sem.run_pure]
  constructor <;> (rintro rfl; simp only [den, Sem.run_bind, hg, Result.andThen_ok, Go.binOp, heq, Sem.run_pure])
theorem evBin_run {P : Program} {tab : Tab} (hT : tabChk P tab = true) {T : Type} {op : BinOp} {x y : SV} {K : SV → O T} {res : O T} (ν : Nat → Value) (t : TypeId) (xo yo : Operand) (h : evBin (isConst yo) (lkp t tab) op x y K = res) (hne : res ≠ .no) :
  ∃ v, K v = res ∧ svLt 0 v = true ∧ ∀ w, (do eqGuard op t xo yo (den ν x) (den ν y); Go.binOp op t (den ν x) (den ν y)).run P w = .ok (den ν v) w := by
 have hgi : ∀ w k a k' b, (eqGuard op t xo yo (.int k a) (.int k' b)).run P w = .ok () w := by intros; unfold eqGuard; cases op <;> rfl
 have hgs : ∀ w a b, (eqGuard op t xo yo (.string a) (.string b)).run P w = .ok () w := by intros; unfold eqGuard; cases op <;> rfl
 unfold evBin at h
 split at h
 ·rename_i k a k' b
  simp only [Sem.run_bind, den, hgi, Result.andThen_ok]
  split at h
  ·obtain ⟨hb, h⟩ := O.chkC_ne h hne
   simp only [decide_eq_true_eq] at hb
   exact ⟨_, h, rfl, fun w => by simp [Go.binOp, Op.shift, den, Int.not_lt.2 hb, shL]⟩
  ·obtain ⟨hb, h⟩ := O.chkC_ne h hne
   simp only [decide_eq_true_eq] at hb
   exact ⟨_, h, rfl, fun w => by simp [Go.binOp, Op.shift, den, Int.not_lt.2 hb, shR]⟩
  ·rename_i hs hr
   by_cases hk : k = k'
   ·subst hk
    simp only [decide_true, ifb] at h
    exact intOp_run ν h hne hs hr t
   ·simp only [hk, decide_false, ifb] at h
    exact absurd h.symm hne
 ·rename_i a b
  simp only [Sem.run_bind, den, hgs, Result.andThen_ok]
  unfold strOp at h
  split at h
  ·obtain ⟨hb, h⟩ := O.chk_ne h hne
   simp only [decide_eq_true_eq] at hb
   refine ⟨_, h, rfl, fun w => ?_⟩
   have : ¬ ((a.size + b.size : Nat) : Int) > IntKind.i64.max := by
    have e : IntKind.i64.max = 9223372036854775807 := rfl
    omega
   simp only [Go.binOp, Op.stringOp, den]
   rw [if_neg this]
   rfl
  ·exact ⟨_, h, rfl, fun w => by simp only [Go.binOp, Op.stringOp, den, str_eq]; rfl⟩
  ·exact ⟨_, h, rfl, fun w => by simp only [Go.binOp, Op.stringOp, den, str_eq, decide_not]; rfl⟩
  ·exact ⟨_, h, rfl, fun w => by simp only [Go.binOp, Op.stringOp, den, bytes_toList]; rfl⟩
  ·exact ⟨_, h, rfl, fun w => by simp only [Go.binOp, Op.stringOp, den, str_eq]; simp only [bytes_toList]; rfl⟩
  ·exact ⟨_, h, rfl, fun w => by simp only [Go.binOp, Op.stringOp, den, str_eq]; simp only [bytes_toList]; rfl⟩
  ·exact ⟨_, h, rfl, fun w => by simp only [Go.binOp, Op.stringOp, den, bytes_toList]; rfl⟩
  ·exact absurd h.symm hne
 ·rename_i a b
  have hgb : ∀ w a b, (eqGuard op t xo yo (.bool a) (.bool b)).run P w = .ok () w := by intros; unfold eqGuard; cases op <;> rfl
  have heq : P.underlying t = some .bool → ∀ w, (Op.equal t (.bool a) (.bool b)).run P w = .ok (decide (a = b)) w := by
   intro hu w
   show (Op.equalIn (9999 + 1) t (.bool a) (.bool b)).run P w = _
   generalize 9999 = m
   simp only [Op.equalIn, Sem.run_bind, run_underlying' hu, Result.andThen_ok, Sem.run_pure]
   congr 1
  have hbT : ∀ k, lkp t tab = some k → k = .bool → P.underlying t = some .bool := by
   rintro k hk rfl
   obtain ⟨d, hd, hk, _⟩ := (tyOk hT hk).desc
   cases d <;> simp [descChk] at hk
   exact hd
  split at h
  ·rename_i hl
   refine ⟨_, h, rfl, fun w => ?_⟩
   simp only [Sem.run_bind, den, hgb, Result.andThen_ok, Go.binOp, heq (hbT _ hl rfl), Sem.run_pure]
  ·rename_i hl
   refine ⟨_, h, rfl, fun w => ?_⟩
   simp only [Sem.run_bind, den, hgb, Result.andThen_ok, Go.binOp, heq (hbT _ hl rfl), Sem.run_pure, decide_not]
  ·exact absurd h.symm hne
 ·rename_i as bs
  split at h
  ·rename_i fs sz z hl
   obtain ⟨d, hd, hk, hq⟩ := (tyOk hT hl).desc
   cases d <;> simp [descChk] at hk
   rename_i fields
   simp only [eqChk, Bool.and_eq_true, Bool.not_eq_true'] at hq
   obtain ⟨⟨q1, q2⟩, q3⟩ := hq
   have hf : P.fieldsOf t = fields := by unfold Program.fieldsOf; rw [hd]
   have key : ∀ e, eqLfs z as bs = some e → ∀ w, (Op.equalIn 10000 t (.agg (denL ν as).toArray) (.agg (denL ν bs).toArray)).run P w = .ok e w := by
    intro e he w
    rw [run_equalIn_struct w 9999 t _ _ (by rw [hf, hd]) q1, hf]
    exact run_eqFields ν 9998 _ _ w fields.toList z as bs 0 e q3 he rfl rfl
   split at h
   ·rename_i e he
    refine ⟨_, h, rfl, fun w => ?_⟩
    simp only [Sem.run_bind, den, run_eqGuard_agg w _ t xo yo _ _ q2, Result.andThen_ok, run_eql_struct, key e he]
   ·rename_i e he
    refine ⟨_, h, rfl, fun w => ?_⟩
    simp only [Sem.run_bind, den, run_eqGuard_agg w _ t xo yo _ _ q2, Result.andThen_ok, run_neq_struct, key e he]
   ·exact absurd h.symm hne
  ·exact absurd h.symm hne
 ·rename_i hx1 hx2 hx3 hx4
  split at h
  ·rename_i e hl he
   by_cases hy : isNilC y = true
   ·rw [hy, ifb_true] at h
    refine ⟨_, h, rfl, fun w => ?_⟩
    exact (evNil_run hT ν hl he hy .eql xo yo w).1 rfl
   ·rw [Bool.not_eq_true] at hy; rw [hy] at h; exact absurd h.symm hne
  ·rename_i e hl he
   by_cases hy : isNilC y = true
   ·rw [hy, ifb_true] at h
    refine ⟨_, h, rfl, fun w => ?_⟩
    exact (evNil_run hT ν hl he hy .neq xo yo w).2 rfl
   ·rw [Bool.not_eq_true] at hy; rw [hy] at h; exact absurd h.symm hne
  ·rename_i hl
   split at h
   ·rename_i e he
    by_cases hy : (isConst yo && ifNilC y) = true
    ·rw [hy, ifb_true] at h
     rw [Bool.and_eq_true] at hy
     refine ⟨_, h, rfl, fun w => ?_⟩
     exact (evIfNil_run hT ν hl he hy.2 .eql xo yo hy.1 w).1 rfl
    ·rw [Bool.not_eq_true] at hy; rw [hy] at h; exact absurd h.symm hne
   ·exact absurd h.symm hne
  ·rename_i hl
   split at h
   ·rename_i e he
    by_cases hy : (isConst yo && ifNilC y) = true
    ·rw [hy, ifb_true] at h
     rw [Bool.and_eq_true] at hy
     refine ⟨_, h, rfl, fun w => ?_⟩
     exact (evIfNil_run hT ν hl he hy.2 .neq xo yo hy.1 w).2 rfl
    ·rw [Bool.not_eq_true] at hy; rw [hy] at h; exact absurd h.symm hne
   ·exact absurd h.symm hne
  ·exact absurd h.symm hne
end Go.Aq
end
section
namespace Go.Aq
open Go.RowKit (Below)
set_option linter.unusedVariables false
theorem run_storeCells_thaw (P : Program) (g o : Nat) (t : TypeId) (fz : Nat × Nat) : ∀ (vs : List Value) (i : Nat) (cur : Array Value) (w : World), w.heap[g]? = some (.cells cur t fz) → Thawed cur.size fz → o + i + vs.length ≤ cur.size → (∀ v ∈ vs, v.oneCell' = true) →
  (storeCells ⟨g, o, none⟩ vs i).run P w = .ok () (w.setRow g (cur.toList.take (o + i) ++ vs ++ cur.toList.drop (o + i + vs.length)).toArray)
 | [], i, cur, w, hg, _, _, _ => by
  simp only [storeCells, List.append_nil, List.length_nil, Nat.add_zero, List.take_append_drop, Array.toArray_toList]
  rw [setRow_self w g cur t fz hg]
  rfl
 | v :: rest, i, cur, w, hg, hz, hl, h1 => by
  have hi : o + i < cur.size := by simp at hl; omega
  have hadd : (⟨g, o, none⟩ : Addr).add i = ⟨g, o + i, none⟩ := add_plain g o i
  have hcell : w.cell? ⟨g, o + i, none⟩ = some cur[o + i] := by simp [World.cell?, hg, hi]
  have hfro : w.frozen? ⟨g, o + i, none⟩ = false := by
   have := hz (o + i) hi
   simp only [World.frozen?, hg]
   rw [Bool.and_eq_false_iff]
   simp only [decide_eq_false_iff_not]
   omega
  have hst : (store ((⟨g, o, none⟩ : Addr).add i) v).run P w = .ok () (w.setRow g (cur.setIfInBounds (o + i) v)) := by
   rw [hadd, run_store P w _ v _ (h1 v (by simp)), hcell]
   simp [hfro, setCell_eq_setRow w g (o + i) cur t fz v hg]
  have ih := run_storeCells_thaw P g o t fz rest (i + 1) (cur.setIfInBounds (o + i) v) (w.setRow g (cur.setIfInBounds (o + i) v)) (setRow_heap w g cur _ t _ hg) (by simpa using hz) (by simp at hl ⊢; omega) (fun x hx => h1 x (by simp [hx]))
  simp only [storeCells, Sem.run_bind, hst, Result.andThen_ok, ih, setRow_setRow]
  congr 3
  have e := list_seg_step cur.toList (o + i) v rest (by simp at hl ⊢; omega)
  simpa [Array.toList_setIfInBounds, Nat.add_assoc] using e
def Reads (w : World) (v : Value) (ls : List Lf) (xs : List (LT ls)) : Prop :=
 (v = .slice none 0 0 ∧ xs = []) ∨ ∃ a cap, v = .slice (some a) xs.length cap ∧ xs.length ≤ cap ∧ ∀ i u, (flat ls xs)[i]? = some u → w.cell? (a.add i) = some u
theorem RowSat.reads {w : World} {v : Value} {own : Bool} {t : TypeId} {ls : List Lf} {xs : List (LT ls)} (h : RowSat w v own t ls xs) : Reads w v ls xs := by
 rcases h with h | ⟨a, cap, hv, hc, h1, h2⟩
 ·exact .inl h
 ·refine .inr ⟨a, cap, hv, hc, ?_⟩
  cases own with
  | false => exact (h1 rfl).1
  | true =>
   obtain ⟨e2, _, cur, fz, e4, _, _, e7⟩ := h2 rfl
   obtain ⟨b, o, sp⟩ := a
   simp only at e2 e7
   subst e2
   intro i u hu
   have hlt : i < xs.length * ls.length := by
    have := (List.getElem?_eq_some_iff.1 hu).1
    rwa [flat_length] at this
   rw [add_plain, cell_of_row w b (o + i) cur t fz e4]
   rw [← e7, List.getElem?_take, if_pos hlt, List.getElem?_drop] at hu
   simpa using hu
theorem posI_cons {l : Int} {ls : List Int} (h : posI (l :: ls) = true) : 0 ≤ l ∧ posI ls = true := by
 simpa [posI] using h
theorem sumI_cons (l : Int) (ls : List Int) : sumI (l :: ls) = l + sumI ls := by
 cases ls <;> simp [sumI]
theorem sumI_nonneg : ∀ {ls : List Int}, posI ls = true → 0 ≤ sumI ls
 | [], _ => by simp [sumI]
 | l :: ls, h => by
  have h := posI_cons h
  have := sumI_nonneg h.2
  rw [sumI_cons]; omega
theorem chop_cap (sz : Nat) : ∀ (ch : List Int) (p : Addr × Nat), posI ch = true → (chop sz ch p).2 = p.2 - (sumI ch).toNat
 | [], p, _ => by simp [chop, sumI]
 | l :: ls, p, h => by
  have h := posI_cons h
  have := sumI_nonneg h.2
  simp only [chop]
  rw [chop_cap sz ls _ h.2, sumI_cons]
  omega
theorem chop_add (sz b o : Nat) : ∀ (ch : List Int) (k c : Nat), posI ch = true → sumI ch < (c : Int) → (chop sz ch (⟨b, o + k * sz, none⟩, c)).1 = ⟨b, o + (k + (sumI ch).toNat) * sz, none⟩
 | [], k, c, _, _ => by simp [chop, sumI]
 | l :: ls, k, c, h, hc => by
  have h := posI_cons h
  have hn := sumI_nonneg h.2
  rw [sumI_cons] at hc
  simp only [chop]
  rw [if_neg (by omega), add_plain, show o + k * sz + l.toNat * sz = o + (k + l.toNat) * sz by rw [Nat.add_mul]; omega, chop_add sz b o ls (k + l.toNat) (c - l.toNat) h.2 (by omega), sumI_cons]
  congr 2
  rw [show (l + sumI ls).toNat = l.toNat + (sumI ls).toNat by omega, Nat.add_assoc]
theorem chop_some (sz b o : Nat) : ∀ (ch : List Int) (k c : Nat), posI ch = true → ∃ k', k' ≤ k + (sumI ch).toNat ∧ (chop sz ch (⟨b, o + k * sz, none⟩, c)).1 = ⟨b, o + k' * sz, none⟩ ∧ (sumI ch < (c : Int) → k' = k + (sumI ch).toNat)
 | [], k, c, _ => ⟨k, by omega, rfl, fun _ => by simp [sumI]⟩
 | l :: ls, k, c, h => by
  have h := posI_cons h
  have hn := sumI_nonneg h.2
  rw [sumI_cons]
  simp only [chop]
  by_cases hc : c = l.toNat
  ·rw [if_pos hc]
   obtain ⟨k', h1, h2, _⟩ := chop_some sz b o ls k (c - l.toNat) h.2
   exact ⟨k', by omega, h2, fun _ => by omega⟩
  ·rw [if_neg hc, add_plain, show o + k * sz + l.toNat * sz = o + (k + l.toNat) * sz by rw [Nat.add_mul]; omega]
   obtain ⟨k', h1, h2, h3⟩ := chop_some sz b o ls (k + l.toNat) (c - l.toNat) h.2
   exact ⟨k', by omega, h2, fun hh => by have := h3 (by omega); omega⟩
theorem chop_snoc (sz : Nat) (l : Int) : ∀ (ch : List Int) (p : Addr × Nat), chop sz (ch ++ [l]) p = ((if (chop sz ch p).2 = l.toNat then (chop sz ch p).1 else (chop sz ch p).1.add (l.toNat * sz)), (chop sz ch p).2 - l.toNat)
 | [], p => rfl
 | m :: ls, p => by simp only [List.cons_append, chop]; exact chop_snoc sz l ls _
def TabVal (v : Value) (n : Nat) : Prop := (v = .slice none 0 0 ∧ n = 0) ∨ ∃ a cap, v = .slice (some a) n cap ∧ n ≤ cap ∧ (n ≠ 0 → a.spot = none)
def RowFacts (ν : Nat → Value) (H : Heap) : Prop := (∀ j own t ls xs, lkp j H = some (.row own t ls xs) → ls ≠ [] ∧ RowVal (ν j) xs.length) ∧
 (∀ j own t γ p f xs, lkp j H = some (.tab own t γ p f xs) → TabVal (ν j) xs.length) ∧ ∀ j t γ p f xs i vs, lkp j H = some (.opn t γ p f xs i vs) → TabVal (ν j) xs.length
theorem ColIs.tabVal {w : World} {Av : Nat → Prop} {own : Bool} {t : TypeId} {n len : Nat} {v : Value} {us : List Value} {F : List Nat} (h : ColIs w Av own t n len v us F) : TabVal v len := by
 rcases h with ⟨e, hl, _⟩ | ⟨a, cap, e, hcl, h1, h2⟩
 ·exact .inl ⟨e, hl⟩
 ·refine .inr ⟨a, cap, e, hcl, fun hn => ?_⟩
  cases own with
  | true => exact (h2 rfl).2.1
  | false => exact ((h1 rfl).2.2 hn).1
theorem RelW.facts {S : Bl} {w0 : World} {ν : Nat → Value} {st : St} {w : World} (h : RelW S w0 ν st w) : RowFacts ν st.H := by
 refine ⟨fun j own t ls xs hj => ⟨(h.sat j _ hj).1, (h.sat j _ hj).2.rowVal (h.sat j _ hj).1⟩, fun j own t γ p f xs hj => ?_, fun j t γ p f xs i vs hj => ?_⟩
 ·obtain ⟨_, _, v, us, F0, F1, e, _, _, h1, _⟩ := h.sat j _ hj
  cases e
  exact h1.tabVal
 ·obtain ⟨_, _, _, _, _, _, _, ua, ub, F0, Fa, Fb, _, h1, _⟩ := h.sat j _ hj
  exact h1.tabVal
structure SlOk (ν : Nat → Value) (H : Heap) (nx : Nat) (v : SV) (s : Sl) : Prop where
 at_ : lkp s.j H = some (.row s.own s.t s.ls s.xs)
 ne : s.ls ≠ []
 val : RowVal (ν s.j) s.xs.length
 is : den ν v = cutV s.ls.length s.ch s.n (ν s.j)
 whole : s.ch = [] → s.ok = true ∨ s.n < 0 ∨ s.xs.length < s.n
theorem slOf_ok {ν : Nat → Value} {H : Heap} {nx : Nat} (hF : RowFacts ν H) {v : SV} {s : Sl} (h : slOf H v = some s) : SlOk ν H nx v s ∧ (svLt nx v = true → s.j < nx) := by
 have whole : ∀ s : Sl, s.ch = [] → s.ok = true ∨ s.n < 0 ∨ s.xs.length < s.n := by
  intro s hs
  unfold Sl.ok
  rw [hs]
  simp only [decide_eq_true_eq]
  omega
 unfold slOf at h
 split at h
 ·rename_i j
  split at h
  ·rename_i own t ls xs hj
   cases h
   have hf := hF.1 j own t ls xs hj
   refine ⟨⟨hj, hf.1, hf.2, ?_, whole _⟩, fun hv => by simpa [svLt] using hv⟩
   simp only [den]
   rcases hf.2 with ⟨e, hn⟩ | ⟨a, cap, e, _⟩
   ·rw [e]; rfl
   ·rw [e]; simp [hdr, cutV, chop]
  ·cases h
 ·rename_i j sz ch n
  split at h
  ·rename_i own t ls xs hj
   by_cases hb : Nat.beq sz ls.length = true
   ·rw [hb, cond_true] at h
    have hb := Nat.eq_of_beq_eq_true hb
    subst hb
    cases h
    have hf := hF.1 j own t ls xs hj
    exact ⟨⟨hj, hf.1, hf.2, rfl, whole _⟩, fun hv => by simpa [svLt] using hv⟩
   ·rw [Bool.not_eq_true] at hb; rw [hb] at h; cases h
  ·cases h
 ·cases h
theorem Sl.ok_spec {s : Sl} (h : s.ok = true) : posI s.ch = true ∧ 0 ≤ s.n ∧ sumI s.ch + s.n ≤ (s.xs.length : Int) := by
 unfold Sl.ok at h
 split at h
 ·rename_i hc
  rw [hc]
  simp only [decide_eq_true_eq] at h
  exact ⟨rfl, h.1, by simpa [sumI] using h.2⟩
 ·simp only [Bool.and_eq_true, decide_eq_true_eq] at h
  exact h
theorem SlOk.shape {ν : Nat → Value} {H : Heap} {nx : Nat} {v : SV} {s : Sl} (h : SlOk ν H nx v s) (hk : s.ok = true) :
  (den ν v = .slice none 0 0 ∧ ν s.j = .slice none 0 0 ∧ s.n = 0 ∧ s.xs.length = 0) ∨
  ∃ a cap, ν s.j = .slice (some a) s.xs.length cap ∧ den ν v = .slice (some (chop s.ls.length s.ch (a, cap)).1) s.n.toNat (cap - (sumI s.ch).toNat) ∧ s.n.toNat ≤ cap - (sumI s.ch).toNat ∧ s.xs.length ≤ cap ∧
   (0 < s.n → a.spot = none ∧ (chop s.ls.length s.ch (a, cap)).1 = ⟨a.block, a.off + (sumI s.ch).toNat * s.ls.length, none⟩) := by
 obtain ⟨h1, h2, h3⟩ := Sl.ok_spec hk
 have h4 := sumI_nonneg h1
 rcases h.val with ⟨e, hn⟩ | ⟨a, cap, e, hc, hsp⟩
 ·refine .inl ⟨by rw [h.is, e]; rfl, e, by omega, hn⟩
 ·refine .inr ⟨a, cap, e, ?_, by omega, hc, fun hpos => ?_⟩
  ·rw [h.is, e]
   simp only [cutV, chop_cap _ _ _ h1]
  ·have hs := hsp (by omega)
   obtain ⟨b, o, sp⟩ := a
   simp only at hs
   subst hs
   refine ⟨rfl, ?_⟩
   have := chop_add s.ls.length b o s.ch 0 cap h1 (by omega)
   simpa using this
theorem flat_sub (ls : List Lf) (xs : List (LT ls)) (lo n : Nat) (i : Nat) (u : Value) (h : (flat ls ((xs.drop lo).take n))[i]? = some u) : (flat ls xs)[lo * ls.length + i]? = some u := by
 rw [flat_take, flat_drop, List.getElem?_take] at h
 split at h
 ·rwa [List.getElem?_drop] at h
 ·cases h
theorem evList_reads {T : Type} {S : Bl} {w0 : World} {ν : Nat → Value} {st : St} {w : World} (hR : RelW S w0 ν st w) {v : SV} {K : (ls : List Lf) → TypeId → List (LT ls) → O T} {res : O T}
  (h : evList st.H v K = res) (hne : res ≠ .no) :
  ∃ j o ls t xs, K ls t xs = res ∧ ls ≠ [] ∧ lkp j st.H = some o ∧ (v = .osl j ∨ ∃ sz ch n, v = .sl j sz ch n) ∧ ∀ w', (∀ b, b < w.heap.size → b ∈ mineL ν j o ∨ b ∈ seenL ν j o → w'.heap[b]? = w.heap[b]?) → Reads w' (den ν v) ls xs := by
 unfold evList at h
 split at h
 ·rename_i j
  split at h
  ·rename_i own t ls xs hj
   have hs := hR.sat j _ hj
   refine ⟨j, _, ls, t, xs, h, hs.1, hj, .inl rfl, fun w' hw => ?_⟩
   have := (hs.2.congr (w' := w') (fun b hb => hw b (hoSat_lt hs b (.inl hb)) (.inl hb)) (fun b hb => hw b (hoSat_lt hs b (.inr hb)) (.inr hb))).reads
   rcases this with ⟨e, hx⟩ | ⟨a, cap, e, hl, hc⟩
   ·exact .inl ⟨by simp only [den, e]; rfl, hx⟩
   ·exact .inr ⟨a, cap, by simp only [den, e]; rfl, hl, hc⟩
  ·exact absurd h.symm hne
 ·rename_i hnot
  split at h
  ·rename_i s hs
   obtain ⟨hok, h⟩ := O.chk_ne h hne
   obtain ⟨hS, -⟩ := slOf_ok (nx := st.nx) hR.facts hs
   have hsat := hR.sat s.j _ hS.at_
   refine ⟨s.j, _, s.ls, s.t, _, h, hS.ne, hS.at_, ?_, fun w' hw => ?_⟩
   ·unfold slOf at hs
    split at hs
    ·rename_i j; exact absurd rfl (hnot j)
    ·rename_i j sz ch n
     split at hs
     ·rename_i own' t' ls' xs' _
      by_cases hb : Nat.beq sz ls'.length = true
      ·rw [hb, cond_true] at hs; cases hs; exact .inr ⟨_, _, _, rfl⟩
      ·rw [Bool.not_eq_true] at hb; rw [hb] at hs; cases hs
     ·cases hs
    ·cases hs
   obtain ⟨h1, h2, h3⟩ := Sl.ok_spec hok
   have h4 := sumI_nonneg h1
   have hrd := (hsat.2.congr (w' := w') (fun b hb => hw b (hoSat_lt hsat b (.inl hb)) (.inl hb)) (fun b hb => hw b (hoSat_lt hsat b (.inr hb)) (.inr hb))).reads
   have hlen : (sub s.xs (sumI s.ch) s.n).length = s.n.toNat := by simp [sub]; omega
   rcases hS.shape hok with ⟨e1, _, e3, e4⟩ | ⟨a, cap, e1, e2, e8, _, e5⟩
   ·refine .inl ⟨e1, ?_⟩
    have : (sub s.xs (sumI s.ch) s.n).length = 0 := by omega
    exact List.eq_nil_of_length_eq_zero this
   ·refine .inr ⟨_, _, by rw [hlen]; exact e2, by rw [hlen]; exact e8, fun i u hu => ?_⟩
    have hpos : 0 < s.n := by
     rcases Int.lt_or_le 0 s.n with h | h
     ·exact h
     ·have : sub s.xs (sumI s.ch) s.n = [] := List.eq_nil_of_length_eq_zero (by omega)
      rw [this] at hu; simp [flat] at hu
    obtain ⟨e6, e7⟩ := e5 hpos
    have hu' := flat_sub _ _ _ _ _ _ hu
    rcases hrd with ⟨e, _⟩ | ⟨a', cap', e, _, hc⟩
    ·rw [e1] at e; cases e
    ·rw [e1] at e
     cases e
     have := hc _ _ hu'
     obtain ⟨b, o, sp⟩ := a
     simp only at e6 e7
     subst e6
     rw [e7, add_plain]
     rw [add_plain] at this
     rw [Nat.add_assoc]
     exact this
  ·exact absurd h.symm hne
theorem RelW.newRow {S : Bl} {w0 : World} {ν : Nat → Value} {st : St} {w : World} (h : RelW S w0 ν st w) (t : TypeId) (ls : List Lf) (hls : ls ≠ []) (xs : List (LT ls)) (cur : Array Value) (fz : Nat × Nat) (cap : Nat)
  (hc : xs.length ≤ cap) (hm : cap ≤ maxLen) (hsz : cur.size = cap * ls.length) (hz : Thawed cur.size fz) (hcur : cur.toList.take (xs.length * ls.length) = flat ls xs) :
  RelW S w0 (upd ν st.nx (.slice (some ⟨w.heap.size, 0, none⟩) xs.length cap)) (st.add (.row true t ls xs)) (w.alloc (.cells cur t fz)) := by
 refine h.fresh _ _ (.row true t ls xs) rfl ⟨hls, ?_⟩ ?_ (by simp [mineL, upd_new, rowMine]) rfl
 ·rw [upd_new]
  refine .inr ⟨⟨w.heap.size, 0, none⟩, cap, rfl, hc, (fun h => by cases h), fun _ => ⟨rfl, hm, cur, fz, ?_, by rw [Nat.zero_add, hsz]; exact Nat.le_refl _, hz, hcur⟩⟩
  show (w.heap.push _)[_]? = _
  simp
 ·intro b hb
  simpa [mineL, upd_new, rowMine] using hb
theorem thawed_zero (n : Nat) : Thawed n (0, 0) := fun i _ h => by omega
theorem thawed_past (n : Nat) (k : Nat) : Thawed n (n, k) := fun i hi h => by omega
theorem drop_seg {α : Type} (c : List α) (o a : Nat) (m : List α) (h : o + a ≤ c.length) : (c.take (o + a) ++ m ++ c.drop (o + a + m.length)).drop o = (c.drop o).take a ++ m ++ (c.drop o).drop (a + m.length) := by
 rw [List.take_add, List.append_assoc, List.append_assoc, List.drop_left' (by rw [List.length_take]; omega), List.drop_drop, ← List.append_assoc]
 congr 2; omega
theorem RowSat.recut {w : World} {v : Value} {t : TypeId} {ls : List Lf} {xs : List (LT ls)} (h : RowSat w v true t ls xs) {ch : List Int} {n : Int} (hp : posI ch = true) (h0 : 0 ≤ n) (h1 : sumI ch + n ≤ (xs.length : Int)) :
  RowSat w (cutV ls.length ch n v) true t ls (sub xs (sumI ch) n) ∧ rowMine true (cutV ls.length ch n v) = rowMine true v := by
 have hs := sumI_nonneg hp
 have hl : (sub xs (sumI ch) n).length = n.toNat := by unfold sub; rw [List.length_take, List.length_drop]; omega
 rcases h with ⟨rfl, rfl⟩ | ⟨⟨b, o, sp⟩, cap, rfl, hc, -, h2⟩
 ·refine ⟨.inl ⟨rfl, ?_⟩, rfl⟩
  simp [sub]
 ·obtain ⟨f2, f3, cur, fz, f4, f5, f6, f7⟩ := h2 rfl
  simp only at f2 f4 f5 f7
  subst f2
  obtain ⟨k', k1, k2, k5⟩ := chop_some ls.length b o ch 0 cap hp
  rw [Nat.zero_mul, Nat.add_zero] at k2
  have k3 := chop_cap ls.length ch (⟨b, o, none⟩, cap) hp
  have k4 : 0 < n → k' = (sumI ch).toNat := fun hn => by have := k5 (by omega); omega
  refine ⟨.inr ⟨⟨b, o + k' * ls.length, none⟩, cap - (sumI ch).toNat, ?_, by rw [hl]; omega, (fun h => by cases h), fun _ => ⟨rfl, by omega, cur, fz, f4, ?_, f6, ?_⟩⟩, ?_⟩
  ·show Value.slice (some (chop ls.length ch (⟨b, o, none⟩, cap)).1) n.toNat (chop ls.length ch (⟨b, o, none⟩, cap)).2 = _
   rw [k2, k3, hl]
  ·have e1 : (k' + (cap - (sumI ch).toNat)) * ls.length ≤ cap * ls.length := Nat.mul_le_mul_right _ (by omega)
   rw [Nat.add_mul] at e1
   show o + k' * ls.length + (cap - (sumI ch).toNat) * ls.length ≤ cur.size
   omega
  ·rw [hl]
   by_cases hn : 0 < n
   ·rw [k4 hn]
    unfold sub
    rw [flat_take, flat_drop, ← f7, List.drop_take, List.take_take, List.drop_drop]
    congr 1
    have e1 : ((sumI ch).toNat + n.toNat) * ls.length ≤ xs.length * ls.length := Nat.mul_le_mul_right _ (by omega)
    rw [Nat.add_mul] at e1
    omega
   ·have : n.toNat = 0 := by omega
    rw [this]
    simp [sub, this, flat]
  ·show rowMine true (Value.slice (some (chop ls.length ch (⟨b, o, none⟩, cap)).1) n.toNat (chop ls.length ch (⟨b, o, none⟩, cap)).2) = _
   rw [k2]; rfl
theorem RelW.setElems {S : Bl} {w0 : World} {ν : Nat → Value} {st : St} {w : World} (h : RelW S w0 ν st w) {j : Nat} {t : TypeId} {ls : List Lf} {xs xs' : List (LT ls)} (hj : lkp j st.H = some (.row true t ls xs)) (hl : xs'.length = xs.length)
  {a : Addr} {n cap : Nat} (hv : ν j = .slice (some a) n cap) {cur cur' : Array Value} {fz : Nat × Nat} (hc : w.heap[a.block]? = some (.cells cur t fz)) (hsz : cur'.size = cur.size) (hx : (cur'.toList.drop a.off).take (xs.length * ls.length) = flat ls xs') :
  RelW S w0 ν (st.put j (.row true t ls xs')) (w.setRow a.block cur') := by
 have hs := h.sat j _ hj
 have hm : ∀ ys, mineL ν j (.row true t ls ys) = [a.block] := fun ys => by simp [mineL, rowMine, hv]
 refine h.turn hj ⟨rfl, rfl, rfl, by simp⟩ (by rw [hm, hm]) (fun b hb => by simp [seenL, rowSeen] at hb) (fun c hc' => setRow_other w a.block c _ (fun e => hc' (by rw [hm, e]; simp))) rfl ⟨hs.1, ?_⟩
 rcases hs.2 with ⟨e, _⟩ | ⟨a', cap', e, hle, _, h2⟩
 ·rw [hv] at e; cases e
 ·rw [hv] at e
  injection e with e1 e2 e3
  injection e1 with e1
  subst e1; subst e2; subst e3
  obtain ⟨f2, f3, cur0, fz0, f4, f5, f6, f7⟩ := h2 rfl
  rw [hc] at f4
  injection f4 with f4
  injection f4 with g1 g2 g3
  subst g1; subst g3
  refine .inr ⟨a, cap, by rw [hv, hl], by rw [hl]; exact hle, (fun h => by cases h), fun _ => ⟨f2, f3, cur', fz, setRow_heap w a.block _ _ t fz hc, by rw [hsz]; exact f5, by rw [hsz]; exact f6, by rw [hl]; exact hx⟩⟩
theorem RelW.ownRow {S : Bl} {w0 : World} {ν : Nat → Value} {st : St} {w : World} (h : RelW S w0 ν st w) {j : Nat} {t : TypeId} {ls : List Lf} {xs : List (LT ls)} (hj : lkp j st.H = some (.row true t ls xs)) :
  (ν j = .slice none 0 0 ∧ xs = []) ∨ ∃ b o cap cur fz, ν j = .slice (some ⟨b, o, none⟩) xs.length cap ∧ xs.length ≤ cap ∧ cap ≤ maxLen ∧ w.heap[b]? = some (.cells cur t fz) ∧ o + cap * ls.length ≤ cur.size ∧ Thawed cur.size fz ∧ (cur.toList.drop o).take (xs.length * ls.length) = flat ls xs := by
 rcases (h.sat j _ hj).2 with h | ⟨a, cap, e, hle, _, h2⟩
 ·exact .inl h
 ·obtain ⟨f2, f3, cur, fz, f4, f5, f6, f7⟩ := h2 rfl
  obtain ⟨b, o, sp⟩ := a
  simp only at f2
  subst f2
  exact .inr ⟨b, o, cap, cur, fz, e, hle, f3, f4, f5, f6, f7⟩
theorem encO_den (ν : Nat → Value) (agg : Bool) (ls : List Lf) (x : LT ls) : den ν (encO agg ls x) = oneV agg ls x := by
 have h := cellsV_any ls x ν
 unfold cellsV at h
 unfold encO oneV
 cases agg with
 | true => simp only [den]; rw [h]
 | false =>
  simp only
  rw [← h]
  generalize encL ls x = l
  match l with
  | [] => simp [denL, den]
  | [v] => simp [denL]
  | _ :: _ :: _ => simp [denL, den]
theorem encO_lt (n : Nat) (agg : Bool) (ls : List Lf) (x : LT ls) : svLt n (encO agg ls x) = true := by
 have h := encL_lt n ls x
 unfold encO
 cases agg with
 | true => simpa only [svLt] using h
 | false =>
  simp only
  revert h
  generalize encL ls x = l
  match l with
  | [] => intro _; rfl
  | [v] => intro h; simpa [belowL] using h
  | _ :: _ :: _ => intro _; rfl
theorem decO_of {agg : Bool} {ls : List Lf} {v : SV} {x : LT ls} (h : decO agg ls v = some x) : v = encO agg ls x := by
  cases v <;> (first
    | (cases agg with
       | true => (unfold decO at h; simp only at h; first | (cases h; done) | (have := decL_of ls _ x h; unfold encO; simp only; rw [← this]))
       | false => (unfold decO at h; simp only at h; first | (cases h; done) | (have := decL_of ls _ x h; unfold encO; simp only; rw [← this]))))
theorem decO_den {agg : Bool} {ls : List Lf} {v : SV} {x : LT ls} (h : decO agg ls v = some x) (ν : Nat → Value) : den ν v = oneV agg ls x := by
 rw [decO_of h, encO_den]
section
variable {K V : Type} [DecidableEq K]
def mfind (k : K) : List (K × V) → Nat → Option (Nat × V)
 | [], _ => none
 | e :: es, i => if k = e.1 then some (i, e.2) else mfind k es (i + 1)
theorem mfind_get (d : V) (k : K) : ∀ (es : List (K × V)) (i : Nat), mget d es k = (match mfind k es i with | some p => p.2 | none => d)
 | [], i => rfl
 | e :: es, i => by
  by_cases h : k = e.1
  ·subst h; simp [mfind, mget]
  ·have ih := mfind_get d k es (i + 1)
   have h' : ¬ e.1 = k := fun e => h e.symm
   simp only [mfind, if_neg h, ← ih]
   simp [mget, h']
theorem mfind_has (k : K) : ∀ (es : List (K × V)) (i : Nat), mhas es k = (mfind k es i).isSome
 | [], i => rfl
 | e :: es, i => by
  by_cases h : k = e.1
  ·subst h; simp [mfind, mhas]
  ·have ih := mfind_has k es (i + 1)
   have h' : ¬ e.1 = k := fun e => h e.symm
   simp only [mfind, if_neg h, ← ih]
   simp [mhas, h']
theorem mfind_spec (k : K) : ∀ (es : List (K × V)) (i : Nat),
  match mfind k es i with
  | some p => ∃ a b, es = a ++ (k, p.2) :: b ∧ p.1 = i + a.length ∧ (∀ v, mput es k v = a ++ (k, v) :: b) ∧ mdel es k = a ++ b
  | none => (∀ e ∈ es, e.1 ≠ k) ∧ (∀ v, mput es k v = es ++ [(k, v)]) ∧ mdel es k = es
 | [], i => by simp [mfind, mput, mdel]
 | e :: es, i => by
  by_cases h : k = e.1
  ·subst h
   simp only [mfind, if_pos]
   exact ⟨[], es, rfl, by simp, fun v => by simp [mput], by simp [mdel]⟩
  ·have ih := mfind_spec k es (i + 1)
   have h' : ¬ e.1 = k := fun e => h e.symm
   simp only [mfind, if_neg h]
   split at ih
   ·rename_i p hp
    obtain ⟨a, b, h1, h2, h3, h4⟩ := ih
    exact ⟨e :: a, b, by rw [h1]; rfl, by simp [h2]; omega, fun v => by simp [mput, h', h3 v], by simp [mdel, h', h4]⟩
   ·rename_i hp
    obtain ⟨h1, h2, h3⟩ := ih
    refine ⟨fun x hx => ?_, fun v => by simp [mput, h', h2 v], by simp [mdel, h', h3]⟩
    rcases List.mem_cons.1 hx with rfl | hx
    ·exact h'
    ·exact h1 x hx
end
theorem lfs_int (k : IntKind) {ls : List Lf} (h : (TK.int k).lfs = some ls) : ls = [.int k] := by cases h; rfl
theorem lfs_bool {ls : List Lf} (h : TK.bool.lfs = some ls) : ls = [.bool] := by cases h; rfl
theorem lfs_str {ls : List Lf} (h : TK.str.lfs = some ls) : ls = [.str] := by cases h; rfl
theorem dec_iff {α : Type} [DecidableEq α] (a b : α) : decide (a = b) = true ↔ a = b := decide_eq_true_iff
theorem eqLf_int (k : IntKind) (z a b : Int) : eqLf (.int k z) (.int k a) (.int k b) = some (decide (a = b)) := by
 show (bif decide (k = k) then some (decide (a = b)) else none) = _
 rw [decide_eq_true rfl, cond_true]
theorem eqLf_enc {z : SV} {l : Lf} (h : lfOf z = some l) (x y : l.T) : ∃ e, eqLf z (l.enc x) (l.enc y) = some e ∧ (e = true ↔ x = y) := by
 have := lfOf_zero h
 subst this
 cases l with
 | int k => exact ⟨_, eqLf_int k 0 x y, dec_iff (α := Int) x y⟩
 | bool => exact ⟨_, rfl, dec_iff (α := Bool) x y⟩
 | str => exact ⟨_, rfl, dec_iff (α := ByteArray) x y⟩
theorem eqLfs_enc : ∀ {zs : List SV} {ls : List Lf}, lfsOf zs = some ls → ∀ (x y : LT ls), ∃ e, eqLfs zs (encL ls x) (encL ls y) = some e ∧ (e = true ↔ x = y)
 | [], ls, h, x, y => by cases h; exact ⟨true, rfl, by simp; exact (PUnit.ext x y)⟩
 | z :: zs, ls, h, x, y => by
  simp only [lfsOf] at h
  split at h
  ·rename_i l hl
   split at h
   ·rename_i ls' hls
    cases h
    cases ls' with
    | nil =>
     have hz : zs = [] := by
      cases zs with
      | nil => rfl
      | cons a b => simp only [lfsOf] at hls; split at hls <;> (try split at hls) <;> cases hls
     subst hz
     obtain ⟨e, h1, h2⟩ := eqLf_enc hl x y
     refine ⟨e, ?_, h2⟩
     show (match eqLf z (l.enc x) (l.enc y) with | some e => (match eqLfs [] [] [] with | some es => some (e && es) | none => none) | none => none) = _
     rw [h1]
     simp [eqLfs]
    | cons m ms =>
     obtain ⟨e, h1, h2⟩ := eqLf_enc hl x.1 y.1
     obtain ⟨e', h1', h2'⟩ := eqLfs_enc hls x.2 y.2
     refine ⟨e && e', ?_, ?_⟩
     ·show (match eqLf z (l.enc x.1) (l.enc y.1) with | some e => (match eqLfs zs (encL (m :: ms) x.2) (encL (m :: ms) y.2) with | some es => some (e && es) | none => none) | none => none) = _
      rw [h1, h1']
     ·rw [Bool.and_eq_true, h2, h2']
      constructor
      ·rintro ⟨a, b⟩; exact Prod.ext a b
      ·intro h; exact ⟨congrArg Prod.fst h, congrArg Prod.snd h⟩
   ·cases h
  ·cases h
structure KeyOk (P : Program) (t : TypeId) (ka : Bool) (kl : List Lf) : Prop where
 chk : ∀ (x : LT kl) (e : Bool) (w : World), (Instr.checkKey e 10000 t (oneV ka kl x)).run P w = .ok () w
 find : ∀ (x : LT kl) {V : Type} (g : V → Value) (es : List (LT kl × V)) (ms : List MapEntry) (w : World), ms.map (fun e => (e.key, e.val)) = es.map (fun e => (oneV ka kl e.1, g e.2)) →
  (Instr.findKey t (oneV ka kl x) ms).run P w = .ok ((mfind x es 0).map fun p => (p.1, g p.2)) w
 stays : ∀ (x : LT kl) (w : World), (Instr.keyThatStays (oneV ka kl x) (oneV ka kl x)).run P w = .ok (oneV ka kl x) w
theorem findNow_run {K V : Type} [DecidableEq K] (d : TypeDesc) (f : K → Value) (g : V → Value) (x : K) (hs : ∀ y, Instr.sameNow d (f x) (f y) = some (decide (x = y))) : ∀ (es : List (K × V)) (ms : List MapEntry) (i : Nat), ms.map (fun e => (e.key, e.val)) = es.map (fun e => (f e.1, g e.2)) →
  Instr.findNow d (f x) ms i = some ((mfind x es i).map fun p => (p.1, g p.2))
 | [], ms, i, h => by
  have : ms = [] := by simpa using h
  subst this; rfl
 | e :: es, [], i, h => by simp at h
 | e :: es, m :: ms, i, h => by
  simp only [List.map_cons, List.cons.injEq, Prod.mk.injEq] at h
  obtain ⟨⟨h1, h2⟩, h3⟩ := h
  simp only [Instr.findNow, h1, hs]
  by_cases hx : x = e.1
  ·simp [mfind, hx, h2]
  ·simp [mfind, hx, findNow_run d f g x hs es ms (i + 1) h3]
theorem findAsking_run {P : Program} {w : World} {K V : Type} [DecidableEq K] (t : TypeId) (f : K → Value) (g : V → Value) (x : K) (hs : ∀ y, (Op.equal t (f x) (f y)).run P w = .ok (decide (x = y)) w) : ∀ (es : List (K × V)) (ms : List MapEntry) (i : Nat), ms.map (fun e => (e.key, e.val)) = es.map (fun e => (f e.1, g e.2)) →
  (Instr.findAsking t (f x) ms i).run P w = .ok ((mfind x es i).map fun p => (p.1, g p.2)) w
 | [], ms, i, h => by
  have : ms = [] := by simpa using h
  subst this; rfl
 | e :: es, [], i, h => by simp at h
 | e :: es, m :: ms, i, h => by
  simp only [List.map_cons, List.cons.injEq, Prod.mk.injEq] at h
  obtain ⟨⟨h1, h2⟩, h3⟩ := h
  simp only [Instr.findAsking, Sem.run_bind, h1, hs, Result.andThen_ok]
  by_cases hx : x = e.1
  ·simp [mfind, hx, h2]
  ·simp [mfind, hx, findAsking_run t f g x hs es ms (i + 1) h3]
theorem run_checkFields {P : Program} (e : Bool) (d : Nat) (xs : Array Value) (w : World) : ∀ (fs : List Field) (zs as : List SV) (i : Nat), eqFsChk P i fs zs = true → zs.length = as.length →
  xs.toList.drop i = denL ν0 as →
  (forIn fs PUnit.unit (fun f _ => if f.name ≠ "_" then (do
    let v ← part f.type xs f.offset
    Instr.checkKey e (d + 1) f.type v
    pure (ForInStep.yield PUnit.unit) : Sem (ForInStep PUnit)) else pure (ForInStep.yield PUnit.unit))).run P w = .ok PUnit.unit w
 | [], [], as, i, _, _, _ => by simp
 | [], _ :: _, _, _, h, _, _ => by simp [eqFsChk] at h
 | _ :: _, [], _, _, h, _, _ => by simp [eqFsChk] at h
 | f :: fs, z :: zs, as, i, h, hl, hx => by
  cases as with
  | nil => simp at hl
  | cons a as =>
  simp only [eqFsChk, Bool.and_eq_true, decide_eq_true_eq] at h
  obtain ⟨⟨⟨h1, h2⟩, h3⟩, h4⟩ := h
  have h2 := Nat.eq_of_beq_eq_true h2
  split at h3
  ·rename_i dd hdd
   simp only [Bool.and_eq_true, Bool.not_eq_true'] at h3
   have hxi : xs[i]? = some (den ν0 a) := by
    have : (xs.toList.drop i)[0]? = some (den ν0 a) := by rw [hx]; rfl
    simpa using this
   have hag : (isAgg f.type).run P w = .ok false w := by rw [run_isAgg' hdd, h3.2]
   have hpx : (part f.type xs f.offset).run P w = .ok (den ν0 a) w := by
    simp only [part, Sem.run_bind, hag, Result.andThen_ok, h2]
    simp [hxi]
   have hck : (Instr.checkKey e (d + 1) f.type (den ν0 a)).run P w = .ok () w := by
    unfold Instr.checkKey
    simp only [Sem.run_bind, run_underlying' hdd, Result.andThen_ok]
    cases z <;> cases dd <;> simp [makeChk] at h3 <;> rfl
   have ih := run_checkFields e d xs w fs zs as (i + 1) h4 (by simpa using hl) (by rw [← List.drop_drop, hx]; rfl)
   rw [List.forIn_cons]
   simp only [Sem.run_bind, h1, ne_eq, not_false_eq_true, if_true, hpx, Result.andThen_ok, hck, Sem.run_pure]
   exact ih
  ·cases h3
theorem ba_beq (a b : ByteArray) : (a == b) = decide (a = b) := by
 have h : (a == b) = (a.data == b.data) := by
  cases a; cases b; rfl
 rw [h]
 by_cases e : a = b
 ·subst e; simp
 ·have : a.data ≠ b.data := fun h => e (ByteArray.ext h)
  simp [e, this]
theorem ba_refl (a : ByteArray) : (a == a) = true := by rw [ba_beq]; exact decide_eq_true rfl
theorem beq_dec {α : Type} [BEq α] [LawfulBEq α] [DecidableEq α] (a b : α) : (a == b) = decide (a = b) := by
 by_cases e : a = b
 ·subst e; simp
 ·simp [e]
theorem sameBits_leaf (n : Nat) : ∀ (l : Lf) (x : l.T), Instr.sameBits n (den ν0 (l.enc x)) (den ν0 (l.enc x)) = true
 | .int k, x => by cases n <;> simp [Lf.enc, den, Instr.sameBits] <;> exact beq_self_eq_true (α := Int) x
 | .bool, x => by cases n <;> simp [Lf.enc, den, Instr.sameBits] <;> exact beq_self_eq_true (α := Bool) x
 | .str, x => by cases n <;> simp [Lf.enc, den, Instr.sameBits] <;> exact ba_refl x
theorem sameBits_cells (n : Nat) : ∀ (ls : List Lf) (x : LT ls), ∀ v ∈ denL ν0 (encL ls x), Instr.sameBits n v v = true
 | [], x, v, h => by cases h
 | [l], x, v, h => by
  have : v = den ν0 (l.enc x) := by simpa [encL, denL] using h
  rw [this]; exact sameBits_leaf n l x
 | l :: m :: ls, x, v, h => by
  have : v = den ν0 (l.enc x.1) ∨ v ∈ denL ν0 (encL (m :: ls) x.2) := by simpa [encL, denL] using h
  rcases this with rfl | h
  ·exact sameBits_leaf n l x.1
  ·exact sameBits_cells n (m :: ls) x.2 v h
theorem oneV_bits (ka : Bool) {kl : List Lf} (x : LT kl) : ∀ n, Instr.sameBits (n + 1) (oneV ka kl x) (oneV ka kl x) = true := by
 intro n
 unfold oneV
 cases ka with
 | true =>
  simp only [Instr.sameBits, beq_self_eq_true, Bool.true_and, List.all_eq_true]
  intro p hp
  have : ∀ (l : List Value) (p : Value × Value), p ∈ l.zip l → p.1 ∈ l ∧ p.1 = p.2 := by
   intro l
   induction l with
   | nil => intro p h; cases h
   | cons a l ih =>
    intro p h
    simp only [List.zip_cons_cons, List.mem_cons] at h
    rcases h with rfl | h
    ·exact ⟨by simp, rfl⟩
    ·exact ⟨by simp [(ih p h).1], (ih p h).2⟩
  obtain ⟨h1, h2⟩ := this _ p hp
  rw [← h2]
  exact sameBits_cells n kl x _ h1
 | false =>
  simp only
  split
  ·rename_i v hv
   exact sameBits_cells (n + 1) kl x v (by rw [hv]; simp)
  ·simp [Instr.sameBits]
theorem keyOk {P : Program} {t : TypeId} {kk : TK} (ht : TyOk P t kk) (hk : keyTk kk = true) {kl : List Lf} (hl : kk.lfs = some kl) : KeyOk P t kk.isAgg kl := by
 have hstays : ∀ (x : LT kl) (w : World), (Instr.keyThatStays (oneV kk.isAgg kl x) (oneV kk.isAgg kl x)).run P w = .ok (oneV kk.isAgg kl x) w := by
  intro x w
  have : Instr.sameBits 10000 (oneV kk.isAgg kl x) (oneV kk.isAgg kl x) = true := oneV_bits kk.isAgg x 9999
  unfold Instr.keyThatStays
  rw [if_pos this]
  rfl
 obtain ⟨d, hd, hdk, hq⟩ := ht.desc
 cases kk with
 | int k =>
  cases d <;> simp [descChk] at hdk
  subst hdk
  obtain rfl := lfs_int k hl
  refine ⟨fun x e w => ?_, fun x V g es ms w h => ?_, hstays⟩
  ·show (Instr.checkKey e (9999 + 1) t _).run P w = _
   generalize 9999 = m
   unfold Instr.checkKey
   simp only [Sem.run_bind, run_underlying' hd, Result.andThen_ok]
   rfl
  ·have := findNow_run (.int k) (fun y : Int => Value.int k y) g x (fun y => by
    simp only [Instr.sameNow, if_true]
    exact congrArg some (beq_dec (α := Int) x y)) es ms 0 h
   unfold Instr.findKey
   simp only [Sem.run_bind, run_underlying' hd, Result.andThen_ok]
   rw [show oneV (TK.int k).isAgg [Lf.int k] x = Value.int k x from rfl, this]
   rfl
 | bool =>
  cases d <;> simp [descChk] at hdk
  obtain rfl := lfs_bool hl
  refine ⟨fun x e w => ?_, fun x V g es ms w h => ?_, hstays⟩
  ·show (Instr.checkKey e (9999 + 1) t _).run P w = _
   generalize 9999 = m
   unfold Instr.checkKey
   simp only [Sem.run_bind, run_underlying' hd, Result.andThen_ok]
   rfl
  ·have := findNow_run .bool (fun y : Bool => Value.bool y) g x (fun y => by
    simp only [Instr.sameNow]
    exact congrArg some (beq_dec (α := Bool) x y)) es ms 0 h
   unfold Instr.findKey
   simp only [Sem.run_bind, run_underlying' hd, Result.andThen_ok]
   rw [show oneV TK.bool.isAgg [Lf.bool] x = Value.bool x from rfl, this]
   rfl
 | str =>
  cases d <;> simp [descChk] at hdk
  obtain rfl := lfs_str hl
  refine ⟨fun x e w => ?_, fun x V g es ms w h => ?_, hstays⟩
  ·show (Instr.checkKey e (9999 + 1) t _).run P w = _
   generalize 9999 = m
   unfold Instr.checkKey
   simp only [Sem.run_bind, run_underlying' hd, Result.andThen_ok]
   rfl
  ·have := findNow_run .string (fun y : ByteArray => Value.string y) g x (fun y => by
    simp only [Instr.sameNow]
    exact congrArg some (ba_beq x y)) es ms 0 h
   unfold Instr.findKey
   simp only [Sem.run_bind, run_underlying' hd, Result.andThen_ok]
   rw [show oneV TK.str.isAgg [Lf.str] x = Value.string x from rfl, this]
   rfl
 | struct fs sz z e =>
  simp only [keyTk] at hk
  subst hk
  cases d <;> simp [descChk] at hdk
  rename_i fields
  simp only [eqChk, Bool.and_eq_true, Bool.not_eq_true'] at hq
  obtain ⟨⟨q1, q2⟩, q3⟩ := hq
  have hz : lfsOf z = some kl := by
   unfold TK.lfs at hl
   split at hl
   ·rename_i e; cases hl; exact e
   ·cases hl
  have hzl : z.length = kl.length := by
   have := lfsOf_zero hz
   rw [this, encL_length]
  have hf : P.fieldsOf t = fields := by unfold Program.fieldsOf; rw [hd]
  refine ⟨fun x e w => ?_, fun x V g es ms w h => ?_, hstays⟩
  ·show (Instr.checkKey e (9998 + 1 + 1) t (.agg (denL ν0 (encL kl x)).toArray)).run P w = _
   generalize 9998 = m
   unfold Instr.checkKey
   simp only [Sem.run_bind, run_underlying' hd, Result.andThen_ok]
   rw [← Array.forIn_toList, run_checkFields e m _ w fields.toList z (encL kl x) 0 q3 (by rw [hzl, encL_length]) rfl]
   rfl
  ·unfold Instr.findKey
   simp only [Sem.run_bind, run_underlying' hd, Result.andThen_ok]
   have hask := findAsking_run (P := P) (w := w) t (oneV true kl) g x (fun y => by
    show (Op.equalIn 10000 t (.agg (denL ν0 (encL kl x)).toArray) (.agg (denL ν0 (encL kl y)).toArray)).run P w = _
    rw [run_equalIn_struct w 9999 t _ _ (by rw [hf, hd]) q1, hf]
    obtain ⟨e, he, hxy⟩ := eqLfs_enc hz x y
    have : decide (x = y) = e := by
     cases e with
     | true => exact decide_eq_true (hxy.1 rfl)
     | false => exact decide_eq_false fun h => by have := hxy.2 h; cases this
    rw [this]
    exact run_eqFields ν0 9998 _ _ w fields.toList z _ _ 0 e q3 he rfl rfl) es ms 0 h
   cases ms with
   | nil =>
    have : es = [] := by simpa using h
    subst this
    rfl
   | cons m ms =>
    have : Instr.findNow (.struct fields) (oneV (TK.struct fs sz z true).isAgg kl x) (m :: ms) 0 = none := by
     unfold Instr.findNow Instr.sameNow
     rfl
    rw [this]
    exact hask
 | _ => cases hk
theorem zero_one {k : TK} {ls : List Lf} (h : k.lfs = some ls) {y : Value} (hz : ∀ ν, den ν k.zero = y) : y = oneV k.isAgg ls (dfltL ls) := by
 have h1 := lfs_zero h
 have h2 := lfs_ne h
 rw [← hz ν0]
 have hc := cellsV_any ls (dfltL ls) ν0
 cases k with
 | struct fs n z e =>
  have : z = encL ls (dfltL ls) := h1
  simp only [TK.zero, TK.isAgg, oneV, den]
  rw [this]
 | int k => cases h; rfl
 | bool => cases h; rfl
 | str => cases h; rfl
 | _ => cases h
theorem mapOk_spec {P : Program} {tab : Tab} (hT : tabChk P tab = true) {t : TypeId} {ka va : Bool} {kl vl : List Lf} (h : mapOk tab t ka va kl vl = true) :
  ∃ k e, P.underlying t = some (.map k e) ∧ KeyOk P k ka kl ∧ ∀ w, (zeroValue e).run P w = .ok (oneV va vl (dfltL vl)) w := by
 unfold mapOk at h
 split at h
 ·rename_i k e ht
  split at h
  ·rename_i kk ek hk he
   simp only [Bool.and_eq_true] at h
   obtain ⟨⟨⟨h1, h2⟩, h3⟩, h4⟩ := h
   split at h4
   ·rename_i l m hl hm
    simp only [Bool.and_eq_true, decide_eq_true_eq] at h4
    obtain ⟨rfl, rfl⟩ := h4
    obtain rfl := sameB_eq h2
    obtain rfl := sameB_eq h3
    obtain ⟨d, hd, hdk, _⟩ := (tyOk hT ht).desc
    cases d <;> simp [descChk] at hdk
    obtain ⟨rfl, rfl⟩ := hdk
    refine ⟨_, _, hd, keyOk (tyOk hT hk) h1 hl, fun w => ?_⟩
    obtain ⟨i, hi, _, _, z, hz, hzz⟩ := (tyOk hT he).info
    rw [run_zeroValue' hi hz, zero_one hm hzz]
   ·cases h4
  ·cases h
 ·cases h
section
variable {P : Program} {tab : Tab} {t : TypeId} {ka va : Bool} {kl vl : List Lf} {w : World} {b : Nat} {es : List (LT kl × LT vl)}
theorem lookup_run (hT : tabChk P tab = true) (h : mapOk tab t ka va kl vl = true) (hm : MapSat w b ka va kl vl es) (key : LT kl) (ok : Bool) :
  (Instr.lookup t (.map (some b)) (oneV ka kl key) ok).run P w = .ok (match ok with
   | true => .tuple #[oneV va vl (mget (dfltL vl) es key), .bool (mhas es key)]
   | false => oneV va vl (mget (dfltL vl) es key)) w := by
 obtain ⟨k, e, hu, hk, hz⟩ := mapOk_spec hT h
 obtain ⟨ms, clock, hb, hms, _⟩ := hm
 unfold Instr.lookup
 have hf := hk.find key (oneV va vl) es ms.toList w hms
 simp only [Sem.run_bind, run_underlying' hu, Result.andThen_ok, MapKept.run_getObj_map hb, Sem.run_pure, hk.chk, hf]
 rw [mfind_get (dfltL vl) key es 0, mfind_has key es 0]
 cases mfind key es 0 with
 | none =>
  simp only [Option.map_none, Sem.run_bind, hz, Result.andThen_ok, Sem.run_pure]
  cases ok <;> rfl
 | some p =>
  simp only [Option.map_some, Sem.run_pure, Result.andThen_ok]
  cases ok <;> rfl
theorem modify_mid {α : Type} (f : α → α) (x : α) (r : List α) : ∀ l : List α, (l ++ x :: r).modify l.length f = l ++ f x :: r
 | [] => by simp
 | y :: l => by simp [modify_mid f x r l]
theorem erase_mid {α : Type} (x : α) (r : List α) : ∀ l : List α, (l ++ x :: r).eraseIdx l.length = l ++ r
 | [] => by simp
 | y :: l => by simp [erase_mid x r l]
theorem entry_of {ms : Array MapEntry} {es a r : List (LT kl × LT vl)} {key : LT kl} {v0 : LT vl} (hms : ms.toList.map (fun e => (e.key, e.val)) = es.map fun e => (oneV ka kl e.1, oneV va vl e.2)) (he : es = a ++ (key, v0) :: r) :
  ∃ ma m mr, ms.toList = ma ++ m :: mr ∧ ma.length = a.length ∧ m.key = oneV ka kl key ∧ ma.map (fun e => (e.key, e.val)) = a.map (fun e => (oneV ka kl e.1, oneV va vl e.2)) ∧ mr.map (fun e => (e.key, e.val)) = r.map (fun e => (oneV ka kl e.1, oneV va vl e.2)) := by
 subst he
 rw [List.map_append, List.map_cons] at hms
 obtain ⟨ma, l2, h1, h2, h3⟩ := List.map_eq_append_iff.1 hms
 obtain ⟨m, mr, h4, h5, h6⟩ := List.map_eq_cons_iff.1 h3
 simp only [Prod.mk.injEq] at h5
 exact ⟨ma, m, mr, by rw [h1, h4], by have := congrArg List.length h2; simpa using this, h5.1, h2, h6⟩
theorem update_run (hT : tabChk P tab = true) (h : mapOk tab t ka va kl vl = true) (hm : MapSat w b ka va kl vl es) (key : LT kl) (val : LT vl) :
  ∃ o, (Instr.mapUpdate t (.map (some b)) (oneV ka kl key) (oneV va vl val)).run P w = .ok () { w with heap := w.heap.setIfInBounds b o } ∧ MapSat { w with heap := w.heap.setIfInBounds b o } b ka va kl vl (mput es key val) := by
 obtain ⟨k, e, hu, hk, hz⟩ := mapOk_spec hT h
 obtain ⟨ms, clock, hb, hms, hn, hc, hkn⟩ := hm
 have hlt : b < w.heap.size := (Array.getElem?_eq_some_iff.1 hb).1
 have hat : ∀ o, (w.heap.setIfInBounds b o)[b]? = some o := fun o => by simp [hlt]
 have hf := hk.find key (oneV va vl) es ms.toList w hms
 have hsp := mfind_spec key es 0
 unfold Instr.mapUpdate
 cases hfd : mfind key es 0 with
 | none =>
  rw [hfd] at hf hsp
  obtain ⟨h1, h2, h3⟩ := hsp
  refine ⟨.map (ms.push { key := oneV ka kl key, val := oneV va vl val, born := clock }) (clock + 1), ?_, _, _, hat _, ?_, ?_, ?_, ?_⟩
  ·simp only [Sem.run_bind, run_underlying' hu, Result.andThen_ok, MapKept.run_getObj_map hb, hk.chk, hf, Option.map_none, MapKept.run_setObj_map _ hb]
  ·rw [h2]; simp [hms]
  ·simp only [Array.toList_push, List.map_append, List.map_cons, List.map_nil]
   rw [List.nodup_append]
   refine ⟨hn, by simp, fun x hx y hy => ?_⟩
   simp at hy
   subst hy
   obtain ⟨e, he, rfl⟩ := List.mem_map.1 hx
   have := hc e he
   omega
  ·intro e he
   simp only [Array.toList_push, List.mem_append, List.mem_singleton] at he
   rcases he with he | rfl
   ·have := hc e he; omega
   ·simp
  ·rw [h2]
   simp only [List.map_append, List.map_cons, List.map_nil]
   rw [List.nodup_append]
   refine ⟨hkn, by simp, fun x hx y hy => ?_⟩
   simp at hy
   subst hy
   obtain ⟨e, he, rfl⟩ := List.mem_map.1 hx
   exact h1 e he
 | some p =>
  rw [hfd] at hf hsp
  obtain ⟨a, r, h1, h2, h3, h4⟩ := hsp
  obtain ⟨ma, m, mr, e1, e2, e3, e4, e5⟩ := entry_of hms h1
  have hi : p.1 = ma.length := by rw [h2, e2]; omega
  have hget : ms[p.1]? = some m := by rw [← Array.getElem?_toList, e1, hi]; simp
  refine ⟨.map (ms.modify p.1 fun e => { e with key := oneV ka kl key, val := oneV va vl val }) clock, ?_, _, _, hat _, ?_, ?_, ?_, ?_⟩
  ·simp only [Sem.run_bind, run_underlying' hu, Result.andThen_ok, MapKept.run_getObj_map hb, hk.chk, hf, Option.map_some, hget, Option.getD_some, e3, hk.stays, MapKept.run_setObj_map _ hb]
  ·rw [h3, Array.toList_modify, e1, hi, modify_mid]
   simp [e4, e5]
  ·rw [Array.toList_modify, e1, hi, modify_mid]
   rw [e1] at hn
   simpa using hn
  ·rw [Array.toList_modify, e1, hi, modify_mid]
   rw [e1] at hc
   intro x hx
   rcases List.mem_append.1 hx with hx | hx
   ·exact hc x (by simp [hx])
   ·rcases List.mem_cons.1 hx with rfl | hx
    ·exact hc m (by simp)
    ·exact hc x (by simp [hx])
  ·rw [h3]
   rw [h1] at hkn
   simpa using hkn
theorem delete_run (hT : tabChk P tab = true) (h : mapOk tab t ka va kl vl = true) (hm : MapSat w b ka va kl vl es) (key : LT kl) (t' ty : TypeId) :
  ∃ o, (Builtin.delete_ #[t, t'] ty #[.map (some b), oneV ka kl key]).run P w = .ok (.tuple #[]) { w with heap := w.heap.setIfInBounds b o } ∧ MapSat { w with heap := w.heap.setIfInBounds b o } b ka va kl vl (mdel es key) := by
 obtain ⟨k, e, hu, hk, hz⟩ := mapOk_spec hT h
 obtain ⟨ms, clock, hb, hms, hn, hc, hkn⟩ := hm
 have hlt : b < w.heap.size := (Array.getElem?_eq_some_iff.1 hb).1
 have hat : ∀ o, (w.heap.setIfInBounds b o)[b]? = some o := fun o => by simp [hlt]
 have hf := hk.find key (oneV va vl) es ms.toList w hms
 have hsp := mfind_spec key es 0
 unfold Builtin.delete_
 cases hfd : mfind key es 0 with
 | none =>
  rw [hfd] at hf hsp
  obtain ⟨h1, h2, h3⟩ := hsp
  refine ⟨.map ms clock, ?_, _, _, hat _, ?_, hn, hc, ?_⟩
  ·simp [run_underlying' hu, MapKept.run_getObj_map hb, hk.chk, hf, MapKept.run_setObj_map _ hb]
  ·rw [h3]; exact hms
  ·rw [h3]; exact hkn
 | some p =>
  rw [hfd] at hf hsp
  obtain ⟨a, r, h1, h2, h3, h4⟩ := hsp
  obtain ⟨ma, m, mr, e1, e2, e3, e4, e5⟩ := entry_of hms h1
  have hi : p.1 = ma.length := by rw [h2, e2]; omega
  have her : (ms.eraseIdxIfInBounds p.1).toList = ma ++ mr := by
   rw [Array.toList_eraseIdxIfInBounds, e1, hi, erase_mid]
  refine ⟨.map (ms.eraseIdxIfInBounds p.1) clock, ?_, _, _, hat _, ?_, ?_, ?_, ?_⟩
  ·simp [run_underlying' hu, MapKept.run_getObj_map hb, hk.chk, hf, MapKept.run_setObj_map _ hb]
  ·rw [h4, her]
   simp [e4, e5]
  ·rw [her]
   rw [e1] at hn
   simp only [List.map_append, List.map_cons] at hn ⊢
   exact List.Nodup.sublist (List.Sublist.append (List.Sublist.refl _) (List.sublist_cons_self _ _)) hn
  ·rw [her]
   rw [e1] at hc
   intro x hx
   rcases List.mem_append.1 hx with hx | hx
   ·exact hc x (by simp [hx])
   ·exact hc x (by simp [hx])
  ·rw [h4]
   rw [h1] at hkn
   simp only [List.map_append, List.map_cons] at hkn ⊢
   exact List.Nodup.sublist (List.Sublist.append (List.Sublist.refl _) (List.sublist_cons_self _ _)) hkn
end
theorem encL_names : ∀ (ls : List Lf) (x : LT ls), namesL (encL ls x) = []
 | [], _ => rfl
 | [l], x => by cases l <;> rfl
 | l :: m :: ls, x => by
  have h1 : namesOf (l.enc x.1) = [] := by cases l <;> rfl
  show namesOf (l.enc x.1) ++ namesL (encL (m :: ls) x.2) = []
  rw [h1, encL_names (m :: ls) x.2]; rfl
theorem encO_names (agg : Bool) (ls : List Lf) (x : LT ls) : namesOf (encO agg ls x) = [] := by
 have h := encL_names ls x
 unfold encO
 cases agg with
 | true => simpa only [namesOf] using h
 | false =>
  simp only
  revert h
  generalize encL ls x = l
  match l with
  | [] => intro _; rfl
  | [v] => intro h; simpa [namesL] using h
  | _ :: _ :: _ => intro _; rfl
theorem mpOf_spec {tab : Tab} {t : TypeId} {H : Heap} {v : SV} {m : Mp} (h : mpOf tab t H v = some m) : v = .mp m.j ∧ lkp m.j H = some (.map t m.ka m.va m.kl m.vl m.es) ∧ mapOk tab t m.ka m.va m.kl m.vl = true := by
 unfold mpOf at h
 split at h
 ·rename_i j
  split at h
  ·rename_i t' ka va kl vl es hj
   by_cases hc : (Nat.beq t t' && mapOk tab t ka va kl vl) = true
   ·rw [hc, cond_true] at h
    cases h
    rw [Bool.and_eq_true] at hc
    obtain rfl := Nat.eq_of_beq_eq_true hc.1
    exact ⟨rfl, hj, hc.2⟩
   ·rw [Bool.not_eq_true] at hc; rw [hc] at h; cases h
  ·cases h
 ·cases h
theorem MapSat.congr {w w' : World} {b : Nat} {ka va : Bool} {kl vl : List Lf} {es : List (LT kl × LT vl)} (h : MapSat w b ka va kl vl es) (hw : w'.heap[b]? = w.heap[b]?) : MapSat w' b ka va kl vl es := by
 obtain ⟨ms, clock, h1, h2⟩ := h
 exact ⟨ms, clock, by rw [hw]; exact h1, h2⟩
theorem RelW.mapAt {S : Bl} {w0 : World} {ν : Nat → Value} {st : St} {w : World} (h : RelW S w0 ν st w) {tab : Tab} {t : TypeId} {v : SV} {m : Mp} (hm : mpOf tab t st.H v = some m) :
  ∃ b, ν m.j = .map (some b) ∧ den ν v = .map (some b) ∧ b < w.heap.size ∧ MapSat w b m.ka m.va m.kl m.vl m.es := by
 obtain ⟨rfl, h2, _⟩ := mpOf_spec hm
 have hs := h.sat _ _ h2
 obtain ⟨b, hb, hc⟩ := hs
 refine ⟨b, hb, by simp only [den, hb]; rfl, ?_, hc⟩
 obtain ⟨ms, clock, h1, _⟩ := hc
 exact (Array.getElem?_eq_some_iff.1 h1).1
end Go.Aq
end
