/- An evaluator of the translated code over names of memory, by which a Go function comes to a plain Lean function. -/
import Derived.Calls
import Derived.KernelRfl
namespace Go.Aq

/-- A choice that the kernel makes at once. -/
abbrev ifb {α : Type _} (b : Bool) (x y : α) : α := match b with
  | true => x
  | false => y
theorem ifb_true {α : Type _} (x y : α) : ifb true x y = x := rfl
theorem ifb_false {α : Type _} (x y : α) : ifb false x y = y := rfl

/-! ### Plain values -/
inductive Lf where
  | int (k : IntKind)
  | bool
  | str
  deriving DecidableEq
def Lf.T : Lf → Type
  | .int _ => Int
  | .bool => Bool
  | .str => ByteArray
def Lf.dflt : (l : Lf) → l.T
  | .int _ => (0 : Int)
  | .bool => false
  | .str => ByteArray.empty
/-- What some cells hold: one thing, or things one behind the other. -/
def LT : List Lf → Type
  | [] => Unit
  | [l] => l.T
  | l :: m :: ls => l.T × LT (m :: ls)
def dfltL : (ls : List Lf) → LT ls
  | [] => ()
  | [l] => l.dflt
  | l :: m :: ls => (l.dflt, dfltL (m :: ls))

/-- Values as the evaluator sees them: places in memory by name. 'ept': a place in an element of a row; 'osl': a row as it is; 'sl': a part of one, cut so often from its beginning; its length. 'csl': so many cells of a place, as a slice. -/
inductive SV where
  | int (k : IntKind) (n : Int)
  | bool (b : Bool)
  | str (s : ByteArray)
  | ptr (j off : Nat)
  | ept (j sz : Nat) (i : Int) (off : Nat)
  | osl (j : Nat)
  | mp (j : Nat)
  | sl (j sz : Nat) (ch : List Int) (n : Int)
  | csl (j n : Nat)
  | clo (f : FuncId) (caps : List SV)
  | iface (t : TypeId) (v : SV)
  | agg (cs : List SV)
  | tup (vs : List SV)
  | nilp | nilsl | nilf | nili | nilm

def Lf.enc : (l : Lf) → l.T → SV
  | .int k, n => .int k n
  | .bool, b => .bool b
  | .str, s => .str s
def encL : (ls : List Lf) → LT ls → List SV
  | [], _ => []
  | [l], x => [l.enc x]
  | l :: m :: ls, x => l.enc x.1 :: encL (m :: ls) x.2
def Lf.dec : (l : Lf) → SV → Option l.T
  | .int k, .int k' n => bif decide (k = k') then some n else none
  | .bool, .bool b => some b
  | .str, .str s => some s
  | _, _ => none
def decL : (ls : List Lf) → List SV → Option (LT ls)
  | [], [] => some ()
  | [l], [v] => l.dec v
  | l :: m :: ls, v :: vs => match l.dec v with
    | some x => match decL (m :: ls) vs with
      | some y => some (x, y)
      | none => none
    | none => none
  | _, _ => none

/-- A place: that of an object, or none. -/
inductive Pin where
  | ref (k : Nat)
  | nil
mutual
inductive Sh where
  | leaf (l : Lf)
  | row (own : Bool) (t : TypeId) (ls : List Lf)
  | map (t : TypeId) (ka va : Bool) (kl vl : List Lf)
  | tab (t : TypeId) (f : Shs)
  | agg (f : Shs)
/-- Things one behind the other; places of objects between them. -/
inductive Shs where
  | one (s : Sh) (ps : List Pin)
  | cons (s : Sh) (r : Shs)
  | pin (p : Pin) (r : Shs)
  | pins (ps : List Pin)
end
def Pin.beq : Pin → Pin → Bool
  | .ref k, .ref l => Nat.beq k l
  | .nil, .nil => true
  | _, _ => false
def Pin.beqs : List Pin → List Pin → Bool
  | [], [] => true
  | p :: ps, q :: qs => Pin.beq p q && Pin.beqs ps qs
  | _, _ => false
def beqB : Bool → Bool → Bool
  | true, true => true
  | false, false => true
  | _, _ => false
mutual
def Sh.beq : Sh → Sh → Bool
  | .leaf l, .leaf m => decide (l = m)
  | .row o t ls, .row o' t' ls' => beqB o o' && Nat.beq t t' && decide (ls = ls')
  | .map t ka va kl vl, .map t' ka' va' kl' vl' => Nat.beq t t' && beqB ka ka' && beqB va va' && decide (kl = kl') && decide (vl = vl')
  | .tab t f, .tab t' f' => Nat.beq t t' && f.beq f'
  | .agg f, .agg f' => f.beq f'
  | _, _ => false
def Shs.beq : Shs → Shs → Bool
  | .one s ps, .one s' ps' => s.beq s' && Pin.beqs ps ps'
  | .cons s r, .cons s' r' => s.beq s' && r.beq r'
  | .pin p r, .pin p' r' => p.beq p' && r.beq r'
  | .pins ps, .pins ps' => Pin.beqs ps ps'
  | _, _ => false
end
theorem Pin.beq_eq : ∀ {p q : Pin}, Pin.beq p q = true → p = q
  | .ref k, .ref l, h => by rw [Nat.eq_of_beq_eq_true h]
  | .nil, .nil, _ => rfl
  | .ref _, .nil, h => by cases h
  | .nil, .ref _, h => by cases h
theorem Pin.beqs_eq : ∀ {p q : List Pin}, Pin.beqs p q = true → p = q
  | [], [], _ => rfl
  | p :: ps, q :: qs, h => by
    simp only [Pin.beqs, Bool.and_eq_true] at h
    rw [Pin.beq_eq h.1, Pin.beqs_eq h.2]
  | [], _ :: _, h => by cases h
  | _ :: _, [], h => by cases h
theorem beqB_eq {a b : Bool} (h : beqB a b = true) : a = b := by cases a <;> cases b <;> simp_all [beqB]
mutual
theorem Sh.beq_eq : ∀ {a b : Sh}, Sh.beq a b = true → a = b
  | .leaf l, .leaf m, h => by rw [of_decide_eq_true (show decide (l = m) = true from h)]
  | .row o t ls, .row o' t' ls', h => by
    simp only [Sh.beq, Bool.and_eq_true] at h
    rw [beqB_eq h.1.1, Nat.eq_of_beq_eq_true h.1.2, of_decide_eq_true h.2]
  | .map t ka va kl vl, .map t' ka' va' kl' vl', h => by
    simp only [Sh.beq, Bool.and_eq_true] at h
    rw [Nat.eq_of_beq_eq_true h.1.1.1.1, beqB_eq h.1.1.1.2, beqB_eq h.1.1.2, of_decide_eq_true h.1.2, of_decide_eq_true h.2]
  | .tab t f, .tab t' f', h => by
    simp only [Sh.beq, Bool.and_eq_true] at h
    rw [Nat.eq_of_beq_eq_true h.1, Shs.beq_eq h.2]
  | .agg f, .agg f', h => by
    simp only [Sh.beq] at h
    rw [Shs.beq_eq h]
  | .leaf _, .row _ _ _, h | .leaf _, .map _ _ _ _ _, h | .leaf _, .tab _ _, h | .leaf _, .agg _, h | .row _ _ _, .leaf _, h | .row _ _ _, .map _ _ _ _ _, h | .row _ _ _, .tab _ _, h | .row _ _ _, .agg _, h
  | .map _ _ _ _ _, .leaf _, h | .map _ _ _ _ _, .row _ _ _, h | .map _ _ _ _ _, .tab _ _, h | .map _ _ _ _ _, .agg _, h | .tab _ _, .leaf _, h | .tab _ _, .row _ _ _, h | .tab _ _, .map _ _ _ _ _, h | .tab _ _, .agg _, h
  | .agg _, .leaf _, h | .agg _, .row _ _ _, h | .agg _, .map _ _ _ _ _, h | .agg _, .tab _ _, h => by simp [Sh.beq] at h
theorem Shs.beq_eq : ∀ {a b : Shs}, Shs.beq a b = true → a = b
  | .one s ps, .one s' ps', h => by
    simp only [Shs.beq, Bool.and_eq_true] at h
    rw [Sh.beq_eq h.1, Pin.beqs_eq h.2]
  | .cons s r, .cons s' r', h => by
    simp only [Shs.beq, Bool.and_eq_true] at h
    rw [Sh.beq_eq h.1, Shs.beq_eq h.2]
  | .pin p r, .pin p' r', h => by
    simp only [Shs.beq, Bool.and_eq_true] at h
    rw [Pin.beq_eq h.1, Shs.beq_eq h.2]
  | .pins ps, .pins ps', h => by
    simp only [Shs.beq] at h
    rw [Pin.beqs_eq h]
  | .one _ _, .cons _ _, h | .one _ _, .pin _ _, h | .one _ _, .pins _, h | .cons _ _, .one _ _, h | .cons _ _, .pin _ _, h | .cons _ _, .pins _, h
  | .pin _ _, .one _ _, h | .pin _ _, .cons _ _, h | .pin _ _, .pins _, h | .pins _, .one _ _, h | .pins _, .cons _ _, h | .pins _, .pin _ _, h => by simp [Shs.beq] at h
end
mutual
def Sh.T : Sh → Type
  | .leaf l => l.T
  | .row _ _ ls => List (LT ls)
  | .map _ _ _ kl vl => List (LT kl × LT vl)
  | .tab _ f => List f.T
  | .agg f => f.T
def Shs.T : Shs → Type
  | .one s _ => s.T
  | .cons s r => s.T × r.T
  | .pin _ r => r.T
  | .pins _ => Unit
end
mutual
/-- How many cells? -/
def Sh.sz : Sh → Nat
  | .leaf _ => 1
  | .row _ _ _ => 1
  | .map _ _ _ _ _ => 1
  | .tab _ _ => 1
  | .agg f => f.sz
def Shs.sz : Shs → Nat
  | .one s ps => s.sz + ps.length
  | .cons s r => s.sz + r.sz
  | .pin _ r => Nat.succ r.sz
  | .pins ps => ps.length
end
/-- What is known of a named place: cells; a row of plain things ('own': it may be written). -/
inductive HO where
  | cells (T : TypeId) (vs : List SV)
  | row (own : Bool) (t : TypeId) (ls : List Lf) (xs : List (LT ls))
  | map (t : TypeId) (ka va : Bool) (kl vl : List Lf) (es : List (LT kl × LT vl))
  | tab (t : TypeId) (f : Shs) (xs : List f.T)

/-! ### Maps: pairs, in the order in which they came -/
instance decLT : (ls : List Lf) → DecidableEq (LT ls)
  | [] => inferInstanceAs (DecidableEq Unit)
  | [.int _] => inferInstanceAs (DecidableEq Int)
  | [.bool] => inferInstanceAs (DecidableEq Bool)
  | [.str] => inferInstanceAs (DecidableEq ByteArray)
  | .int _ :: m :: ls => @instDecidableEqProd Int (LT (m :: ls)) _ (decLT (m :: ls))
  | .bool :: m :: ls => @instDecidableEqProd Bool (LT (m :: ls)) _ (decLT (m :: ls))
  | .str :: m :: ls => @instDecidableEqProd ByteArray (LT (m :: ls)) _ (decLT (m :: ls))
section
variable {K V : Type} [DecidableEq K]
def mhas (es : List (K × V)) (k : K) : Bool := es.any fun e => decide (e.1 = k)
def mget (d : V) (es : List (K × V)) (k : K) : V := match es.find? (fun e => decide (e.1 = k)) with
  | some e => e.2
  | none => d
def mput : List (K × V) → K → V → List (K × V)
  | [], k, v => [(k, v)]
  | e :: es, k, v => if e.1 = k then (k, v) :: es else e :: mput es k v
def mdel : List (K × V) → K → List (K × V)
  | [], _ => []
  | e :: es, k => if e.1 = k then es else e :: mdel es k
end

/-- A thing of leaves, as one value. -/
def encO (agg : Bool) (ls : List Lf) (x : LT ls) : SV := match agg with
  | true => .agg (encL ls x)
  | false => match encL ls x with
    | [v] => v
    | _ => .agg []
def decO (agg : Bool) (ls : List Lf) : SV → Option (LT ls)
  | .agg cs => match agg with
    | true => decL ls cs
    | false => none
  | v => match agg with
    | true => none
    | false => decL ls [v]
def sameB : Bool → Bool → Bool
  | true, true => true
  | false, false => true
  | _, _ => false
theorem sameB_eq {a b : Bool} (h : sameB a b = true) : a = b := by cases a <;> cases b <;> simp_all [sameB]

/-- What code panics with: a value of a type, in cells that name no place. -/
inductive GL where
  | int (k : IntKind) (n : Int)
  | bool (b : Bool)
  | str (s : ByteArray)
structure PV where
  t : TypeId
  agg : Bool
  cs : List GL
def ofGL : GL → SV
  | .int k n => .int k n
  | .bool b => .bool b
  | .str s => .str s
def ofPV (p : PV) : SV := .iface p.t (match p.agg, p.cs with | false, [c] => ofGL c | _, cs => .agg (cs.map ofGL))
def toGL : SV → Option GL
  | .int k n => some (.int k n)
  | .bool b => some (.bool b)
  | .str s => some (.str s)
  | _ => none
def toGLs : List SV → Option (List GL)
  | [] => some []
  | v :: vs => match toGL v with
    | some g => match toGLs vs with
      | some gs => some (g :: gs)
      | none => none
    | none => none
def toPV : SV → Option PV
  | .iface t (.agg cs) => match toGLs cs with | some gs => some ⟨t, true, gs⟩ | none => none
  | .iface t v => match toGL v with | some g => some ⟨t, false, [g]⟩ | none => none
  | _ => none

/-- What a piece of code comes to. -/
inductive O (T : Type) where
  | ok (t : T)
  | pan (e : PV)
  | no

theorem O.both_ex : ∃ B : (α β : Type) → O α → (α → O β) → (PV → O β) → O β, ∀ α β m f g, B α β m f g = (match m with | .ok a => f a | .pan e => g e | .no => .no) := ⟨_, fun _ _ _ _ _ => rfl⟩
/-- One thing behind another. (The kernel can't look into this, nor into the next two: it compares what stands in them.) -/
noncomputable def O.both {α β : Type} (m : O α) (f : α → O β) (g : PV → O β) : O β := Classical.choose O.both_ex α β m f g
theorem O.both_eq {α β : Type} (m : O α) (f : α → O β) (g : PV → O β) : O.both m f g = (match m with | .ok a => f a | .pan e => g e | .no => .no) := Classical.choose_spec O.both_ex α β m f g
noncomputable def O.bind {α β : Type} (m : O α) (f : α → O β) : O β := O.both m f fun _ => .no
theorem O.cond_ex : ∃ B : (α : Type) → Bool → O α → O α → O α, ∀ α b x y, B α b x y = (match b with | true => x | false => y) := ⟨_, fun _ _ _ _ => rfl⟩
/-- A test that the code makes. -/
noncomputable def O.cond {α : Type} (b : Bool) (x y : O α) : O α := Classical.choose O.cond_ex α b x y
theorem O.cond_eq {α : Type} (b : Bool) (x y : O α) : O.cond b x y = (match b with | true => x | false => y) := Classical.choose_spec O.cond_ex α b x y
theorem O.chk_ex : ∃ B : (α : Type) → Bool → O α → O α, ∀ α b x, B α b x = (match b with | true => x | false => .no) := ⟨_, fun _ _ _ => rfl⟩
/-- A test without which the evaluator doesn't go on. -/
noncomputable def O.chk {α : Type} (b : Bool) (x : O α) : O α := Classical.choose O.chk_ex α b x
theorem O.chk_eq {α : Type} (b : Bool) (x : O α) : O.chk b x = (match b with | true => x | false => .no) := Classical.choose_spec O.chk_ex α b x
theorem O.same_ex : ∃ B : (α : Type) → O α → O α → O α, ∀ α x y, B α x y = @ite _ (x = y) (Classical.propDecidable _) x .no := ⟨_, fun _ _ _ => rfl⟩
/-- What comes of two orders, if it is the same. -/
noncomputable def O.same {α : Type} (x y : O α) : O α := Classical.choose O.same_ex α x y
theorem O.same_eq {α : Type} (x y : O α) : O.same x y = @ite _ (x = y) (Classical.propDecidable _) x .no := Classical.choose_spec O.same_ex α x y
noncomputable def O.twice {α : Type} (x : O α) : O α := O.same x x
theorem O.twice_eq {α : Type} (x : O α) : O.twice x = x := (O.same_eq x x).trans (if_pos rfl)
theorem O.same_ne {α : Type} {x y res : O α} (h : O.same x y = res) (hne : res ≠ .no) : x = res ∧ y = res := by
  rw [O.same_eq] at h
  split at h
  · rename_i e; exact ⟨h, e ▸ h⟩
  · exact absurd h.symm hne
/-- A test that is settled, if its operand is a constant. -/
noncomputable def O.chkC {α : Type} (c b : Bool) (x : O α) : O α := match c with
  | true => (match b with | true => x | false => .no)
  | false => O.chk b x
/-- A test; a settled one is gone through at once. -/
noncomputable def O.test {α : Type} (f b : Bool) (x y : O α) : O α := match f with
  | true => (match b with | true => x | false => y)
  | false => O.cond b x y
theorem O.test_eq {α : Type} (f b : Bool) (x y : O α) : O.test f b x y = (match b with | true => x | false => y) := by
  cases f with
  | true => rfl
  | false => exact O.cond_eq b x y

abbrev Heap := List (Nat × HO)
/-- What is known of memory: the first free name; may a known place have been written? the places. -/
structure St where
  nx : Nat
  dirty : Bool
  H : Heap
def lkp {α : Type _} (t : Nat) : List (Nat × α) → Option α
  | [] => none
  | (s, v) :: r => bif Nat.beq s t then some v else lkp t r
def del {α : Type _} (t : Nat) : List (Nat × α) → List (Nat × α)
  | [] => []
  | (s, v) :: r => bif Nat.beq s t then del t r else (s, v) :: del t r
def St.put (st : St) (j : Nat) (o : HO) : St := ⟨st.nx, true, (j, o) :: st.H⟩
def St.add (st : St) (o : HO) : St := ⟨Nat.succ st.nx, st.dirty, (st.nx, o) :: st.H⟩
def nth : List Nat → Nat → Nat
  | [], _ => 0
  | j :: _, 0 => j
  | _ :: r, k + 1 => nth r k
def pinV (γ : List Nat) : Pin → SV
  | .ref k => .ptr (nth γ k) 0
  | .nil => .nilp
mutual
/-- The cells of a thing, and its rows under new names. -/
def giveS (γ : List Nat) : (s : Sh) → s.T → Nat → List SV × List HO
  | .leaf l, x, _ => ([l.enc x], [])
  | .row own t ls, xs, nx => ([.osl nx], [.row own t ls xs])
  | .map t ka va kl vl, es, nx => ([.mp nx], [.map t ka va kl vl es])
  | .tab t f, xs, nx => ([.osl nx], [.tab t f xs])
  | .agg f, x, nx => giveF γ f x nx
def giveF (γ : List Nat) : (f : Shs) → f.T → Nat → List SV × List HO
  | .one s ps, x, nx => ((giveS γ s x nx).1 ++ ps.map (pinV γ), (giveS γ s x nx).2)
  | .cons s r, x, nx => ((giveS γ s x.1 nx).1 ++ (giveF γ r x.2 (nx + (giveS γ s x.1 nx).2.length)).1, (giveS γ s x.1 nx).2 ++ (giveF γ r x.2 (nx + (giveS γ s x.1 nx).2.length)).2)
  | .pin p r, x, nx => (pinV γ p :: (giveF γ r x nx).1, (giveF γ r x nx).2)
  | .pins ps, _, _ => (ps.map (pinV γ), [])
end
def St.adds (st : St) : List HO → St
  | [] => st
  | o :: os => (st.add o).adds os

mutual
def dfltS : (s : Sh) → s.T
  | .leaf l => l.dflt
  | .row _ _ _ => []
  | .map _ _ _ _ _ => []
  | .tab _ _ => []
  | .agg f => dfltF f
def dfltF : (f : Shs) → f.T
  | .one s _ => dfltS s
  | .cons s r => (dfltS s, dfltF r)
  | .pin _ r => dfltF r
  | .pins _ => ()
end
mutual
/-- A thing as it stands in a table: leaves, and rows that are only read. -/
def Sh.tabOk : Sh → Bool
  | .leaf _ => true
  | .row own _ ls => !own && !ls.isEmpty
  | .map _ _ _ _ _ => false
  | .tab _ _ => false
  | .agg f => f.tabOk
def Shs.tabOk : Shs → Bool
  | .one s ps => s.tabOk && ps.isEmpty
  | .cons s r => s.tabOk && r.tabOk
  | .pin _ _ => false
  | .pins _ => false
end
/-- A row, grown: its old name is gone. -/
def St.grow (st : St) (j : Nat) (o : HO) : St := ⟨Nat.succ st.nx, true, (st.nx, o) :: del j st.H⟩
def St.wash (st : St) (d : Bool) : St := ⟨st.nx, d, st.H⟩

inductive Ex where
  | normal
  | exit (id : Nat)
  | ret
  | panic (e : PV)

abbrev Env := List (Nat × SV)
/-- A call's own: its slots, its deferred calls, the first name that is not its caller's; the slots whose value is settled. -/
structure Fr where
  env : Env
  dfs : List SV
  base : Nat
  sl : List Nat

/-- What is known of a type. -/
inductive TK where
  | int (k : IntKind)
  | bool
  | str
  | ptr
  | slice (e : TypeId)
  | func
  | iface
  | map (k e : TypeId)
  | struct (fs : List (Nat × Nat × Bool)) (size : Nat) (zero : List SV) (eq : Bool)     -- each field: offset, size, is it an aggregate? 'eq': fields of one plain cell each

abbrev Tab := List (Nat × TK)

def TK.zero : TK → SV
  | .int k => .int k 0
  | .bool => .bool false
  | .str => .str ByteArray.empty
  | .ptr => .nilp
  | .slice _ => .nilsl
  | .map _ _ => .nilm
  | .func => .nilf
  | .iface => .nili
  | .struct _ _ z _ => .agg z
def TK.isAgg : TK → Bool
  | .struct _ _ _ _ => true
  | _ => false
def TK.size : TK → Nat
  | .struct _ n _ _ => n
  | _ => 1
def SV.cellsOf : SV → List SV
  | .agg cs => cs
  | v => [v]
/-- The make of a nought. -/
def lfOf : SV → Option Lf
  | .int k (.ofNat 0) => some (.int k)
  | .bool false => some .bool
  | .str ⟨⟨[]⟩⟩ => some .str
  | _ => none
def lfsOf : List SV → Option (List Lf)
  | [] => some []
  | v :: vs => match lfOf v with
    | some l => match lfsOf vs with
      | some ls => some (l :: ls)
      | none => none
    | none => none
/-- The plain things of which an element of a type is made. -/
def TK.lfs (k : TK) : Option (List Lf) := match lfsOf k.zero.cellsOf with
  | some (l :: ls) => some (l :: ls)
  | _ => none
/-- What a map's keys may be. -/
def keyTk : TK → Bool
  | .int _ => true
  | .bool => true
  | .str => true
  | .struct _ _ _ e => e
  | _ => false
/-- Is that a map's type, of keys and elements of those makes? -/
def mapOk (tab : Tab) (t : TypeId) (ka va : Bool) (kl vl : List Lf) : Bool :=
  match lkp t tab with
  | some (.map k e) => match lkp k tab, lkp e tab with
    | some kk, some ek => keyTk kk && sameB kk.isAgg ka && sameB ek.isAgg va && (match kk.lfs, ek.lfs with
      | some l, some m => decide (l = kl) && decide (m = vl)
      | _, _ => false)
    | _, _ => false
  | _ => false
def isMapTy (tab : Tab) (t : TypeId) : Bool := match lkp t tab with
  | some (.map _ _) => true
  | _ => false
/-- A map, as the evaluator sees it. -/
structure Mp where
  j : Nat
  ka : Bool
  va : Bool
  kl : List Lf
  vl : List Lf
  es : List (LT kl × LT vl)
def mpOf (tab : Tab) (t : TypeId) (H : Heap) : SV → Option Mp
  | .mp j => match lkp j H with
    | some (.map t' ka va kl vl es) => bif Nat.beq t t' && mapOk tab t ka va kl vl then some ⟨j, ka, va, kl, vl, es⟩ else none
    | _ => none
  | _ => none
/-- A part of some cells. -/
def partOf (isAgg : Bool) (off size : Nat) (cs : List SV) : Option SV :=
  match isAgg with
  | true => bif Nat.ble (off + size) cs.length then some (.agg ((cs.drop off).take size)) else none
  | false => cs[off]?
/-- Some cells, a part of them another one. -/
def setPart (off : Nat) (new cs : List SV) : List SV := cs.take off ++ (new ++ cs.drop (off + new.length))

/-- May a value stand in one cell? -/
def isLeaf : SV → Bool
  | .agg _ => false
  | .tup _ => false
  | _ => true
def ofConst : Value → Option SV
  | .int k n => some (.int k n)
  | .bool b => some (.bool b)
  | .string s => some (.str s)
  | .pointer none => some .nilp
  | .slice none 0 0 => some .nilsl
  | .map none => some .nilm
  | .nilFunc => some .nilf
  | .nilIface => some .nili
  | _ => none
def ofOpd (env : Env) : Operand → Option SV
  | .tmp t => lkp t env
  | .const v => ofConst v
  | .global _ => none
  | .func f => some (.clo f [])
def ofOpds (env : Env) : List Operand → Option (List SV)
  | [] => some []
  | x :: xs => match ofOpd env x with
    | some v => match ofOpds env xs with
      | some vs => some (v :: vs)
      | none => none
    | none => none
def ofParts (env : Env) : List (Nat × Operand) → Option (List (Nat × SV))
  | [] => some []
  | (i, x) :: xs => match ofOpd env x with
    | some v => match ofParts env xs with
      | some vs => some ((i, v) :: vs)
      | none => none
    | none => none

/-- The byte at a place. -/
def bt (s : ByteArray) (i : Int) : Int := ((s.data.toList.getD i.toNat 0).toNat : Int)
def strOf (xs : List Int) : ByteArray := ⟨(xs.map fun n => UInt8.ofNat n.toNat).toArray⟩
def bytesOf (s : ByteArray) : List Int := s.data.toList.map fun c => (c.toNat : Int)

def bAnd (k : IntKind) (a b : Int) : Int := k.wrap (BitVec.ofInt k.bits a &&& BitVec.ofInt k.bits b).toNat
def bOr (k : IntKind) (a b : Int) : Int := k.wrap (BitVec.ofInt k.bits a ||| BitVec.ofInt k.bits b).toNat
def bXor (k : IntKind) (a b : Int) : Int := k.wrap (BitVec.ofInt k.bits a ^^^ BitVec.ofInt k.bits b).toNat
def bAndNot (k : IntKind) (a b : Int) : Int := k.wrap (BitVec.ofInt k.bits a &&& ~~~(BitVec.ofInt k.bits b)).toNat
def shL (k : IntKind) (a b : Int) : Int := k.wrap (a * 2 ^ (min b.toNat k.bits))
def shR (k : IntKind) (a b : Int) : Int := a.fdiv (2 ^ (min b.toNat k.bits))

/-- An element of a list; the part of a list from one on. -/
def gt {α : Type} (d : α) (xs : List α) (i : Int) : α := xs.getD i.toNat d
def su {α : Type} (xs : List α) (i : Int) (x : α) : List α := xs.set i.toNat x
def sub {α : Type} (xs : List α) (lo n : Int) : List α := (xs.drop lo.toNat).take n.toNat
/-- A list, some of it another one. -/
def putAt {α : Type} (xs : List α) (lo : Int) (ys : List α) : List α := xs.take lo.toNat ++ (ys ++ xs.drop (lo.toNat + ys.length))
def sumI : List Int → Int
  | [] => 0
  | [l] => l
  | l :: m :: ls => l + sumI (m :: ls)
def posI : List Int → Bool
  | [] => true
  | l :: ls => decide (0 ≤ l) && posI ls

noncomputable section
variable {T : Type}

def intOp (cst : Bool) (op : BinOp) (k : IntKind) (a b : Int) (K : SV → O T) : O T :=
  match op with
  | .add => K (.int k (k.wrap (a + b)))
  | .sub => K (.int k (k.wrap (a - b)))
  | .mul => K (.int k (k.wrap (a * b)))
  | .quo => O.chkC cst (decide (b ≠ 0)) (K (.int k (k.wrap (a.tdiv b))))
  | .rem => O.chkC cst (decide (b ≠ 0)) (K (.int k (a.tmod b)))
  | .and => K (.int k (bAnd k a b))
  | .or => K (.int k (bOr k a b))
  | .xor => K (.int k (bXor k a b))
  | .andNot => K (.int k (bAndNot k a b))
  | .eql => K (.bool (decide (a = b)))
  | .neq => K (.bool (decide (a ≠ b)))
  | .lss => K (.bool (decide (a < b)))
  | .leq => K (.bool (decide (a ≤ b)))
  | .gtr => K (.bool (decide (a > b)))
  | .geq => K (.bool (decide (a ≥ b)))
  | _ => .no
/-- Is a text ahead of another one? -/
def sLt (a b : ByteArray) : Bool := Go.Op.bytesLess a.data.toList b.data.toList
def strOp (op : BinOp) (a b : ByteArray) (K : SV → O T) : O T :=
  match op with
  | .add => O.chk (decide (((a.size + b.size : Nat) : Int) ≤ 9223372036854775807)) (K (.str (a ++ b)))
  | .eql => K (.bool (decide (a = b)))
  | .neq => K (.bool (decide (a ≠ b)))
  | .lss => K (.bool (sLt a b))
  | .leq => K (.bool (sLt a b || decide (a = b)))
  | .gtr => K (.bool (!(sLt a b || decide (a = b))))
  | .geq => K (.bool (!(sLt a b)))
  | _ => .no
/-- Are plain things of one make the same? -/
def eqLf : SV → SV → SV → Option Bool
  | .int _ _, .int k a, .int k' b => bif decide (k = k') then some (decide (a = b)) else none
  | .str _, .str a, .str b => some (decide (a = b))
  | .bool _, .bool a, .bool b => some (decide (a = b))
  | _, _, _ => none
def eqLfs : List SV → List SV → List SV → Option Bool
  | [], [], [] => some true
  | z :: zs, a :: as, b :: bs => match eqLf z a b with
    | some e => match eqLfs zs as bs with
      | some es => some (e && es)
      | none => none
    | none => none
  | _, _, _ => none
def isNil : SV → Option Bool
  | .nilp => some true
  | .ptr _ _ | .ept _ _ _ _ => some false
  | _ => none
def isNilC : SV → Bool
  | .nilp => true
  | _ => false
def ifNil : SV → Option Bool
  | .nili => some true
  | .iface _ _ => some false
  | _ => none
def ifNilC : SV → Bool
  | .nili => true
  | _ => false
def isConst : Operand → Bool
  | .const _ => true
  | _ => false
/-- What is known of an operand's type. -/
def evBin (cst : Bool) (tk : Option TK) (op : BinOp) (x y : SV) (K : SV → O T) : O T :=
  match x, y with
  | .int k a, .int k' b =>
    match op with
    | .shl => O.chkC cst (decide (0 ≤ b)) (K (.int k (shL k a b)))
    | .shr => O.chkC cst (decide (0 ≤ b)) (K (.int k (shR k a b)))
    | op => ifb (decide (k = k')) (intOp cst op k a b K) (.no)
  | .str a, .str b => strOp op a b K
  | .bool a, .bool b => match tk, op with
    | some .bool, .eql => K (.bool (decide (a = b)))
    | some .bool, .neq => K (.bool (decide (a ≠ b)))
    | _, _ => .no
  | .agg as, .agg bs => match tk with
    | some (.struct _ _ z true) => match eqLfs z as bs, op with
      | some e, .eql => K (.bool e)
      | some e, .neq => K (.bool (!e))
      | _, _ => .no
    | _ => .no
  | x, y => match tk, op, isNil x with
    | some .ptr, .eql, some e => ifb (isNilC y) (K (.bool e)) (.no)
    | some .ptr, .neq, some e => ifb (isNilC y) (K (.bool (!e))) (.no)
    | some .iface, .eql, _ => match ifNil x with
      | some e => ifb (cst && ifNilC y) (K (.bool e)) .no
      | none => .no
    | some .iface, .neq, _ => match ifNil x with
      | some e => ifb (cst && ifNilC y) (K (.bool (!e))) .no
      | none => .no
    | _, _, _ => .no
def evUn (op : UnOp) (x : SV) (K : SV → O T) : O T :=
  match op, x with
  | .not, .bool b => K (.bool !b)
  | .neg, .int k n => K (.int k (k.wrap (0 - n)))
  | _, _ => .no
def evConv (src dst : TK) (x : SV) (K : SV → O T) : O T :=
  match src, dst, x with
  | _, .int k, .int _ n => K (.int k (k.wrap n))
  | .str, .str, .str s => K (.str s)
  | _, _, _ => .no
/-- 'c && x', 'c || x': a choice between two values. -/
def evPick (c a b : SV) (K : SV → O T) : O T :=
  match c, a, b with
  | .bool true, a, _ => K a
  | .bool false, _, b => K b
  | _, _, _ => .no
/-- What a function does that is called: what it hands back, or what it panics with. -/
abbrev Cal (T : Type) := FuncId → List SV → List Nat → St → (SV → St → O T) → (PV → St → O T) → O T

/-- A slice, as the evaluator sees it: which row, its cells' number, how it was cut, its length; how many elements the row has. -/
structure Sl where
  j : Nat
  own : Bool
  t : TypeId
  ls : List Lf
  xs : List (LT ls)
  ch : List Int
  n : Int
def slOf (H : Heap) : SV → Option Sl
  | .osl j => match lkp j H with
    | some (.row own t ls xs) => some ⟨j, own, t, ls, xs, [], (xs.length : Int)⟩
    | _ => none
  | .sl j sz ch n => match lkp j H with
    | some (.row own t ls xs) => bif Nat.beq sz ls.length then some ⟨j, own, t, ls, xs, ch, n⟩ else none
    | _ => none
  | _ => none
/-- Are all of its elements among the row's? -/
def Sl.ok (s : Sl) : Bool := match s.ch with
  | [] => decide (0 ≤ s.n ∧ s.n ≤ (s.xs.length : Int))
  | ch => posI ch && decide (0 ≤ s.n ∧ sumI ch + s.n ≤ (s.xs.length : Int))
/-- The elements that a slice has, as far as it is known which they are. -/
def evList (H : Heap) (v : SV) (K : (ls : List Lf) → TypeId → List (LT ls) → O T) : O T :=
  match v with
  | .osl j => match lkp j H with
    | some (.row _ t ls xs) => K ls t xs
    | _ => .no
  | v => match slOf H v with
    | some s => O.chk s.ok (K s.ls s.t (sub s.xs (sumI s.ch) s.n))
    | none => .no

def evBuiltin (tab : Tab) (H : Heap) (b : Builtin) (ts : List TypeId) (args : List SV) (K : SV → O T) : O T :=
  match b, ts, args with
  | .len, [t], [v] => match lkp t tab, v with
    | some .str, .str s => K (.int .i64 (s.size : Int))
    | some (.slice _), .nilsl => K (.int .i64 0)
    | some (.slice _), .csl _ n => K (.int .i64 (Int.ofNat n))
    | some (.slice _), .osl j => match lkp j H with
      | some (.row _ _ _ xs) => K (.int .i64 (xs.length : Int))
      | some (.tab _ _ xs) => K (.int .i64 (xs.length : Int))
      | _ => .no
    | some (.slice _), .sl j sz ch n => match slOf H (.sl j sz ch n) with
      | some s => O.chk s.ok (K (.int .i64 s.n))
      | none => .no
    | _, _ => .no
  | .min, _, [.int k a, .int k' b] => ifb (decide (k = k')) (K (.int k (min a b))) (.no)
  | .max, _, [.int k a, .int k' b] => ifb (decide (k = k')) (K (.int k (max a b))) (.no)
  | .min, _, [.int k a, .int k' b, .int k'' c] => ifb (decide (k = k') && decide (k = k'')) (K (.int k (min (min a b) c))) (.no)
  | _, _, _ => .no

/-- Is a slice nil? Where it has no elements it may be, or not. -/
def nilTest (H : Heap) (x : SV) (K : Bool → O T) : O T :=
  match x with
  | .nilsl => K true
  | .csl _ _ => K false
  | .osl j => match lkp j H with
    | some (.row _ _ _ xs) => O.cond (decide (0 < (xs.length : Int))) (K false) (O.same (K true) (K false))
    | _ => .no
  | x => match slOf H x with
    | some s => O.chk s.ok (O.cond (decide (0 < s.n)) (K false) (O.same (K true) (K false)))
    | none => .no
def evSlNil (op : BinOp) (H : Heap) (x : SV) (K : SV → O T) : O T :=
  match op with
  | .eql => nilTest H x fun b => K (.bool b)
  | .neq => nilTest H x fun b => K (.bool (!b))
  | _ => .no
def isSlNil (tk : Option TK) (cst : Bool) (y : SV) : Bool :=
  match tk, y with
  | some (.slice _), .nilsl => cst
  | _, _ => false

/-- The cells of a struct's parts, laid over others. -/
def fillS (fs : List (Nat × Nat × Bool)) : List (Nat × SV) → List SV → Option (List SV)
  | [], cs => some cs
  | (i, v) :: r, cs => match fs[i]? with
    | some (o, n, _) => bif Nat.beq v.cellsOf.length n && Nat.ble (o + n) cs.length then fillS fs r (setPart o v.cellsOf cs) else none
    | none => none

/-- Operations that neither look at memory nor change it. -/
def evQ (tab : Tab) (H : Heap) (o : Op) (env : Env) (K : SV → O T) : O T :=
  match o with
  | .move x | .assign x => match ofOpd env x with | some v => K v | none => .no
  | .pick c a b => match ofOpd env c, ofOpd env a, ofOpd env b with
    | some c, some a, some b => evPick c a b K
    | _, _, _ => .no
  | .nilCheck x => match ofOpd env x with
    | some (.ptr j off) => K (.ptr j off)
    | some (.ept j sz i off) => K (.ept j sz i off)
    | some (.clo f cs) => K (.clo f cs)
    | _ => .no
  | .binOp op t x y _ => match ofOpd env x, ofOpd env y with
    | some x', some y' => ifb (isSlNil (lkp t tab) (isConst y) y') (evSlNil op H x' K) (evBin (isConst y) (lkp t tab) op x' y' K)
    | _, _ => .no
  | .unOp op _ x => match ofOpd env x with | some x => evUn op x K | none => .no
  | .convert s d x => match lkp s tab, lkp d tab, ofOpd env x with
    | some s, some d, some x => evConv s d x K
    | _, _, _ => .no
  | .makeFunc (.func f) first caps => match first.toList, ofOpds env caps.toList with
    | [], some vs => K (.clo f vs)
    | _, _ => .no
  | .fieldAddr s x f => match lkp s tab, ofOpd env x with
    | some (.struct fs _ _ _), some (.ptr j off) => match fs[f]? with
      | some (o, n, _) => ifb (Nat.ble 1 n) (K (.ptr j (off + o))) (.no)
      | none => .no
    | some (.struct fs _ _ _), some (.ept j sz i off) => match fs[f]? with
      | some (o, n, _) => ifb (Nat.ble 1 n) (K (.ept j sz i (off + o))) (.no)
      | none => .no
    | _, _ => .no
  | .field s x f => match lkp s tab, ofOpd env x with
    | some (.struct fs _ _ _), some (.agg cs) => match fs[f]? with
      | some (o, n, g) => match partOf g o n cs with | some v => K v | none => .no
      | none => .no
    | _, _ => .no
  | .build t parts => match lkp t tab, ofParts env parts.toList with
    | some (.struct fs _ z _), some ps => match fillS fs ps z with
      | some cs => K (.agg cs)
      | none => .no
    | _, _ => .no
  | .extract x i => match ofOpd env x with
    | some (.tup vs) => match vs[i]? with | some v => K v | none => .no
    | _ => .no
  | .index t x i => match lkp t tab, ofOpd env x, ofOpd env i with
    | some .str, some (.str s), some (.int _ i) => O.chk (decide (0 ≤ i ∧ i < (s.size : Int))) (K (.int .u8 (bt s i)))
    | _, _, _ => .no
  | .indexAddr t x i => match lkp t tab, ofOpd env x, ofOpd env i with
    | some (.slice e), some (.csl j n), some (.int _ i) => match i, lkp e tab with
      | .ofNat m, some k => ifb (Nat.beq k.size 1 && Nat.blt m n) (K (.ptr j m)) .no
      | _, _ => .no
    | some (.slice e), some v, some (.int _ i) => match slOf H v, lkp e tab with
      | some s, some k => ifb (Nat.beq k.size s.ls.length && Nat.ble 1 s.ls.length) (
        match s.ch with
        | [] => O.chk (decide (0 ≤ i ∧ i < s.n ∧ s.n ≤ (s.xs.length : Int))) (K (.ept s.j s.ls.length i 0))
        | ch => O.chk (s.ok && decide (0 ≤ i ∧ i < s.n)) (K (.ept s.j s.ls.length (sumI ch + i) 0))) .no
      | none, some k => match v with
        | .osl j => match lkp j H with
          | some (.tab _ f xs) => ifb (Nat.beq k.size f.sz && Nat.ble 1 f.sz) (O.chk (decide (0 ≤ i ∧ i < (xs.length : Int))) (K (.ept j f.sz i 0))) .no
          | _ => .no
        | _ => .no
      | _, _ => .no
    | _, _, _ => .no
  | .slice t x lo hi mx => match lkp t tab, ofOpd env x, mx with
    | some .str, some (.str s), none =>
      match lo, hi with
      | none, none => K (.str (s.extract 0 s.size))
      | some l, none => match ofOpd env l with
        | some (.int _ l) => O.chk (decide (0 ≤ l ∧ l ≤ (s.size : Int))) (K (.str (s.extract l.toNat s.size)))
        | _ => .no
      | none, some h => match ofOpd env h with
        | some (.int _ h) => O.chk (decide (0 ≤ h ∧ h ≤ (s.size : Int))) (K (.str (s.extract 0 h.toNat)))
        | _ => .no
      | some l, some h => match ofOpd env l, ofOpd env h with
        | some (.int _ l), some (.int _ h) => O.chk (decide (0 ≤ l ∧ l ≤ h ∧ h ≤ (s.size : Int))) (K (.str (s.extract l.toNat h.toNat)))
        | _, _ => .no
    | some (.slice e), some v, none => match slOf H v, lkp e tab with
      | some s, some k => ifb (Nat.beq k.size s.ls.length) (
        match lo, hi with
        | none, none => O.chk s.ok (K (.sl s.j s.ls.length s.ch s.n))
        | some l, none => match ofOpd env l with
          | some (.int _ l) => O.chk (decide (0 ≤ l ∧ l ≤ s.n) && s.ok) (K (.sl s.j s.ls.length (s.ch ++ [l]) (s.n - l)))
          | _ => .no
        | none, some h => match ofOpd env h with
          | some (.int _ h) => O.chk (decide (0 ≤ h ∧ h ≤ s.n) && s.ok) (K (.sl s.j s.ls.length s.ch h))
          | _ => .no
        | some l, some h => match ofOpd env l, ofOpd env h with
          | some (.int _ l), some (.int _ h) => O.chk (decide (0 ≤ l ∧ l ≤ h ∧ h ≤ s.n) && s.ok) (K (.sl s.j s.ls.length (s.ch ++ [l]) (h - l)))
          | _, _ => .no) .no
      | _, _ => .no
    | _, _, _ => .no
  | .makeInterface t x => match lkp t tab, ofOpd env x with
    | some .iface, _ => .no
    | some _, some v => K (.iface t v)
    | _, _ => .no
  | .typeAssert x t t' true => match lkp t' tab, ofOpd env x with
    | some .iface, _ => .no
    | some k, some .nili => K (.tup [k.zero, .bool false])
    | some k, some (.iface d v) => ifb (Nat.beq d t') (K (.tup [v, .bool true])) (K (.tup [k.zero, .bool false]))
    | _, _ => .no
  | .call c => match ofOpds env c.args.toList with
    | some args => match c.callee with
      | .builtin b => evBuiltin tab H b c.argTypes.toList args K
      | _ => .no
    | none => .no
  | _ => .no

/-- A load of what is known. -/
def evLoad (tab : Tab) (o : Op) (env : Env) (H : Heap) (K : Nat → SV → O T) : O T :=
  match o with
  | .load t a => match lkp t tab, ofOpd env a with
    | some k, some (.ptr j off) => match lkp j H with
      | some (.cells _ vs) => match partOf k.isAgg off k.size vs with
        | some v => K j v
        | none => .no
      | _ => .no
    | some k, some (.ept j sz i off) => match lkp j H with
      | some (.row _ _ ls xs) => ifb (Nat.beq sz ls.length) (
          O.chk (decide (0 ≤ i ∧ i < (xs.length : Int))) (match partOf k.isAgg off k.size (encL ls (gt (dfltL ls) xs i)) with
            | some v => K j v
            | none => .no)) .no
      | _ => .no
    | _, _ => .no
  | .convert _ _ x => match ofOpd env x with
    | some .nilsl => .no
    | some v => evList H v fun ls _ xs => match ls, xs with
      | [.int .u8], xs => K (match v with | .osl j => j | .sl j _ _ _ => j | _ => 0) (.str (strOf xs))
      | _, _ => .no
    | none => .no
  | .lookup t x i ok => match ofOpd env x, ofOpd env i with
    | some m, some k => match mpOf tab t H m with
      | some m => match decO m.ka m.kl k with
        | some key => match ok with
          | true => K m.j (.tup [encO m.va m.vl (mget (dfltL m.vl) m.es key), .bool (mhas m.es key)])
          | false => K m.j (encO m.va m.vl (mget (dfltL m.vl) m.es key))
        | none => .no
      | none => .no
    | _, _ => .no
  | .call c => match c.callee, c.argTypes.toList, ofOpds env c.args.toList with
    | .builtin .len, [t], some [v] => match mpOf tab t H v with
      | some m => K m.j (.int .i64 (m.es.length : Int))
      | none => .no
    | _, _, _ => .no
  | _ => .no

/-- The makes of operations: those that are quiet, loads, those that act. -/
def isConvBytes (tab : Tab) (s d : TypeId) : Bool :=
  match lkp s tab, lkp d tab with
  | some (.slice e), some .str => match lkp e tab with
    | some (.int .u8) => true
    | _ => false
  | _, _ => false
def isConvStr (tab : Tab) (s d : TypeId) : Bool :=
  match lkp s tab, lkp d tab with
  | some .str, some (.slice _) => true
  | _, _ => false
def isMapLen (tab : Tab) : List TypeId → Bool
  | [t] => isMapTy tab t
  | _ => false
def isQ (tab : Tab) : Op → Bool
  | .move _ | .assign _ | .pick _ _ _ | .nilCheck _ | .binOp _ _ _ _ _ | .unOp _ _ _ | .makeFunc _ _ _ | .fieldAddr _ _ _ | .field _ _ _ | .build _ _ | .extract _ _ | .index _ _ _ | .indexAddr _ _ _ | .slice _ _ _ _ _ | .makeInterface _ _ | .typeAssert _ _ _ _ => true
  | .convert s d _ => !isConvBytes tab s d && !isConvStr tab s d
  | .call c => match c.callee with
    | .builtin .len => !isMapLen tab c.argTypes.toList
    | .builtin .min | .builtin .max => true
    | _ => false
  | _ => false
/-- A type whose elements hold rows: a load of one gives names to them. -/
def isSlZ : SV → Bool
  | .nilsl => true
  | _ => false
def isPlZ : SV → Bool
  | .nilp => false
  | .nilm => false
  | _ => true
def isTabTy (tab : Tab) (t : TypeId) : Bool := match lkp t tab with
  | some (.struct _ _ z _) => z.any isSlZ && z.all isPlZ
  | _ => false
def isLoad (tab : Tab) : Op → Bool
  | .load t _ => !isTabTy tab t
  | .convert s d _ => isConvBytes tab s d
  | .lookup _ _ _ _ => true
  | .call c => match c.callee with
    | .builtin .len => isMapLen tab c.argTypes.toList
    | _ => false
  | _ => false

/-- The elements of a literal. -/
def partsL (ls : List Lf) (n : Nat) : List (Nat × SV) → List (LT ls) → Option (List (LT ls))
  | [], xs => some xs
  | (i, v) :: r, xs => match decL ls v.cellsOf with
    | some x => bif Nat.blt i n then partsL ls n r (xs.set i x) else none
    | none => none
/-- Likewise, of elements of one cell each. -/
def partsC (n : Nat) : List (Nat × SV) → List SV → Option (List SV)
  | [], xs => some xs
  | (i, v) :: r, xs => bif isLeaf v && Nat.blt i n then partsC n r (xs.set i v) else none
/-- Is a slice none of a row? -/
def notOn (u : SV) (j : Nat) : Bool :=
  match u with
  | .osl i => !Nat.beq i j
  | .sl i _ _ _ => !Nat.beq i j
  | _ => true
def castL (ls ls' : List Lf) (xs : List (LT ls)) : Option (List (LT ls')) :=
  if h : ls = ls' then some (h ▸ xs) else none

def has (t : Nat) : List Nat → Bool
  | [] => false
  | s :: r => Nat.beq s t || has t r
/-- Slots whose value is settled: a constant, or what came of such. -/
def isSet (sl : List Nat) : Operand → Bool
  | .const _ => true
  | .tmp t => has t sl
  | _ => false
/-- The arguments that are settled. -/
def setArgs (sl : List Nat) : Nat → List Operand → List Nat
  | _, [] => []
  | i, x :: xs => match isSet sl x with
    | true => i :: setArgs sl (Nat.succ i) xs
    | false => setArgs sl (Nat.succ i) xs

def evA (tab : Tab) (cal : Cal T) (sl : List Nat) (o : Op) (env : Env) (st : St) (K : SV → St → O T) (Kp : PV → St → O T) : O T :=
  match o with
  | .alloc t => match lkp t tab with
    | some k => K (.ptr st.nx 0) (st.add (.cells t k.zero.cellsOf))
    | none => .no
  | .box t x => match ofOpd env x with
    | some v => ifb (v.cellsOf.all isLeaf) (K (.ptr st.nx 0) (st.add (.cells t v.cellsOf))) (.no)
    | none => .no
  | .store t a x => match lkp t tab, ofOpd env a, ofOpd env x with
    | some k, some (.ptr j off), some v => match lkp j st.H with
      | some (.cells T vs) => ifb (Nat.beq v.cellsOf.length k.size && Nat.ble (off + k.size) vs.length && v.cellsOf.all isLeaf) (K (.tup []) (st.put j (.cells T (setPart off v.cellsOf vs)))) (.no)
      | _ => .no
    | some k, some (.ept j sz i off), some v => match lkp j st.H with
      | some (.row true t ls xs) => ifb (Nat.beq sz ls.length && Nat.beq v.cellsOf.length k.size && Nat.ble (off + k.size) ls.length && v.cellsOf.all isLeaf) (
          O.chk (decide (0 ≤ i ∧ i < (xs.length : Int))) (match decL ls (setPart off v.cellsOf (encL ls (gt (dfltL ls) xs i))) with
            | some y => K (.tup []) (st.put j (.row true t ls (su xs i y)))
            | none => .no)) .no
      | _ => .no
    | _, _, _ => .no
  | .makeSlice t n c => match lkp t tab, ofOpd env n, ofOpd env c with
    | some (.slice e), some (.int _ n), some (.int _ c) => match lkp e tab with
      | some k => match k.lfs with
        | some ls => O.chk (decide (0 ≤ n ∧ n = c ∧ n ≤ 1073741824)) (K (.osl st.nx) (st.add (.row true e ls (List.replicate n.toNat (dfltL ls)))))
        | none => .no
      | none => .no
    | _, _, _ => .no
  | .buildSlice t n parts => match lkp t tab, ofParts env parts.toList with
    | some (.slice e), some ps => match lkp e tab with
      | some k => match k.lfs with
        | some ls => ifb (Nat.ble n 1000 && Nat.ble ls.length 1000) (match partsL ls n ps (List.replicate n (dfltL ls)) with
          | some xs => K (.osl st.nx) (st.add (.row true e ls xs))
          | none => .no) .no
        | none => ifb (Nat.ble n 1000 && Nat.beq k.size 1 && isLeaf k.zero) (match partsC n ps (List.replicate n k.zero) with
          | some vs => K (.csl st.nx n) (st.add (.cells e vs))
          | none => .no) .no
      | none => .no
    | _, _ => .no
  | .convert s d x => match lkp s tab, lkp d tab, ofOpd env x with
    | some .str, some (.slice e), some (.str s) => match lkp e tab with
      | some (.int .u8) => O.chk (decide (s.size ≤ 140737488351232)) (K (.osl st.nx) (st.add (.row true e [.int .u8] (bytesOf s))))
      | _ => .no
    | _, _, _ => .no
  | .call c => match ofOpds env c.args.toList with
    | some args => match c.callee with
      | .value f => match ofOpd env f with
        | some (.clo f caps) => cal f (args ++ caps) (setArgs sl 0 c.args.toList) st K Kp
        | _ => .no
      | .builtin .append => match c.argTypes.toList, args with
        | [t, t'], [v, u] => ifb (Nat.beq t t') (match lkp t tab with
          | some (.slice e) => match lkp e tab with
            | some k => match k.lfs with
              | some ls => evList st.H u fun ls' _ ys => match castL ls' ls ys with
                | some ys => match v with
                  | .nilsl => O.chk (decide (ys.length ≤ 1073741824)) (K (.osl st.nx) (st.add (.row true e ls ys)))
                  | .osl j => match lkp j st.H with
                    | some (.row true e' ls'' xs) => match castL ls'' ls xs with
                      | some xs => ifb (Nat.beq e e' && notOn u j) (
                          O.chk (decide (xs.length + ys.length ≤ 1073741824)) (K (.osl st.nx) (st.grow j (.row true e ls (xs ++ ys))))) .no
                      | none => .no
                    | _ => .no
                  | _ => .no
                | none => .no
              | none => .no
            | none => .no
          | _ => .no) .no
        | _, _ => .no
      | .builtin .copy => match c.argTypes.toList, args with
        | [t, _], [v, u] => match lkp t tab, slOf st.H v with
          | some (.slice e), some s => match lkp e tab, s.own with
            | some k, true => ifb (Nat.beq k.size s.ls.length && Nat.beq e s.t)
              (match u with
              | .str b => match castL [.int .u8] s.ls (bytesOf b) with
                | some ys => O.chk s.ok (K (.int .i64 (min (b.size : Int) s.n)) (st.put s.j (.row true s.t s.ls (putAt s.xs (sumI s.ch) (ys.take s.n.toNat)))))
                | none => .no
              | u => evList st.H u fun ls' _ ys => match castL ls' s.ls ys with
                | some ys => O.chk s.ok (K (.int .i64 (min (ys.length : Int) s.n)) (st.put s.j (.row true s.t s.ls (putAt s.xs (sumI s.ch) (ys.take s.n.toNat)))))
                | none => .no) .no
            | _, _ => .no
          | _, _ => .no
        | _, _ => .no
      | .builtin .delete => match c.argTypes.toList, args with
        | [t, _], [m, k] => match mpOf tab t st.H m with
          | some m => match decO m.ka m.kl k with
            | some key => K (.tup []) (st.put m.j (.map t m.ka m.va m.kl m.vl (mdel m.es key)))
            | none => .no
          | none => .no
        | _, _ => .no
      | _ => .no
    | none => .no
  | .panic x => match ofOpd env x with
    | some v => match toPV v with
      | some p => Kp p st
      | none => .no
    | none => .no
  | .makeMap t none => match lkp t tab with
    | some (.map k e) => match lkp k tab, lkp e tab with
      | some kk, some ek => match kk.lfs, ek.lfs with
        | some kl, some vl => ifb (keyTk kk) (K (.mp st.nx) (st.add (.map t kk.isAgg ek.isAgg kl vl []))) .no
        | _, _ => .no
      | _, _ => .no
    | _ => .no
  | .mapUpdate t m k v => match ofOpd env m, ofOpd env k, ofOpd env v with
    | some m, some k, some v => match mpOf tab t st.H m with
      | some m => match decO m.ka m.kl k, decO m.va m.vl v with
        | some key, some val => K (.tup []) (st.put m.j (.map t m.ka m.va m.kl m.vl (mput m.es key val)))
        | _, _ => .no
      | none => .no
    | _, _, _ => .no
  | .load t a => match lkp t tab, ofOpd env a with
    | some k, some (.ptr j off) => match lkp j st.H with
      | some (.cells _ vs) => match partOf k.isAgg off k.size vs with
        | some v => K v st
        | none => .no
      | _ => .no
    | some k, some (.ept j sz i 0) => match lkp j st.H with
      | some (.tab _ f xs) => ifb (Nat.beq sz f.sz && Nat.beq k.size sz && k.isAgg && f.tabOk) (
          O.chk (decide (0 ≤ i ∧ i < (xs.length : Int))) (K (.agg (giveF [] f (gt (dfltF f) xs i) st.nx).1) (st.adds (giveF [] f (gt (dfltF f) xs i) st.nx).2))) .no
      | _ => .no
    | _, _ => .no
  | _ => .no

def evOp (tab : Tab) (cal : Cal T) (sl : List Nat) (o : Op) (env : Env) (st : St) (K : SV → St → O T) (Kp : PV → St → O T) : O T :=
  ifb (isQ tab o) (evQ tab st.H o env (K · st)) (
  ifb (isLoad tab o) (evLoad tab o env st.H fun _ v => K v st)
  (evA tab cal sl o env st K Kp))

def Fr.put (fr : Fr) (d : Option Tmp) (v : SV) : Fr :=
  match d with
  | some d => ⟨(d, v) :: fr.env, fr.dfs, fr.base, fr.sl⟩
  | none => fr
/-- The slot of an operation's result. -/
def dstOf (ops : List Oper) (j : Nat) : Option Tmp := match ops[j]? with | some o => o.dst | none => none

def okDst (n : Nat) : Option Tmp → Bool
  | some d => Nat.blt d n
  | none => true
def deferOf (env : Env) : Op → Option SV
  | .defer c => match c.callee, c.args.toList with
    | .value f, [] => match ofOpd env f with
      | some (.clo f cs) => some (.clo f cs)
      | _ => none
    | _, _ => none
  | _ => none
def isDefer : Op → Bool
  | .defer _ => true
  | _ => false
/-- One operation that is wanted: calls to be deferred are noted. -/
def doOp (tab : Tab) (cal : Cal T) (sl : List Nat) (o : Oper) (fr : Fr) (st : St) (K : Fr → St → O T) (Kp : PV → Fr → St → O T) : O T :=
  ifb (isDefer o.op) (match deferOf fr.env o.op with
    | some v => K (Fr.put ⟨fr.env, v :: fr.dfs, fr.base, fr.sl⟩ o.dst (.tup [])) st
    | none => .no)
  (evOp tab cal sl o.op fr.env st (fun v st => K (fr.put o.dst v) st) (fun e st => Kp e fr st))
def rid (t : Nat) : List Nat → List Nat
  | [] => []
  | s :: r => bif Nat.beq s t then rid t r else s :: rid t r
def settle (sl : List Nat) (env : Env) (o : Oper) : List Nat :=
  match o.dst with
  | none => sl
  | some d => match (match o.op with
      | .move x | .assign x | .unOp _ _ x | .typeAssert x _ _ _ | .extract x _ => isSet sl x
      | .binOp _ _ x y _ => isSet sl x && isSet sl y
      | .pick c a b => match ofOpd env c with
        | some (.bool true) => isSet sl a
        | some (.bool false) => isSet sl b
        | _ => false
      | .buildSlice _ _ _ => true
      | .call c => match c.callee, c.args.toList with
        | .builtin .len, [x] => isSet sl x
        | _, _ => false
      | _ => false) with
    | true => d :: sl
    | false => rid d sl
/-- Operations one behind the other; 'sl': the slots of guards that are settled. -/
def evOps (tab : Tab) (cal : Cal T) (n : Nat) (all : List Oper) : List Oper → List Nat → Fr → St → (Fr → St → O T) → (PV → Fr → St → O T) → O T
  | [], sl, fr, st, K, _ => K ⟨fr.env, fr.dfs, fr.base, sl⟩ st
  | o :: rest, sl, fr, st, K, Kp =>
    ifb (okDst n o.dst) (
      match o.guard with
      | none => doOp tab cal sl o fr st (fun fr st => evOps tab cal n all rest (settle sl fr.env o) fr st K Kp) Kp
      | some (j, want) =>
        match dstOf all j with
        | some d => match lkp d fr.env with
          | some (.bool b) =>
            O.test (has d sl) b
              (match want with
                | true => doOp tab cal (d :: sl) o (fr.put (some d) (.bool true)) st (fun fr st => evOps tab cal n all rest (settle (d :: sl) fr.env o) fr st K Kp) Kp
                | false => evOps tab cal n all rest (d :: sl) ((fr.put (some d) (.bool true)).put o.dst (.tup [])) st K Kp)
              (match want with
                | false => doOp tab cal (d :: sl) o (fr.put (some d) (.bool false)) st (fun fr st => evOps tab cal n all rest (settle (d :: sl) fr.env o) fr st K Kp) Kp
                | true => evOps tab cal n all rest (d :: sl) ((fr.put (some d) (.bool false)).put o.dst (.tup [])) st K Kp)
          | some (.tup []) => evOps tab cal n all rest sl (fr.put o.dst (.tup [])) st K Kp
          | _ => .no
        | none => .no) .no

/-! ### A region that draws its order: gone through in one order that stands for all -/
/-- A load that is no act (Z: the slots of those that are gone through like acts). -/
def isLd (Z : List Nat) (tab : Tab) (o : Oper) : Bool := isLoad tab o.op && !(match o.dst with | some d => has d Z | none => false)
def isEff (Z : List Nat) (tab : Tab) (o : Oper) : Bool := !(isQ tab o.op || isLd Z tab o)
/-- The operations that act, and are listed. -/
def acts (Z : List Nat) (tab : Tab) (ops : Array Oper) (listed : Array Bool) : List Nat :=
  (List.range ops.size).filter fun e => listed.getD e false && (match ops[e]? with | some o => isEff Z tab o | none => false)
def onsOf (o : Oper) : List Nat := (o.after.toList.filter (Region.binds .any)).map (·.on)
def anc1 (ops : Array Oper) (i : Nat) (A : List Nat) : List Nat :=
  match has i A with
  | true => (match ops[i]? with | some o => onsOf o ++ A | none => A)
  | false => A
/-- Some operations, and those ahead of them. -/
def ancs (ops : Array Oper) : Nat → List Nat → List Nat
  | 0, A => A
  | i + 1, A => ancs ops i (anc1 ops i A)
def gone (Z : List Nat) (tab : Tab) (ops : Array Oper) (listed : Array Bool) : List Nat := ancs ops ops.size (acts Z tab ops listed)
def pendIn (L Z : List Nat) (tab : Tab) (ops : Array Oper) (G : List Nat) : Bool :=
  (List.range ops.size).any fun l => !(has l L) && (match ops[l]? with | some o => isLd Z tab o | none => false) && !(has l G)
/-- May a load still be to come, as far as the operations that act tell? -/
def pend (Z : List Nat) (tab : Tab) (ops : Array Oper) (listed : Array Bool) : Bool := pendIn [] Z tab ops (gone Z tab ops listed)
/-- Likewise, but for some loads. -/
def pendX (L Z : List Nat) (tab : Tab) (ops : Array Oper) (listed : Array Bool) : Bool := pendIn L Z tab ops (gone Z tab ops listed)
def cellsAt (H : Heap) (j : Nat) : Bool := match lkp j H with
  | some (.cells _ _) => true
  | _ => false
/-- Does an operation store in a place that isn't one of those? -/
def storeOk (W : List Nat) (o : Op) (env : Env) (st : St) : Bool :=
  match o with
  | .store _ a _ => match ofOpd env a with
    | some (.ptr j _) => !(has j W) && W.all (cellsAt st.H)
    | _ => false
  | _ => false
/-- The places that some slots point to. -/
def ptrsAt (env : Env) : List Nat → List Nat
  | [] => []
  | t :: ts => match lkp t env with
    | some (.ptr j _) => j :: ptrsAt env ts
    | _ => ptrsAt env ts
/-- The operations ahead that may come up now. -/
def readyNow (ops : Array Oper) (listed : Array Bool) : List Nat :=
  (List.range ops.size).filter fun i =>
    !listed.getD i true && ((ops[i]?).map (·.after.all fun e => !Region.binds .any e || listed.getD e.on false)).getD false
def slotsOf : List Operand → List Tmp
  | [] => []
  | .tmp t :: r => t :: slotsOf r
  | _ :: r => slotsOf r
def looksAt (ops : Array Oper) (o : Oper) : List Tmp :=
  slotsOf o.op.operands.toList ++ (match o.guard with | some (g, _) => ((ops[g]?).bind (·.dst)).toList | none => [])
def apartOk (ops : Array Oper) (x y : Oper) : Bool :=
  (match x.dst with
   | some d => !(has d (looksAt ops y)) && (match y.dst with | some e => !(Nat.beq e d) | none => true)
   | none => true) &&
  (match y.dst with
   | some d => !(has d (looksAt ops x))
   | none => true)
def freeNow (ops : Array Oper) (listed : Array Bool) (i : Nat) : Bool :=
  match ops[i]? with
  | none => false
  | some oi => (List.range ops.size).all fun j => Nat.beq j i || listed.getD j true || match ops[j]? with
      | some oj => oj.after.any (fun e => Region.binds .any e && Nat.beq e.on i) || apartOk ops oi oj
      | none => true
/-- The other operation that acts and may come up now. -/
def otherOf (Z : List Nat) (tab : Tab) (ops : Array Oper) (i : Nat) (listed : Array Bool) : Option Nat :=
  match (match ops[i]? with | some o => isEff Z tab o | none => false) with
  | true => match readyNow ops listed with
    | [a, b] => bif Nat.beq a i then some b else bif Nat.beq b i then some a else none
    | _ => none
  | false => none
/-- An order, the operations that don't act and may come up set forward. -/
def fore (Z : List Nat) (tab : Tab) (ops : Array Oper) : Nat → Array Bool → List Nat → List Nat
  | 0, _, c => c
  | f + 1, listed, c => match c.find? (fun x => match ops[x]? with | some o => !isEff Z tab o && has x (readyNow ops listed) | none => false) with
    | some x => x :: fore Z tab ops f (listed.setIfInBounds x true) (rid x c)
    | none => c
def orderOk (Z : List Nat) (tab : Tab) (ops : Array Oper) : Nat → List Nat → Array Bool → Bool
  | _, [], listed => (readyNow ops listed).isEmpty
  | 0, _ :: _, _ => false
  | f + 1, i :: c, listed =>
    match ops[i]? with
    | some o => bif isEff Z tab o then
        (match readyNow ops listed with
          | [a] => Nat.beq a i && orderOk Z tab ops f c (listed.setIfInBounds i true)
          | [a, b] => (Nat.beq a i || Nat.beq b i) && (match otherOf Z tab ops i listed with
            | some j => (match ops[j]? with | some p => isEff Z tab p | none => false) && orderOk Z tab ops f c (listed.setIfInBounds i true) && orderOk Z tab ops f (fore Z tab ops f (listed.setIfInBounds j true) (i :: rid j c)) (listed.setIfInBounds j true)
            | none => false)
          | _ => false)
        else freeNow ops listed i && has i (readyNow ops listed) && orderOk Z tab ops f c (listed.setIfInBounds i true)
    | none => false
def noSelect : List Oper → Bool
  | [] => true
  | o :: r => (match o.op with | .select _ _ | .defer _ => false | _ => true) && noSelect r
def isDst (t : Nat) (o : Oper) : Bool := match o.dst with | some d => Nat.beq d t | none => false
def envOut (ops : List Oper) : Env → Env
  | [] => []
  | (t, v) :: r => bif ops.any (isDst t) then envOut ops r else (t, v) :: envOut ops r

def doD (Z : List Nat) (tab : Tab) (cal : Cal T) (sl L W : List Nat) (ops : Array Oper) (st0 : St) (envP : Env) (i : Nat) (o : Oper) (listed : Array Bool) (fr : Fr) (st : St) (K : SV → St → St → O T) (Kp : PV → Fr → St → O T) : O T :=
  ifb (isQ tab o.op) (evQ tab st.H o.op fr.env (K · st0 st)) (
  ifb (isLd Z tab o) (evLoad tab o.op fr.env st0.H fun j v => ifb (!(has i L) || (has j W && cellsAt st0.H j)) (K v st0 st) .no) (
  ifb (isLoad tab o.op) (evLoad tab o.op fr.env st.H fun _ v => K v st0 st)
  (evA tab cal sl o.op fr.env st (fun v st' => ifb (pend Z tab ops (listed.setIfInBounds i true)) (ifb st'.dirty (ifb (!(pendX L Z tab ops (listed.setIfInBounds i true)) && storeOk W o.op fr.env st) (K v st0 st') .no) (K v st' st')) (K v st0 st')) (fun e st' => Kp e ⟨envP, fr.dfs, fr.base, []⟩ st'))))
def evStep (Z : List Nat) (tab : Tab) (cal : Cal T) (L W : List Nat) (n : Nat) (ops : Array Oper) (st0 : St) (envP : Env) (i : Nat) (listed : Array Bool) (sl : List Nat) (fr : Fr) (st : St) (R : List Nat → St → Fr → St → O T) (Kp : PV → Fr → St → O T) : O T :=
    match ops[i]? with
    | none => .no
    | some o =>
      ifb (okDst n o.dst) (
        match o.guard with
        | none => doD Z tab cal sl L W ops st0 envP i o listed fr st (fun v st0 st => R (settle sl (fr.put o.dst v).env o) st0 (fr.put o.dst v) st) Kp
        | some (j, want) =>
          match dstOf ops.toList j with
          | some d => match lkp d fr.env with
            | some (.bool b) =>
              O.test (has d sl) b
                (match want with
                  | true => doD Z tab cal (d :: sl) L W ops st0 envP i o listed (fr.put (some d) (.bool true)) st (fun v st0 st => R (settle (d :: sl) ((fr.put (some d) (.bool true)).put o.dst v).env o) st0 ((fr.put (some d) (.bool true)).put o.dst v) st) Kp
                  | false => R (d :: sl) st0 ((fr.put (some d) (.bool true)).put o.dst (.tup [])) st)
                (match want with
                  | false => doD Z tab cal (d :: sl) L W ops st0 envP i o listed (fr.put (some d) (.bool false)) st (fun v st0 st => R (settle (d :: sl) ((fr.put (some d) (.bool false)).put o.dst v).env o) st0 ((fr.put (some d) (.bool false)).put o.dst v) st) Kp
                  | true => R (d :: sl) st0 ((fr.put (some d) (.bool false)).put o.dst (.tup [])) st)
            | some (.tup []) => R sl st0 (fr.put o.dst (.tup [])) st
            | _ => .no
          | none => .no) .no
def evD (Z : List Nat) (tab : Tab) (cal : Cal T) (L W : List Nat) (n : Nat) (ops : Array Oper) (envP : Env) (K : Fr → St → O T) (Kp : PV → Fr → St → O T) : Nat → List Nat → Array Bool → List Nat → St → Fr → St → O T
  | _, [], _, sl, _, fr, st => K ⟨fr.env, fr.dfs, fr.base, sl⟩ st
  | 0, _ :: _, _, _, _, _, _ => .no
  | f + 1, i :: c, listed, sl, st0, fr, st => match otherOf Z tab ops i listed with
    | none => evStep Z tab cal L W n ops st0 envP i listed sl fr st (evD Z tab cal L W n ops envP K Kp f c (listed.setIfInBounds i true)) Kp
    | some j => O.same (evStep Z tab cal L W n ops st0 envP i listed sl fr st (evD Z tab cal L W n ops envP K Kp f c (listed.setIfInBounds i true)) Kp)
        (evStep Z tab cal L W n ops st0 envP j listed sl fr st (evD Z tab cal L W n ops envP K Kp f (fore Z tab ops f (listed.setIfInBounds j true) (i :: rid j c)) (listed.setIfInBounds j true)) Kp)

/-! ### Where the evaluator forgets -/
/-- Only some slots are kept. -/
def keep (env : Env) : List Nat → Env
  | [] => []
  | t :: ts => match lkp t env with
    | some v => (t, v) :: keep env ts
    | none => keep env ts
def keepN (H : Heap) : List Nat → Heap
  | [] => []
  | j :: js => match lkp j H with
    | some o => (j, o) :: keepN H js
    | none => keepN H js
mutual
/-- The names in a value. -/
def namesOf : SV → List Nat
  | .ptr j _ => [j]
  | .ept j _ _ _ => [j]
  | .osl j => [j]
  | .mp j => [j]
  | .sl j _ _ _ => [j]
  | .csl j _ => [j]
  | .clo _ cs => namesL cs
  | .iface _ v => namesOf v
  | .agg cs => namesL cs
  | .tup cs => namesL cs
  | _ => []
def namesL : List SV → List Nat
  | [] => []
  | v :: vs => namesOf v ++ namesL vs
end
def hoNames : HO → List Nat
  | .cells _ vs => namesL vs
  | .row _ _ _ _ => []
  | .map _ _ _ _ _ _ => []
  | .tab _ _ _ => []
/-- The names from one on that can be come to, in the order in which they are come to. -/
def reach (base : Nat) (H : Heap) : Nat → List Nat → List Nat → List Nat
  | 0, _, found => found
  | _ + 1, [], found => found
  | k + 1, j :: todo, found => bif Nat.blt j base || has j found then reach base H k todo found else
      reach base H k (todo ++ (match lkp j H with | some o => hoNames o | none => [])) (found ++ [j])
def idx (j : Nat) : List Nat → Nat
  | [] => 0
  | i :: r => bif Nat.beq i j then 0 else Nat.succ (idx j r)
/-- A name, told anew. -/
def rn (base : Nat) (found : List Nat) (j : Nat) : Nat := bif Nat.blt j base then j else base + idx j found
mutual
def renS (r : Nat → Nat) : SV → SV
  | .ptr j off => .ptr (r j) off
  | .ept j sz i off => .ept (r j) sz i off
  | .osl j => .osl (r j)
  | .mp j => .mp (r j)
  | .sl j sz ch n => .sl (r j) sz ch n
  | .csl j n => .csl (r j) n
  | .clo f cs => .clo f (renL r cs)
  | .iface t v => .iface t (renS r v)
  | .agg cs => .agg (renL r cs)
  | .tup cs => .tup (renL r cs)
  | .int k n => .int k n
  | .bool b => .bool b
  | .str s => .str s
  | .nilp => .nilp
  | .nilsl => .nilsl
  | .nilf => .nilf
  | .nili => .nili
  | .nilm => .nilm
def renL (r : Nat → Nat) : List SV → List SV
  | [] => []
  | v :: vs => renS r v :: renL r vs
end
def renH (r : Nat → Nat) : HO → HO
  | .cells T vs => .cells T (renL r vs)
  | .row own t ls xs => .row own t ls xs
  | .map t ka va kl vl es => .map t ka va kl vl es
  | .tab t f xs => .tab t f xs
def renE (r : Nat → Nat) : Env → Env
  | [] => []
  | (t, v) :: e => (t, renS r v) :: renE r e
/-- The places of the names found, told anew. -/
def foundH (base : Nat) (all : List Nat) (H : Heap) (i : Nat) : List Nat → Heap
  | [] => []
  | j :: js => match lkp j H with
    | some o => (i, renH (rn base all) o) :: foundH base all H (Nat.succ i) js
    | none => foundH base all H (Nat.succ i) js
def inOr (base : Nat) (found : List Nat) : List Nat → Bool
  | [] => true
  | j :: js => (Nat.blt j base || has j found) && inOr base found js
def namesE : Env → List Nat
  | [] => []
  | (_, v) :: e => namesOf v ++ namesE e
def heapIn (base : Nat) (found : List Nat) (H : Heap) : List Nat → Bool
  | [] => true
  | j :: js => (match lkp j H with | some o => inOr base found (hoNames o) | none => true) && heapIn base found H js
/-- The names in some places. -/
def namesH (H : Heap) : List Nat → List Nat
  | [] => []
  | j :: js => (match lkp j H with | some o => hoNames o | none => []) ++ namesH H js
/-- Where a nil slice stands that is to be a row: in a slot; in a cell of what a slot points to, or a name: of cells one behind the other. -/
inductive Nl where
  | slot (t : Nat) (path : List Nat)
  | name (j : Nat) (path : List Nat)
/-- What is kept where ways meet: slots; nil slices that are rows without elements from here on. -/
structure Cut where
  ts : List Nat
  nils : List (Nl × TypeId × List Lf)
/-- The cell at a path's end. -/
def cellAt (H : Heap) (j : Nat) : List Nat → Option (Nat × Nat)
  | [] => none
  | [o] => some (j, o)
  | o :: os => match lkp j H with
    | some (.cells _ vs) => match vs[o]? with
      | some (.ptr i 0) => cellAt H i os
      | _ => none
    | _ => none
/-- A nil slice in a cell is a row without elements. -/
def fillCell (x : Nat × Nat) (e : TypeId) (ls : List Lf) (st : St) : St :=
  match lkp x.1 st.H with
  | some (.cells T vs) => match vs[x.2]? with
    | some .nilsl => ⟨Nat.succ st.nx, true, (x.1, .cells T (vs.set x.2 (.osl st.nx))) :: (st.nx, .row true e ls []) :: st.H⟩
    | _ => st
  | _ => st
def fillNil (x : Nl × TypeId × List Lf) (fr : Fr) (st : St) : Fr × St :=
  match x.2.2 with
  | [] => (fr, st)
  | l :: ls => match x.1 with
    | .slot t [] => match lkp t fr.env with
      | some .nilsl => (⟨(t, .osl st.nx) :: fr.env, fr.dfs, fr.base, fr.sl⟩, st.add (.row true x.2.1 (l :: ls) []))
      | _ => (fr, st)
    | .slot t path => match lkp t fr.env with
      | some (.ptr j 0) => match cellAt st.H j path with
        | some y => (fr, fillCell y x.2.1 (l :: ls) st)
        | none => (fr, st)
      | _ => (fr, st)
    | .name j path => match cellAt st.H j path with
      | some y => (fr, fillCell y x.2.1 (l :: ls) st)
      | none => (fr, st)
def fillNils : List (Nl × TypeId × List Lf) → Fr → St → Fr × St
  | [], fr, st => (fr, st)
  | x :: xs, fr, st => fillNils xs (fillNil x fr st).1 (fillNil x fr st).2
/-- All but what is kept is forgotten; what is kept is named anew, in the order in which it is come to. -/
def cutTo (c : Cut) (fr0 : Fr) (st0 : St) (K : Fr → St → O T) : O T :=
  let fr := (fillNils c.nils fr0 st0).1
  let st := (fillNils c.nils fr0 st0).2
  let env := keep fr.env c.ts
  let found := reach fr.base st.H 1000 (namesE env ++ namesL fr.dfs ++ namesH st.H (List.range fr.base)) []
  ifb (inOr fr.base found (namesE env) && inOr fr.base found (namesL fr.dfs) && heapIn fr.base found st.H found && heapIn fr.base found st.H (List.range fr.base))
    (K ⟨renE (rn fr.base found) env, renL (rn fr.base found) fr.dfs, fr.base, []⟩ ⟨fr.base + found.length, true, foundH fr.base found st.H fr.base found ++ foundH fr.base found st.H 0 (List.range fr.base)⟩) .no

def loopK (c : Cut) (R : Fr → St → O T) (K : Ex → Fr → St → O T) : Ex → Fr → St → O T := fun e fr st =>
  match e with
  | .normal => cutTo c fr st R
  | e => K e fr st
def blockK (id : Nat) (K : Ex → Fr → St → O T) : Ex → Fr → St → O T := fun e fr st =>
  match e with
  | .exit id' => ifb (Nat.beq id' id) (K .normal fr st) (K (.exit id') fr st)
  | e => K e fr st

/-- A loop, so many times at most: at its head the evaluator forgets. -/
def evLoop (body : Fr → St → (Ex → Fr → St → O T) → O T) (c : Cut) (K : Ex → Fr → St → O T) : Nat → Fr → St → O T
  | 0, _, _ => .no
  | k + 1, fr, st => body fr st (loopK c (evLoop body c K k) K)
def turnK (R : Fr → St → O T) (K : Ex → Fr → St → O T) : Ex → Fr → St → O T := fun e fr st =>
  match e with
  | .normal => R fr st
  | e => K e fr st
/-- A loop, gone through turn by turn. -/
def evTurns (body : Fr → St → (Ex → Fr → St → O T) → O T) (K : Ex → Fr → St → O T) : Nat → Fr → St → O T
  | 0, _, _ => .no
  | k + 1, fr, st => body fr st (turnK (evTurns body K k) K)

/-- The first region in a piece of code: by it a loop is named. -/
def firstId : Code → Nat
  | .region id _ _ => id
  | .seq a _ => firstId a
  | .block _ a => firstId a
  | .loop a => firstId a
  | _ => 0

/-- Notes on code: which slots are kept at a loop's head (by its first region); which ahead of a second half; orders; loops that are gone through turn by turn; in regions that draw their order: loads that may come behind stores, the slots that point to what they look at. -/
structure Notes where
  loops : List (Nat × Cut)
  cuts : List (Nat × Cut)
  orders : List (Nat × List Nat)
  turns : List (Nat × Nat)
  keeps : List (Nat × List Nat × List Nat × List Nat)

theorem hide_ex : ∃ B : (T : Type) → (Fr → St → O T) → Fr → St → O T, ∀ T F fr st, B T F fr st = F fr st := ⟨_, fun _ _ _ _ => rfl⟩
/-- What follows at a place where ways meet: the kernel compares what stands in it. -/
noncomputable def hide (F : Fr → St → O T) (fr : Fr) (st : St) : O T := Classical.choose hide_ex T F fr st
theorem hide_eq (F : Fr → St → O T) (fr : Fr) (st : St) : hide F fr st = F fr st := Classical.choose_spec hide_ex T F fr st
def keepsOf (id : Nat) (nt : Notes) : List Nat × List Nat × List Nat := match lkp id nt.keeps with
  | some c => c
  | none => ([], [], [])
def seqK (nt : Notes) (id : Nat) (B : Fr → St → O T) (K : Ex → Fr → St → O T) : Ex → Fr → St → O T := fun e fr st =>
  match e with
  | .normal => match lkp id nt.cuts with
    | none => B fr st
    | some c => cutTo c fr st (hide B)
  | e => K e fr st

def ev (tab : Tab) (cal : Cal T) (n : Nat) (nt : Notes) (k : Nat) : Code → Fr → St → (Ex → Fr → St → O T) → O T
  | .skip, fr, st, K => K .normal fr st
  | .region id ops draw, fr, st, K => match draw with
    | false => evOps tab cal n ops.toList ops.toList fr.sl fr st (fun fr st => K .normal fr st) (fun e fr st => K (.panic e) fr st)
    | true => match lkp id nt.orders with
      | some order => ifb (orderOk (keepsOf id nt).2.2 tab ops order.length order (Array.replicate ops.size false) && Nat.beq order.length ops.size && noSelect ops.toList)
          (evD (keepsOf id nt).2.2 tab cal (keepsOf id nt).1 (ptrsAt fr.env (keepsOf id nt).2.1) n ops (envOut ops.toList fr.env) (fun fr st' => K .normal fr (st'.wash (st.dirty || st'.dirty))) (fun e fr st' => K (.panic e) fr (st'.wash (st.dirty || st'.dirty))) order.length order (Array.replicate ops.size false) fr.sl (st.wash false) fr (st.wash false)) .no
      | none => .no
  | .seq a b, fr, st, K => ev tab cal n nt k a fr st (seqK nt (firstId b) (fun fr st => ev tab cal n nt k b fr st K) K)
  | .cond c a b, fr, st, K => match ofOpd fr.env c with
    | some (.bool t) => O.test (isSet fr.sl c) t (ev tab cal n nt k a fr st K) (ev tab cal n nt k b fr st K)
    | _ => .no
  | .block id a, fr, st, K => ev tab cal n nt k a fr st (blockK id K)
  | .loop a, fr, st, K => match lkp (firstId a) nt.turns with
    | some m => evTurns (fun fr st K => ev tab cal n nt k a fr st K) K m fr st
    | none => match lkp (firstId a) nt.loops with
      | some c => cutTo c fr st (evLoop (fun fr st K => ev tab cal n nt k a fr st K) c K k)
      | none => .no
  | .exit id, fr, st, K => K (.exit id) fr st
  | .ret, fr, st, K => K .ret fr st
  | _, _, _, _ => .no

/-! ### Places in code -/
inductive Dir where
  | l | r | t | e | b | p
def subC : List Dir → Code → Code
  | [], c => c
  | .l :: ds, .seq a _ => subC ds a
  | .r :: ds, .seq _ b => subC ds b
  | .t :: ds, .cond _ a _ => subC ds a
  | .e :: ds, .cond _ _ b => subC ds b
  | .b :: ds, .block _ a => subC ds a
  | .p :: ds, .loop a => subC ds a
  | _, c => c
def cutOf (x : Option Cut) : Cut :=
  match x with
  | some c => c
  | none => ⟨[], []⟩
/-- What follows behind a place: of each loop around it what follows at its head. -/
def kAt (tab : Tab) (cal : Cal T) (n : Nat) (nt : Notes) (k : Nat) : List (Fr → St → O T) → List Dir → Code → (Ex → Fr → St → O T) → (Ex → Fr → St → O T)
  | _, [], _, K => K
  | Rs, .l :: ds, .seq a b, K => kAt tab cal n nt k Rs ds a (seqK nt (firstId b) (fun fr st => ev tab cal n nt k b fr st K) K)
  | Rs, .r :: ds, .seq _ b, K => kAt tab cal n nt k Rs ds b K
  | Rs, .t :: ds, .cond _ a _, K => kAt tab cal n nt k Rs ds a K
  | Rs, .e :: ds, .cond _ _ b, K => kAt tab cal n nt k Rs ds b K
  | Rs, .b :: ds, .block id a, K => kAt tab cal n nt k Rs ds a (blockK id K)
  | R :: Rs, .p :: ds, .loop a, K => kAt tab cal n nt k Rs ds a (loopK (cutOf (lkp (firstId a) nt.loops)) R K)
  | _, _, _, K => K
/-- A loop at a place: from its head on. -/
def loopAt (tab : Tab) (cal : Cal T) (n : Nat) (nt : Notes) (k : Nat) (Rs : List (Fr → St → O T)) (ds : List Dir) (c : Code) (K : Ex → Fr → St → O T) (j : Nat) (fr : Fr) (st : St) : O T :=
  evLoop (fun fr st K => ev tab cal n nt k (subC (ds ++ [.p]) c) fr st K) (cutOf (lkp (firstId (subC (ds ++ [.p]) c)) nt.loops)) (kAt tab cal n nt k Rs ds c K) j fr st
/-- Code at a place, and what follows. -/
def codeAt (tab : Tab) (cal : Cal T) (n : Nat) (nt : Notes) (k : Nat) (Rs : List (Fr → St → O T)) (ds : List Dir) (c : Code) (K : Ex → Fr → St → O T) (fr : Fr) (st : St) : O T :=
  hide (fun fr st => ev tab cal n nt k (subC ds c) fr st (kAt tab cal n nt k Rs ds c K)) fr st
theorem codeAt_eq (tab : Tab) (cal : Cal T) (n : Nat) (nt : Notes) (k : Nat) (Rs : List (Fr → St → O T)) (ds : List Dir) (c : Code) (K : Ex → Fr → St → O T) (fr : Fr) (st : St) :
    codeAt tab cal n nt k Rs ds c K fr st = ev tab cal n nt k (subC ds c) fr st (kAt tab cal n nt k Rs ds c K) := hide_eq _ _ _

/-- The arguments' slots. -/
def argEnv : List SV → Nat → Env
  | [], _ => []
  | v :: vs, i => (i, v) :: argEnv vs (Nat.succ i)
def resVals (tab : Tab) (fr : Fr) (st : St) : List ResultVar → Option (List SV)
  | [] => some []
  | .tmp t :: rs => match lkp t fr.env with
    | some v => match resVals tab fr st rs with
      | some vs => some (v :: vs)
      | none => none
    | none => none
  | .cell a t :: rs => match lkp a fr.env, lkp t tab with
    | some (.ptr j off), some k => match lkp j st.H with
      | some (.cells _ vs) => match partOf k.isAgg off k.size vs with
        | some v => match resVals tab fr st rs with
          | some vs => some (v :: vs)
          | none => none
        | none => none
      | _ => none
    | _, _ => none
def resVal : List SV → SV
  | [v] => v
  | vs => .tup vs

/-- What follows behind a function's body. -/
def finK (tab : Tab) (rs : List ResultVar) (K : SV → St → O T) (Kp : PV → St → O T) : Ex → Fr → St → O T := fun e fr st =>
  match e, fr.dfs with
  | .normal, [] | .ret, [] => match resVals tab fr st rs with
    | some vs => K (resVal vs) st
    | none => .no
  | .panic e, [] => Kp e st
  | _, _ => .no
def bodyOf (fn : Func) : Code :=
  match fn.body with
  | some c => c
  | none => .skip
/-- A function's body, without deferred calls; 'b': the names below it are its caller's. -/
def evFn (tab : Tab) (cal : Cal T) (fn : Func) (nt : Notes) (k : Nat) (b : Nat) (args : List SV) (sl : List Nat) (st : St) (K : SV → St → O T) (Kp : PV → St → O T) : O T :=
  ifb (fn.body.isSome) (ev tab cal fn.ntmps nt k (bodyOf fn) ⟨argEnv args 0, [], b, sl⟩ st (finK tab fn.results.toList K Kp)) (.no)
end
end Go.Aq
