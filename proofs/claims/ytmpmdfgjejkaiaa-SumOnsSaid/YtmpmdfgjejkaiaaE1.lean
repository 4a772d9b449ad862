/- An evaluator of the translated code over names of memory, by which a Go function comes to a plain Lean function. -/
import Derived.Calls
import Derived.KernelRfl
namespace Go.Aq

/-- Values as the evaluator sees them: places in memory by name. -/
inductive SV where
  | int (k : IntKind) (n : Int)
  | bool (b : Bool)
  | str (s : ByteArray)
  | ptr (j off : Nat)
  | osl (j : Nat)
  | eptr (j : Nat) (i : Int)
  | clo (f : FuncId) (caps : List SV)
  | iface (t : TypeId) (v : SV)
  | agg (cs : List SV)
  | tup (vs : List SV)
  | nilp | nilsl | nilf | nili

/-- What is known of a named place. -/
inductive HO where
  | cells (T : TypeId) (vs : List SV)
  | ints (T : TypeId) (k : IntKind) (xs : List Int)

/-- What code panics with: a value of a type, in cells that name no place. -/
inductive GL where
  | int (k : IntKind) (n : Int)
  | bool (b : Bool)
  | str (s : ByteArray)
structure PV where
  t : TypeId
  agg : Bool
  cs : List GL
def ofGL : GL → SV
  | .int k n => .int k n
  | .bool b => .bool b
  | .str s => .str s
def ofPV (p : PV) : SV := .iface p.t (match p.agg, p.cs with | false, [c] => ofGL c | _, cs => .agg (cs.map ofGL))
def toGL : SV → Option GL
  | .int k n => some (.int k n)
  | .bool b => some (.bool b)
  | .str s => some (.str s)
  | _ => none
def toGLs : List SV → Option (List GL)
  | [] => some []
  | v :: vs => match toGL v with
    | some g => match toGLs vs with
      | some gs => some (g :: gs)
      | none => none
    | none => none
def toPV : SV → Option PV
  | .iface t (.agg cs) => match toGLs cs with | some gs => some ⟨t, true, gs⟩ | none => none
  | .iface t v => match toGL v with | some g => some ⟨t, false, [g]⟩ | none => none
  | _ => none

/-- What a piece of code comes to. -/
inductive O (T : Type) where
  | ok (t : T)
  | pan (e : PV)
  | no

def O.both {α β : Type} (m : O α) (f : α → O β) (g : PV → O β) : O β :=
  match m with
  | .ok a => f a
  | .pan e => g e
  | .no => .no
def O.bind {α β : Type} (m : O α) (f : α → O β) : O β := O.both m f .pan
/-- A test that the code makes. -/
def O.cond {α : Type} (b : Bool) (x y : O α) : O α := match b with | true => x | false => y
/-- A test without which the evaluator doesn't go on. -/
def O.chk {α : Type} (b : Bool) (x : O α) : O α := match b with | true => x | false => .no

/-- What is known of memory: the first free name; may a known place have been written? the places. -/
structure St where
  nx : Nat
  dirty : Bool
  H : List (Nat × HO)
def lkp {α : Type} (t : Nat) : List (Nat × α) → Option α
  | [] => none
  | (s, v) :: r => bif Nat.beq s t then some v else lkp t r
def St.put (st : St) (j : Nat) (o : HO) : St := ⟨st.nx, true, (j, o) :: st.H⟩
def St.add (st : St) (o : HO) : St := ⟨Nat.succ st.nx, st.dirty, (st.nx, o) :: st.H⟩

def St.wash (st : St) (d : Bool) : St := ⟨st.nx, d, st.H⟩

inductive Ex where
  | normal
  | exit (id : Nat)
  | ret
  | panic (e : PV)

abbrev Env := List (Nat × SV)
/-- A call's own: its slots, its deferred calls, the first name that is not its caller's. -/
structure Fr where
  env : Env
  dfs : List SV
  base : Nat

/-- What is known of a type. -/
inductive TK where
  | int (k : IntKind)
  | bool
  | str
  | ptr
  | slice (e : TypeId)
  | func
  | iface
  | struct (fs : List (Nat × Nat × Bool)) (size : Nat) (zero : List SV)     -- each field: offset, size, is it an aggregate?

abbrev Tab := List (Nat × TK)

def TK.zero : TK → SV
  | .int k => .int k 0
  | .bool => .bool false
  | .str => .str ByteArray.empty
  | .ptr => .nilp
  | .slice _ => .nilsl
  | .func => .nilf
  | .iface => .nili
  | .struct _ _ z => .agg z
def TK.isAgg : TK → Bool
  | .struct _ _ _ => true
  | _ => false
def TK.size : TK → Nat
  | .struct _ n _ => n
  | _ => 1
def SV.cellsOf : SV → List SV
  | .agg cs => cs
  | v => [v]
/-- A part of some cells. -/
def partOf (isAgg : Bool) (off size : Nat) (cs : List SV) : Option SV :=
  match isAgg with
  | true => bif Nat.ble (off + size) cs.length then some (.agg ((cs.drop off).take size)) else none
  | false => cs[off]?
/-- Some cells, a part of them another one. -/
def setPart (off : Nat) (new cs : List SV) : List SV := cs.take off ++ (new ++ cs.drop (off + new.length))

/-- May a value stand in one cell? -/
def isLeaf : SV → Bool
  | .agg _ => false
  | .tup _ => false
  | _ => true
def ofConst : Value → Option SV
  | .int k n => some (.int k n)
  | .bool b => some (.bool b)
  | .string s => some (.str s)
  | .pointer none => some .nilp
  | .slice none 0 0 => some .nilsl
  | .nilFunc => some .nilf
  | .nilIface => some .nili
  | _ => none
def ofOpd (env : Env) : Operand → Option SV
  | .tmp t => lkp t env
  | .const v => ofConst v
  | .global _ => none
  | .func f => some (.clo f [])
def ofOpds (env : Env) : List Operand → Option (List SV)
  | [] => some []
  | x :: xs => match ofOpd env x with
    | some v => match ofOpds env xs with
      | some vs => some (v :: vs)
      | none => none
    | none => none

/-- The byte at a place. -/
def bt (s : ByteArray) (i : Int) : Int := ((s.data.toList.getD i.toNat 0).toNat : Int)
def strOf (xs : List Int) : ByteArray := ⟨(xs.map fun n => UInt8.ofNat n.toNat).toArray⟩
def bytesOf (s : ByteArray) : List Int := s.data.toList.map fun c => (c.toNat : Int)

def bAnd (k : IntKind) (a b : Int) : Int := k.wrap (BitVec.ofInt k.bits a &&& BitVec.ofInt k.bits b).toNat
def bOr (k : IntKind) (a b : Int) : Int := k.wrap (BitVec.ofInt k.bits a ||| BitVec.ofInt k.bits b).toNat
def bXor (k : IntKind) (a b : Int) : Int := k.wrap (BitVec.ofInt k.bits a ^^^ BitVec.ofInt k.bits b).toNat
def bAndNot (k : IntKind) (a b : Int) : Int := k.wrap (BitVec.ofInt k.bits a &&& ~~~(BitVec.ofInt k.bits b)).toNat
def shL (k : IntKind) (a b : Int) : Int := k.wrap (a * 2 ^ (min b.toNat k.bits))
def shR (k : IntKind) (a b : Int) : Int := a.fdiv (2 ^ (min b.toNat k.bits))

section
variable {T : Type}

def intOp (op : BinOp) (k : IntKind) (a b : Int) (K : SV → O T) : O T :=
  match op with
  | .add => K (.int k (k.wrap (a + b)))
  | .sub => K (.int k (k.wrap (a - b)))
  | .mul => K (.int k (k.wrap (a * b)))
  | .quo => O.chk (decide (b ≠ 0)) (K (.int k (k.wrap (a.tdiv b))))
  | .rem => O.chk (decide (b ≠ 0)) (K (.int k (a.tmod b)))
  | .and => K (.int k (bAnd k a b))
  | .or => K (.int k (bOr k a b))
  | .xor => K (.int k (bXor k a b))
  | .andNot => K (.int k (bAndNot k a b))
  | .eql => K (.bool (decide (a = b)))
  | .neq => K (.bool (decide (a ≠ b)))
  | .lss => K (.bool (decide (a < b)))
  | .leq => K (.bool (decide (a ≤ b)))
  | .gtr => K (.bool (decide (a > b)))
  | .geq => K (.bool (decide (a ≥ b)))
  | _ => .no
def strOp (op : BinOp) (a b : ByteArray) (K : SV → O T) : O T :=
  match op with
  | .add => O.chk (decide (((a.size + b.size : Nat) : Int) ≤ 9223372036854775807)) (K (.str (a ++ b)))
  | .eql => K (.bool (decide (a = b)))
  | .neq => K (.bool (decide (a ≠ b)))
  | _ => .no
def evBin (boolT : Bool) (op : BinOp) (x y : SV) (K : SV → O T) : O T :=
  match x, y with
  | .int k a, .int k' b =>
    match op with
    | .shl => O.chk (decide (0 ≤ b)) (K (.int k (shL k a b)))
    | .shr => O.chk (decide (0 ≤ b)) (K (.int k (shR k a b)))
    | op => bif decide (k = k') then intOp op k a b K else .no
  | .str a, .str b => strOp op a b K
  | .bool a, .bool b => match boolT, op with
    | true, .eql => K (.bool (decide (a = b)))
    | true, .neq => K (.bool (decide (a ≠ b)))
    | _, _ => .no
  | _, _ => .no
def isBoolT : Option TK → Bool
  | some .bool => true
  | _ => false
def evUn (op : UnOp) (x : SV) (K : SV → O T) : O T :=
  match op, x with
  | .not, .bool b => K (.bool !b)
  | .neg, .int k n => K (.int k (k.wrap (0 - n)))
  | _, _ => .no
def evConv (src dst : TK) (x : SV) (K : SV → O T) : O T :=
  match src, dst, x with
  | _, .int k, .int _ n => K (.int k (k.wrap n))
  | .str, .str, .str s => K (.str s)
  | _, _, _ => .no
/-- 'c && x', 'c || x': a choice between two values. -/
def evPick (c a b : SV) (K : SV → O T) : O T :=
  match c, a, b with
  | .bool true, a, _ => K a
  | .bool false, _, b => K b
  | _, _, _ => .no
/-- What a function does that is called: what it hands back, or what it panics with. -/
abbrev Cal (T : Type) := FuncId → List SV → St → (SV → St → O T) → (PV → St → O T) → O T

def evBuiltin (tab : Tab) (b : Builtin) (ts : List TypeId) (args : List SV) (K : SV → O T) : O T :=
  match b, ts, args with
  | .len, [t], [.str s] => match lkp t tab with
    | some .str => K (.int .i64 (s.size : Int))
    | _ => .no
  | .min, _, [.int k a, .int k' b] => bif decide (k = k') then K (.int k (min a b)) else .no
  | .max, _, [.int k a, .int k' b] => bif decide (k = k') then K (.int k (max a b)) else .no
  | _, _, _ => .no

/-- Operations that neither look at memory nor change it. -/
def evQ (tab : Tab) (o : Op) (env : Env) (K : SV → O T) : O T :=
  match o with
  | .move x | .assign x => match ofOpd env x with | some v => K v | none => .no
  | .pick c a b => match ofOpd env c, ofOpd env a, ofOpd env b with
    | some c, some a, some b => evPick c a b K
    | _, _, _ => .no
  | .nilCheck x => match ofOpd env x with
    | some (.ptr j off) => K (.ptr j off)
    | _ => .no
  | .binOp op t x y _ => match ofOpd env x, ofOpd env y with
    | some x, some y => evBin (isBoolT (lkp t tab)) op x y K
    | _, _ => .no
  | .unOp op _ x => match ofOpd env x with | some x => evUn op x K | none => .no
  | .convert s d x => match lkp s tab, lkp d tab, ofOpd env x with
    | some s, some d, some x => evConv s d x K
    | _, _, _ => .no
  | .makeFunc (.func f) first caps => match first.toList, ofOpds env caps.toList with
    | [], some vs => K (.clo f vs)
    | _, _ => .no
  | .fieldAddr s x f => match lkp s tab, ofOpd env x with
    | some (.struct fs _ _), some (.ptr j off) => match fs[f]? with
      | some (o, n, _) => bif Nat.ble 1 n then K (.ptr j (off + o)) else .no
      | none => .no
    | _, _ => .no
  | .field s x f => match lkp s tab, ofOpd env x with
    | some (.struct fs _ _), some (.agg cs) => match fs[f]? with
      | some (o, n, g) => match partOf g o n cs with | some v => K v | none => .no
      | none => .no
    | _, _ => .no
  | .extract x i => match ofOpd env x with
    | some (.tup vs) => match vs[i]? with | some v => K v | none => .no
    | _ => .no
  | .index t x i => match lkp t tab, ofOpd env x, ofOpd env i with
    | some .str, some (.str s), some (.int _ i) => O.chk (decide (0 ≤ i ∧ i < (s.size : Int))) (K (.int .u8 (bt s i)))
    | _, _, _ => .no
  | .slice t x lo hi mx => match lkp t tab, ofOpd env x, mx with
    | some .str, some (.str s), none =>
      match lo, hi with
      | none, none => K (.str (s.extract 0 s.size))
      | some l, none => match ofOpd env l with
        | some (.int _ l) => O.chk (decide (0 ≤ l ∧ l ≤ (s.size : Int))) (K (.str (s.extract l.toNat s.size)))
        | _ => .no
      | none, some h => match ofOpd env h with
        | some (.int _ h) => O.chk (decide (0 ≤ h ∧ h ≤ (s.size : Int))) (K (.str (s.extract 0 h.toNat)))
        | _ => .no
      | some l, some h => match ofOpd env l, ofOpd env h with
        | some (.int _ l), some (.int _ h) => O.chk (decide (0 ≤ l ∧ l ≤ h ∧ h ≤ (s.size : Int))) (K (.str (s.extract l.toNat h.toNat)))
        | _, _ => .no
    | _, _, _ => .no
  | .makeInterface t x => match lkp t tab, ofOpd env x with
    | some .iface, _ => .no
    | some _, some v => K (.iface t v)
    | _, _ => .no
  | .call c => match ofOpds env c.args.toList with
    | some args => match c.callee with
      | .builtin b => evBuiltin tab b c.argTypes.toList args K
      | _ => .no
    | none => .no
  | _ => .no

/-- A load of what is known. -/
def evLoad (tab : Tab) (t : TypeId) (a : Operand) (env : Env) (st : St) (K : Nat → SV → O T) : O T :=
  match lkp t tab, ofOpd env a with
  | some k, some (.ptr j off) => match lkp j st.H with
    | some (.cells _ vs) => match partOf k.isAgg off k.size vs with
      | some v => K j v
      | none => .no
    | _ => .no
  | _, _ => .no

/-- The three makes of operations: those that are quiet, loads, those that act. -/
def isQ : Op → Bool
  | .move _ | .assign _ | .pick _ _ _ | .nilCheck _ | .binOp _ _ _ _ _ | .unOp _ _ _ | .convert _ _ _ | .makeFunc _ _ _ | .fieldAddr _ _ _ | .field _ _ _ | .extract _ _ | .index _ _ _ | .slice _ _ _ _ _ | .makeInterface _ _ => true
  | .call c => match c.callee with
    | .builtin _ => true
    | _ => false
  | _ => false
def isLoad : Op → Bool
  | .load _ _ => true
  | _ => false

def evA (tab : Tab) (cal : Cal T) (o : Op) (env : Env) (st : St) (K : SV → St → O T) (Kp : PV → St → O T) : O T :=
  match o with
  | .alloc t => match lkp t tab with
    | some k => K (.ptr st.nx 0) (st.add (.cells t k.zero.cellsOf))
    | none => .no
  | .box t x => match ofOpd env x with
    | some v => K (.ptr st.nx 0) (st.add (.cells t v.cellsOf))
    | none => .no
  | .store t a x => match lkp t tab, ofOpd env a, ofOpd env x with
    | some k, some (.ptr j off), some v => match lkp j st.H with
      | some (.cells T vs) => bif Nat.beq v.cellsOf.length k.size && Nat.ble (off + k.size) vs.length && v.cellsOf.all isLeaf then K (.tup []) (st.put j (.cells T (setPart off v.cellsOf vs))) else .no
      | _ => .no
    | _, _, _ => .no
  | .call c => match ofOpds env c.args.toList with
    | some args => match c.callee with
      | .value f => match ofOpd env f with
        | some (.clo f caps) => cal f (args ++ caps) st K Kp
        | _ => .no
      | _ => .no
    | none => .no
  | .panic x => match ofOpd env x with
    | some v => match toPV v with
      | some p => Kp p st
      | none => .no
    | none => .no
  | _ => .no

def evOp (tab : Tab) (cal : Cal T) (o : Op) (env : Env) (st : St) (K : SV → St → O T) (Kp : PV → St → O T) : O T :=
  bif isQ o then evQ tab o env (K · st) else
  match o with
  | .load t a => evLoad tab t a env st fun _ v => K v st
  | o => evA tab cal o env st K Kp

def Fr.put (fr : Fr) (d : Option Tmp) (v : SV) : Fr :=
  match d with
  | some d => ⟨(d, v) :: fr.env, fr.dfs, fr.base⟩
  | none => fr
/-- The slot of an operation's result. -/
def dstOf (ops : List Oper) (j : Nat) : Option Tmp := match ops[j]? with | some o => o.dst | none => none

def okDst (n : Nat) : Option Tmp → Bool
  | some d => Nat.blt d n
  | none => true
/-- Operations one behind the other. -/
def evOps (tab : Tab) (cal : Cal T) (n : Nat) (all : List Oper) : List Oper → Fr → St → (Fr → St → O T) → (PV → Fr → St → O T) → O T
  | [], fr, st, K, _ => K fr st
  | o :: rest, fr, st, K, Kp =>
    bif okDst n o.dst then
      match o.guard with
      | none => evOp tab cal o.op fr.env st (fun v st => evOps tab cal n all rest (fr.put o.dst v) st K Kp) (fun e st => Kp e fr st)
      | some (j, want) =>
        match dstOf all j with
        | some d => match lkp d fr.env with
          | some (.bool b) =>
            O.cond b
              (match want with
                | true => evOp tab cal o.op (fr.put (some d) (.bool true)).env st (fun v st => evOps tab cal n all rest ((fr.put (some d) (.bool true)).put o.dst v) st K Kp) (fun e st => Kp e fr st)
                | false => evOps tab cal n all rest ((fr.put (some d) (.bool true)).put o.dst (.tup [])) st K Kp)
              (match want with
                | false => evOp tab cal o.op (fr.put (some d) (.bool false)).env st (fun v st => evOps tab cal n all rest ((fr.put (some d) (.bool false)).put o.dst v) st K Kp) (fun e st => Kp e fr st)
                | true => evOps tab cal n all rest ((fr.put (some d) (.bool false)).put o.dst (.tup [])) st K Kp)
          | _ => .no
        | none => .no
    else .no

/-! ### A region that draws its order: gone through in one order that stands for all -/
def isEff (o : Oper) : Bool := !(isQ o.op || isLoad o.op)
/-- May a load still be to come, as far as the operations that act tell? -/
def pend (ops : Array Oper) (listed : Array Bool) : Bool :=
  (List.range ops.size).any fun l => (match ops[l]? with | some o => isLoad o.op | none => false) &&
    (List.range ops.size).all fun e => !(listed.getD e false) || (match ops[e]? with | some o => !isEff o || o.after.all (fun ed => !(Region.binds .any ed) || !(Nat.beq ed.on l)) | none => true)
/-- The operations ahead that may come up now. -/
def readyNow (ops : Array Oper) (listed : Array Bool) : List Nat :=
  (List.range ops.size).filter fun i =>
    !listed.getD i true && ((ops[i]?).map (·.after.all fun e => !Region.binds .any e || listed.getD e.on false)).getD false
def slotsOf : List Operand → List Tmp
  | [] => []
  | .tmp t :: r => t :: slotsOf r
  | _ :: r => slotsOf r
def looksAt (ops : Array Oper) (o : Oper) : List Tmp :=
  slotsOf o.op.operands.toList ++ (match o.guard with | some (g, _) => ((ops[g]?).bind (·.dst)).toList | none => [])
def has (t : Nat) : List Nat → Bool
  | [] => false
  | s :: r => Nat.beq s t || has t r
def apartOk (ops : Array Oper) (x y : Oper) : Bool :=
  (match x.dst with
   | some d => !(has d (looksAt ops y)) && (match y.dst with | some e => !(Nat.beq e d) | none => true)
   | none => true) &&
  (match y.dst with
   | some d => !(has d (looksAt ops x))
   | none => true)
def freeNow (ops : Array Oper) (listed : Array Bool) (i : Nat) : Bool :=
  match ops[i]? with
  | none => false
  | some oi => (List.range ops.size).all fun j => Nat.beq j i || listed.getD j true || match ops[j]? with
      | some oj => oj.after.any (fun e => Region.binds .any e && Nat.beq e.on i) || apartOk ops oi oj
      | none => true
def orderOk (ops : Array Oper) : List Nat → Array Bool → Bool
  | [], listed => (readyNow ops listed).isEmpty
  | i :: c, listed =>
    (match ops[i]? with
      | some o => (bif isEff o then (match readyNow ops listed with | [j] => Nat.beq j i | _ => false) else freeNow ops listed i && has i (readyNow ops listed))
      | none => false) && orderOk ops c (listed.setIfInBounds i true)
def noSelect : List Oper → Bool
  | [] => true
  | o :: r => (match o.op with | .select _ _ => false | _ => true) && noSelect r
def isDst (t : Nat) (o : Oper) : Bool := match o.dst with | some d => Nat.beq d t | none => false
def envOut (ops : List Oper) : Env → Env
  | [] => []
  | (t, v) :: r => bif ops.any (isDst t) then envOut ops r else (t, v) :: envOut ops r

def doD (tab : Tab) (cal : Cal T) (ops : Array Oper) (st0 : St) (envP : Env) (i : Nat) (o : Oper) (listed : Array Bool) (fr : Fr) (st : St) (K : SV → St → O T) (Kp : PV → Fr → St → O T) : O T :=
  bif isQ o.op then evQ tab o.op fr.env (K · st) else
  match o.op with
  | .load t a => evLoad tab t a fr.env st fun j v => bif !st.dirty && (lkp j st0.H).isSome then K v st else .no
  | op => evA tab cal op fr.env st (fun v st' => bif pend ops (listed.setIfInBounds i true) then (bif st'.dirty then .no else K v st') else K v st') (fun e st' => Kp e ⟨envP, fr.dfs, fr.base⟩ st')
def evD (tab : Tab) (cal : Cal T) (n : Nat) (ops : Array Oper) (st0 : St) (envP : Env) : List Nat → Array Bool → Fr → St → (Fr → St → O T) → (PV → Fr → St → O T) → O T
  | [], _, fr, st, K, _ => K fr st
  | i :: c, listed, fr, st, K, Kp =>
    match ops[i]? with
    | none => .no
    | some o =>
      bif okDst n o.dst then
        match o.guard with
        | none => doD tab cal ops st0 envP i o listed fr st (fun v st => evD tab cal n ops st0 envP c (listed.setIfInBounds i true) (fr.put o.dst v) st K Kp) Kp
        | some (j, want) =>
          match dstOf ops.toList j with
          | some d => match lkp d fr.env with
            | some (.bool b) =>
              O.cond b
                (match want with
                  | true => doD tab cal ops st0 envP i o listed (fr.put (some d) (.bool true)) st (fun v st => evD tab cal n ops st0 envP c (listed.setIfInBounds i true) ((fr.put (some d) (.bool true)).put o.dst v) st K Kp) Kp
                  | false => evD tab cal n ops st0 envP c (listed.setIfInBounds i true) ((fr.put (some d) (.bool true)).put o.dst (.tup [])) st K Kp)
                (match want with
                  | false => doD tab cal ops st0 envP i o listed (fr.put (some d) (.bool false)) st (fun v st => evD tab cal n ops st0 envP c (listed.setIfInBounds i true) ((fr.put (some d) (.bool false)).put o.dst v) st K Kp) Kp
                  | true => evD tab cal n ops st0 envP c (listed.setIfInBounds i true) ((fr.put (some d) (.bool false)).put o.dst (.tup [])) st K Kp)
            | _ => .no
          | none => .no
      else .no

/-- Only some slots are kept. -/
def keep (env : Env) : List Nat → Env
  | [] => []
  | t :: ts => match lkp t env with
    | some v => (t, v) :: keep env ts
    | none => keep env ts
def keepN (H : List (Nat × HO)) : List Nat → List (Nat × HO)
  | [] => []
  | j :: js => match lkp j H with
    | some o => (j, o) :: keepN H js
    | none => keepN H js
/-- Of the names those of the caller's, and some of the call's own. -/
def keepH (base : Nat) (hs : List Nat) (H : List (Nat × HO)) : List (Nat × HO) := keepN H (List.range base ++ hs.map (fun j => base + j))

/-- What is kept where the evaluator forgets: slots, names, and the first name that is free then. -/
structure Cut where
  ts : List Nat
  hs : List Nat
  nx : Nat

mutual
def svLt (n : Nat) : SV → Bool
  | .ptr j _ => Nat.blt j n
  | .osl j => Nat.blt j n
  | .eptr j _ => Nat.blt j n
  | .clo _ cs => belowL n cs
  | .iface _ v => svLt n v
  | .agg cs => belowL n cs
  | .tup cs => belowL n cs
  | _ => true
def belowL (n : Nat) : List SV → Bool
  | [] => true
  | v :: vs => svLt n v && belowL n vs
end
def hoLt (n : Nat) : HO → Bool
  | .cells _ vs => belowL n vs
  | .ints _ _ _ => true
def envBelow (n : Nat) : Env → Bool
  | [] => true
  | (_, v) :: r => svLt n v && envBelow n r
def heapBelow (n : Nat) : List (Nat × HO) → Bool
  | [] => true
  | (j, o) :: r => Nat.blt j n && hoLt n o && heapBelow n r
/-- All but what is kept is forgotten. -/
def cutTo (c : Cut) (fr : Fr) (st : St) (K : Fr → St → O T) : O T :=
  bif Nat.ble (fr.base + c.nx) st.nx && envBelow (fr.base + c.nx) (keep fr.env c.ts) && belowL (fr.base + c.nx) fr.dfs && heapBelow (fr.base + c.nx) (keepH fr.base c.hs st.H) then
    K ⟨keep fr.env c.ts, fr.dfs, fr.base⟩ ⟨fr.base + c.nx, true, keepH fr.base c.hs st.H⟩ else .no

def loopK (c : Cut) (R : Fr → St → O T) (K : Ex → Fr → St → O T) : Ex → Fr → St → O T := fun e fr st =>
  match e with
  | .normal => cutTo c fr st R
  | e => K e fr st
def blockK (id : Nat) (K : Ex → Fr → St → O T) : Ex → Fr → St → O T := fun e fr st =>
  match e with
  | .exit id' => bif Nat.beq id' id then K .normal fr st else K (.exit id') fr st
  | e => K e fr st

/-- A loop, so many times at most: at its head the evaluator forgets. -/
def evLoop (body : Fr → St → (Ex → Fr → St → O T) → O T) (c : Cut) (K : Ex → Fr → St → O T) : Nat → Fr → St → O T
  | 0, _, _ => .no
  | k + 1, fr, st => body fr st (loopK c (evLoop body c K k) K)

/-- The first region in a piece of code: by it a loop is named. -/
def firstId : Code → Nat
  | .region id _ _ => id
  | .seq a _ => firstId a
  | .block _ a => firstId a
  | .loop a => firstId a
  | _ => 0

/-- Notes on code: what is kept at a loop's head (by its first region); what is kept ahead of a second half. -/
structure Notes where
  loops : List (Nat × Cut)
  cuts : List (Nat × Cut)
  orders : List (Nat × List Nat)

def seqK (nt : Notes) (id : Nat) (B : Fr → St → O T) (K : Ex → Fr → St → O T) : Ex → Fr → St → O T := fun e fr st =>
  match e with
  | .normal => match lkp id nt.cuts with
    | none => B fr st
    | some c => cutTo c fr st B
  | e => K e fr st

def ev (tab : Tab) (cal : Cal T) (n : Nat) (nt : Notes) (k : Nat) : Code → Fr → St → (Ex → Fr → St → O T) → O T
  | .skip, fr, st, K => K .normal fr st
  | .region id ops draw, fr, st, K => match draw with
    | false => evOps tab cal n ops.toList ops.toList fr st (fun fr st => K .normal fr st) (fun e fr st => K (.panic e) fr st)
    | true => match lkp id nt.orders with
      | some order => bif orderOk ops order (Array.replicate ops.size false) && Nat.beq order.length ops.size && noSelect ops.toList then
          evD tab cal n ops (st.wash false) (envOut ops.toList fr.env) order (Array.replicate ops.size false) fr (st.wash false) (fun fr st' => K .normal fr (st'.wash (st.dirty || st'.dirty))) (fun e fr st' => K (.panic e) fr (st'.wash (st.dirty || st'.dirty)))
        else .no
      | none => .no
  | .seq a b, fr, st, K => ev tab cal n nt k a fr st (seqK nt (firstId b) (fun fr st => ev tab cal n nt k b fr st K) K)
  | .cond c a b, fr, st, K => match ofOpd fr.env c with
    | some (.bool t) => O.cond t (ev tab cal n nt k a fr st K) (ev tab cal n nt k b fr st K)
    | _ => .no
  | .block id a, fr, st, K => ev tab cal n nt k a fr st (blockK id K)
  | .loop a, fr, st, K => match lkp (firstId a) nt.loops with
    | some c => cutTo c fr st (evLoop (fun fr st K => ev tab cal n nt k a fr st K) c K k)
    | none => .no
  | .exit id, fr, st, K => K (.exit id) fr st
  | .ret, fr, st, K => K .ret fr st
  | _, _, _, _ => .no

/-! ### Places in code -/
inductive Dir where
  | l | r | t | e | b | p
def subC : List Dir → Code → Code
  | [], c => c
  | .l :: ds, .seq a _ => subC ds a
  | .r :: ds, .seq _ b => subC ds b
  | .t :: ds, .cond _ a _ => subC ds a
  | .e :: ds, .cond _ _ b => subC ds b
  | .b :: ds, .block _ a => subC ds a
  | .p :: ds, .loop a => subC ds a
  | _, c => c
def cutOf (x : Option Cut) : Cut :=
  match x with
  | some c => c
  | none => ⟨[], [], 0⟩
/-- What follows behind a place: of each loop around it what follows at its head. -/
def kAt (tab : Tab) (cal : Cal T) (n : Nat) (nt : Notes) (k : Nat) : List (Fr → St → O T) → List Dir → Code → (Ex → Fr → St → O T) → (Ex → Fr → St → O T)
  | _, [], _, K => K
  | Rs, .l :: ds, .seq a b, K => kAt tab cal n nt k Rs ds a (seqK nt (firstId b) (fun fr st => ev tab cal n nt k b fr st K) K)
  | Rs, .r :: ds, .seq _ b, K => kAt tab cal n nt k Rs ds b K
  | Rs, .t :: ds, .cond _ a _, K => kAt tab cal n nt k Rs ds a K
  | Rs, .e :: ds, .cond _ _ b, K => kAt tab cal n nt k Rs ds b K
  | Rs, .b :: ds, .block id a, K => kAt tab cal n nt k Rs ds a (blockK id K)
  | R :: Rs, .p :: ds, .loop a, K => kAt tab cal n nt k Rs ds a (loopK (cutOf (lkp (firstId a) nt.loops)) R K)
  | _, _, _, K => K
/-- A loop at a place: from its head on. -/
def loopAt (tab : Tab) (cal : Cal T) (n : Nat) (nt : Notes) (k : Nat) (Rs : List (Fr → St → O T)) (ds : List Dir) (c : Code) (K : Ex → Fr → St → O T) (j : Nat) (fr : Fr) (st : St) : O T :=
  evLoop (fun fr st K => ev tab cal n nt k (subC (ds ++ [.p]) c) fr st K) (cutOf (lkp (firstId (subC (ds ++ [.p]) c)) nt.loops)) (kAt tab cal n nt k Rs ds c K) j fr st
/-- Code at a place, and what follows. -/
def codeAt (tab : Tab) (cal : Cal T) (n : Nat) (nt : Notes) (k : Nat) (Rs : List (Fr → St → O T)) (ds : List Dir) (c : Code) (K : Ex → Fr → St → O T) (fr : Fr) (st : St) : O T :=
  ev tab cal n nt k (subC ds c) fr st (kAt tab cal n nt k Rs ds c K)

/-- The arguments' slots. -/
def argEnv : List SV → Nat → Env
  | [], _ => []
  | v :: vs, i => (i, v) :: argEnv vs (Nat.succ i)
def resVals (tab : Tab) (fr : Fr) (st : St) : List ResultVar → Option (List SV)
  | [] => some []
  | .tmp t :: rs => match lkp t fr.env with
    | some v => match resVals tab fr st rs with
      | some vs => some (v :: vs)
      | none => none
    | none => none
  | .cell a t :: rs => match lkp a fr.env, lkp t tab with
    | some (.ptr j off), some k => match lkp j st.H with
      | some (.cells _ vs) => match partOf k.isAgg off k.size vs with
        | some v => match resVals tab fr st rs with
          | some vs => some (v :: vs)
          | none => none
        | none => none
      | _ => none
    | _, _ => none
def resVal : List SV → SV
  | [v] => v
  | vs => .tup vs

/-- What follows behind a function's body. -/
def finK (tab : Tab) (rs : List ResultVar) (K : SV → St → O T) (Kp : PV → St → O T) : Ex → Fr → St → O T := fun e fr st =>
  match e, fr.dfs with
  | .normal, [] | .ret, [] => match resVals tab fr st rs with
    | some vs => K (resVal vs) st
    | none => .no
  | .panic e, [] => Kp e st
  | _, _ => .no
def bodyOf (fn : Func) : Code :=
  match fn.body with
  | some c => c
  | none => .skip
/-- A function's body, without deferred calls. -/
def evFn (tab : Tab) (cal : Cal T) (fn : Func) (nt : Notes) (k : Nat) (args : List SV) (st : St) (K : SV → St → O T) (Kp : PV → St → O T) : O T :=
  bif fn.body.isSome then ev tab cal fn.ntmps nt k (bodyOf fn) ⟨argEnv args 0, [], st.nx⟩ st (finK tab fn.results.toList K Kp) else .no
end
end Go.Aq
