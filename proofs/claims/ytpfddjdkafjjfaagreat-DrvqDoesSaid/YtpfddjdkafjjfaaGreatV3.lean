/- The evaluator is right, operation by operation. -/
import Derived.Test.YtpfddjdkafjjfaaGreatV2
namespace Go.Aq
open Go.RowKit (Below)

/-! ### Types -/
mutual
def svEq : SV → Value → Bool
  | .int k n, .int k' n' => decide (k = k') && decide (n = n')
  | .bool b, .bool b' => b == b'
  | .str s, .string s' => decide (s = s')
  | .nilp, .pointer none => true
  | .nilsl, .slice none 0 0 => true
  | .nilf, .nilFunc => true
  | .nili, .nilIface => true
  | .nilm, .map none => true
  | .agg cs, .agg vs => svEqL cs vs.toList
  | _, _ => false
def svEqL : List SV → List Value → Bool
  | [], [] => true
  | c :: cs, v :: vs => svEq c v && svEqL cs vs
  | _, _ => false
end
mutual
theorem svEq_den (ν : Nat → Value) : ∀ c v, svEq c v = true → den ν c = v
  | .int k n, v, h => by cases v <;> simp [svEq] at h; obtain ⟨rfl, rfl⟩ := h; simp [den]
  | .bool b, v, h => by cases v <;> simp [svEq] at h; subst h; simp [den]
  | .str s, v, h => by cases v <;> simp [svEq] at h; subst h; simp [den]
  | .nilp, v, h => by
    cases v with
    | pointer a => cases a <;> simp [svEq] at h; simp [den]
    | _ => simp [svEq] at h
  | .nilsl, v, h => by
    cases v with
    | slice a n c =>
      cases a with
      | some _ => simp [svEq] at h
      | none =>
        cases n with
        | succ _ => simp [svEq] at h
        | zero => cases c <;> simp [svEq] at h; simp [den]
    | _ => simp [svEq] at h
  | .nilf, v, h => by cases v <;> simp [svEq] at h; simp [den]
  | .nili, v, h => by cases v <;> simp [svEq] at h; simp [den]
  | .nilm, v, h => by
    cases v with
    | map a => cases a <;> simp [svEq] at h; simp [den]
    | _ => simp [svEq] at h
  | .agg cs, v, h => by
    cases v <;> simp [svEq] at h
    rename_i vs
    simp [den, svEqL_den ν cs vs.toList h]
  | .ptr _ _, v, h | .osl _, v, h | .mp _, v, h | .ept _ _ _ _, v, h | .sl _ _ _ _, v, h | .csl _ _, v, h | .clo _ _, v, h | .iface _ _, v, h | .tup _, v, h => by cases v <;> simp [svEq] at h
theorem svEqL_den (ν : Nat → Value) : ∀ cs vs, svEqL cs vs = true → denL ν cs = vs
  | [], [], _ => by simp [denL]
  | c :: cs, v :: vs, h => by
    simp [svEqL] at h
    simp [denL, svEq_den ν c v h.1, svEqL_den ν cs vs h.2]
  | [], _ :: _, h => by simp [svEqL] at h
  | _ :: _, [], h => by simp [svEqL] at h
end

def aggD : TypeDesc → Bool
  | .struct _ | .array _ _ => true
  | _ => false
def fieldsChk (P : Program) : List (Nat × Nat × Bool) → List Field → Bool
  | [], [] => true
  | (o, n, g) :: xs, f :: fs => Nat.beq f.offset o && (match P.info? f.type, P.underlying f.type with | some i, some d => Nat.beq i.size n && (aggD d == g) | _, _ => false) && fieldsChk P xs fs
  | _, _ => false
def descChk (P : Program) : TK → TypeDesc → Bool
  | .int k, .int k' => decide (k = k')
  | .bool, .bool => true
  | .str, .string => true
  | .ptr, .pointer _ => true
  | .slice e, .slice e' => Nat.beq e e'
  | .map k e, .map k' e' => Nat.beq k k' && Nat.beq e e'
  | .func, .func _ _ _ => true
  | .iface, .interface _ => true
  | .struct fs _ _ _, .struct fields => fieldsChk P fs fields.toList
  | _, _ => false
def makeChk : TypeDesc → SV → Bool
  | .int _, .int _ _ => true
  | .bool, .bool _ => true
  | .string, .str _ => true
  | _, _ => false
def eqFsChk (P : Program) : Nat → List Field → List SV → Bool
  | _, [], [] => true
  | i, f :: fs, z :: zs => decide (f.name ≠ "_") && Nat.beq f.offset i && (match P.underlying f.type with | some d => makeChk d z && !aggD d | none => false) && eqFsChk P (Nat.succ i) fs zs
  | _, _, _ => false
def eqChk (P : Program) (t : TypeId) : TK → TypeDesc → Bool
  | .struct _ _ z true, .struct fields => !P.stoodInHeld t && !P.eqGuardType P.depth t && eqFsChk P 0 fields.toList z
  | _, _ => true
def tyChk (P : Program) (x : Nat × TK) : Bool :=
  match P.info? x.1, P.underlying x.1 with
  | some i, some d => Nat.beq i.size x.2.size && Nat.ble i.bytes 65536 && (match i.zero with | some z => svEq x.2.zero z | none => false) && Nat.beq x.2.zero.cellsOf.length x.2.size && svLt 0 x.2.zero && x.2.zero.cellsOf.all isLeaf && descChk P x.2 d && eqChk P x.1 x.2 d
  | _, _ => false
def tabChk (P : Program) : Tab → Bool
  | [] => true
  | x :: xs => tyChk P x && tabChk P xs
theorem tabChk_at {P : Program} {tab : Tab} (h : tabChk P tab = true) {t : Nat} {k : TK} (ht : lkp t tab = some k) : tyChk P (t, k) = true := by
  induction tab with
  | nil => simp [lkp] at ht
  | cons x xs ih =>
    obtain ⟨s, v⟩ := x
    rw [lkp_cons] at ht
    simp [tabChk] at h
    split at ht
    · rename_i e; subst e; cases ht; exact h.1
    · exact ih h.2 ht

structure TyOk (P : Program) (t : TypeId) (k : TK) : Prop where
  info : ∃ i, P.info? t = some i ∧ i.size = k.size ∧ i.bytes ≤ 65536 ∧ ∃ z, i.zero = some z ∧ ∀ ν, den ν k.zero = z
  desc : ∃ d, P.underlying t = some d ∧ descChk P k d = true ∧ eqChk P t k d = true
  zlen : k.zero.cellsOf.length = k.size
  zlt : svLt 0 k.zero = true
  zleaf : k.zero.cellsOf.all isLeaf = true
theorem tyOk {P : Program} {tab : Tab} (h : tabChk P tab = true) {t : Nat} {k : TK} (ht : lkp t tab = some k) : TyOk P t k := by
  have h := tabChk_at h ht
  unfold tyChk at h
  simp only at h
  split at h
  · rename_i i d hi hd
    simp only [Bool.and_eq_true] at h
    obtain ⟨⟨⟨⟨⟨⟨⟨h1, h6⟩, h2⟩, h3⟩, h4⟩, h7⟩, h5⟩, h8⟩ := h
    split at h2
    · rename_i z hz
      exact ⟨⟨i, hi, Nat.eq_of_beq_eq_true h1, Nat.le_of_ble_eq_true h6, z, hz, fun ν => svEq_den ν _ _ h2⟩, ⟨d, hd, h5, h8⟩, Nat.eq_of_beq_eq_true h3, h4, h7⟩
    · cases h2
  · cases h

section
variable {P : Program} {w : World}
theorem run_underlying' {t : TypeId} {d : TypeDesc} (h : P.underlying t = some d) : (underlying t).run P w = .ok d w := by simp [underlying, h]
theorem run_typeInfo' {t : TypeId} {i : TypeInfo} (h : P.info? t = some i) : (typeInfo t).run P w = .ok i w := by simp [typeInfo, h]
theorem run_sizeOf' {t : TypeId} {i : TypeInfo} (h : P.info? t = some i) : (sizeOf t).run P w = .ok i.size w := by simp [sizeOf, run_typeInfo' h]
theorem run_zeroValue' {t : TypeId} {i : TypeInfo} {z : Value} (h : P.info? t = some i) (hz : i.zero = some z) : (zeroValue t).run P w = .ok z w := by simp [zeroValue, run_typeInfo' h, hz]
theorem run_isAgg' {t : TypeId} {d : TypeDesc} (h : P.underlying t = some d) : (isAgg t).run P w = .ok (aggD d) w := by
  simp only [isAgg, Sem.run_bind, run_underlying' h, Result.andThen_ok]
  cases d <;> rfl
theorem aggD_of {k : TK} {d : TypeDesc} (h : descChk P k d = true) : aggD d = k.isAgg := by
  cases k <;> cases d <;> simp [descChk] at h <;> rfl
end

theorem cellsOf_den (ν : Nat → Value) (v : SV) : (den ν v).cells = (denL ν v.cellsOf).toArray := by
  cases v <;> simp [den, SV.cellsOf, Value.cells, denL]
  · rename_i j
    cases ν j <;> rfl
  · rename_i j
    cases ν j <;> rfl
  · rename_i j sz ch n
    cases ν j <;> first | rfl | (rename_i a _ _; cases a <;> rfl)
theorem lfOf_zero {v : SV} {l : Lf} (h : lfOf v = some l) : v = l.enc l.dflt := by
  unfold lfOf at h
  split at h <;> first | (cases h; rfl) | cases h
theorem lfsOf_zero : ∀ {vs : List SV} {ls : List Lf}, lfsOf vs = some ls → vs = encL ls (dfltL ls)
  | [], ls, h => by cases h; rfl
  | v :: vs, ls, h => by
    simp only [lfsOf] at h
    split at h
    · rename_i l hl
      split at h
      · rename_i ls' hls
        cases h
        have ih := lfsOf_zero hls
        rw [lfOf_zero hl, ih]
        cases ls' with
        | nil => rfl
        | cons m ls => rfl
      · cases h
    · cases h
theorem lfs_zero {k : TK} {ls : List Lf} (h : k.lfs = some ls) : k.zero.cellsOf = encL ls (dfltL ls) := by
  unfold TK.lfs at h
  split at h
  · rename_i e; cases h; exact lfsOf_zero e
  · cases h
theorem lfs_ne {k : TK} {ls : List Lf} (h : k.lfs = some ls) : ls ≠ [] := by
  unfold TK.lfs at h
  split at h
  · cases h; simp
  · cases h
theorem lfs_size {P : Program} {t : TypeId} {k : TK} (ht : TyOk P t k) {ls : List Lf} (h : k.lfs = some ls) : ls.length = k.size := by
  rw [← ht.zlen, lfs_zero h, encL_length]
theorem denL_length (ν : Nat → Value) (vs : List SV) : (denL ν vs).length = vs.length := by simp [denL_eq]
/-! ### Operands -/
theorem ofConst_den (ν : Nat → Value) {v : Value} {x : SV} (h : ofConst v = some x) : den ν x = v ∧ svLt 0 x = true := by
  unfold ofConst at h
  split at h <;> first | (cases h; exact ⟨by simp [den], by simp [svLt]⟩) | cases h

/-- The slots are as the evaluator has them. -/
structure EnvOk (ν : Nat → Value) (n nx : Nat) (fr : Fr) (a : Act) : Prop where
  size : a.tmps.size = n
  get : ∀ t v, lkp t fr.env = some v → a.tmps[t]? = some (den ν v) ∧ svLt nx v = true
  dfs : a.defers = (denL ν fr.dfs).map fun v => match v with | .func fn first caps => ⟨.fn fn caps, first⟩ | _ => ⟨.nil, #[]⟩
  dlt : belowL nx fr.dfs = true

section
variable {ν : Nat → Value} {n nx : Nat} {fr : Fr} {a : Act}
theorem ofOpd_den (h : EnvOk ν n nx fr a) {x : Operand} {v : SV} (hx : ofOpd fr.env x = some v) : a.eval x = den ν v ∧ svLt nx v = true := by
  cases x with
  | tmp t =>
    have := h.get t v hx
    refine ⟨?_, this.2⟩
    simp [Act.eval, Array.getD_eq_getD_getElem?, this.1]
  | const c =>
    have := ofConst_den ν hx
    exact ⟨this.1.symm, svLt_mono (Nat.zero_le _) v this.2⟩
  | global g => cases hx
  | func f => cases hx; exact ⟨by simp [Act.eval, den, denL], by simp [svLt, belowL]⟩
theorem ofOpds_den (h : EnvOk ν n nx fr a) : ∀ {xs : List Operand} {vs : List SV}, ofOpds fr.env xs = some vs → xs.map a.eval = denL ν vs ∧ belowL nx vs = true
  | [], vs, hx => by cases hx; simp [denL, belowL]
  | x :: xs, vs, hx => by
    simp only [ofOpds] at hx
    split at hx
    · rename_i v hv
      split at hx
      · rename_i vs' hvs
        cases hx
        have h1 := ofOpd_den h hv
        have h2 := ofOpds_den h hvs
        simp [denL, belowL, h1, h2]
      · cases hx
    · cases hx
theorem ofParts_den (h : EnvOk ν n nx fr a) : ∀ {xs : List (Nat × Operand)} {vs : List (Nat × SV)}, ofParts fr.env xs = some vs → xs.map (fun p => (p.1, a.eval p.2)) = vs.map (fun p => (p.1, den ν p.2)) ∧ ∀ p ∈ vs, svLt nx p.2 = true
  | [], vs, hx => by cases hx; simp
  | (i, x) :: xs, vs, hx => by
    simp only [ofParts] at hx
    split at hx
    · rename_i v hv
      split at hx
      · rename_i vs' hvs
        cases hx
        have h1 := ofOpd_den h hv
        have h2 := ofParts_den h hvs
        refine ⟨by simp [h1.1, h2.1], fun p hp => ?_⟩
        rcases List.mem_cons.1 hp with rfl | hp
        · exact h1.2
        · exact h2.2 p hp
      · cases hx
    · cases hx
end
end Go.Aq
