/- The evaluator is right: one operation. -/
import Derived.Test.YtpfddjdkafjjfaaGreatV3
import Derived.Laws.StructEq
namespace Go.Aq
open Go.RowKit (Below)

/-- A panic, as the machine has it. -/
def panOf (e : PV) : List PanicEntry := [{ v := den (fun _ => .pointer none) (ofPV e), recovered := false }]
theorem toGL_of {v : SV} {g : GL} (h : toGL v = some g) : v = ofGL g := by cases v <;> simp [toGL] at h <;> subst h <;> rfl
theorem toGLs_of : ∀ {vs : List SV} {gs : List GL}, toGLs vs = some gs → vs = gs.map ofGL
  | [], gs, h => by simp [toGLs] at h; subst h; rfl
  | v :: vs, gs, h => by
    simp only [toGLs] at h
    split at h
    · rename_i g hg
      split at h
      · rename_i gs' hgs
        cases h
        rw [toGL_of hg, toGLs_of hgs]; rfl
      · cases h
    · cases h
theorem toPV_of {v : SV} {p : PV} (h : toPV v = some p) : v = ofPV p := by
  unfold toPV at h
  split at h
  · split at h
    · rename_i gs hg; cases h; rw [toGLs_of hg]; rfl
    · cases h
  · split at h
    · rename_i g hg; cases h; rw [toGL_of hg]; rfl
    · cases h
  · cases h
theorem ofGL_lt (n : Nat) (g : GL) : svLt n (ofGL g) = true := by cases g <;> rfl
theorem ofPV_lt (n : Nat) (p : PV) : svLt n (ofPV p) = true := by
  obtain ⟨t, a, cs⟩ := p
  unfold ofPV
  simp only [svLt]
  split
  · exact ofGL_lt n _
  · simp only [svLt, belowL_iff, List.mem_map]
    rintro v ⟨g, _, rfl⟩
    exact ofGL_lt n g
theorem den_ofPV (ν : Nat → Value) (p : PV) : den ν (ofPV p) = den (fun _ => .pointer none) (ofPV p) :=
  den_congr (n := 0) (fun j hj => absurd hj (Nat.not_lt_zero j)) _ (ofPV_lt 0 p)

/-- What is asked of a function that is called. -/
def CalPost {T : Type} (S : Nat → Prop) (w0 : World) (ν : Nat → Value) (st : St) (w : World) (K : SV → St → O T) (Kp : PV → St → O T) (res : O T) : Ending → World → Prop
  | .returned v, w' => ∃ ν' st' r, RelW S w0 ν' st' w' ∧ Step ν st w ν' st' w' ∧ v = den ν' r ∧ svLt st'.nx r = true ∧ K r st' = res
  | .panicked ch, w' => ∃ ν' st' e, RelW S w0 ν' st' w' ∧ Step ν st w ν' st' w' ∧ ch = panOf e ∧ Kp e st' = res
  | .outgrown, _ => False
def CalOk (P : Program) {T : Type} (cal : Cal T) : Prop :=
  ∀ f args sl st (K : SV → St → O T) (Kp : PV → St → O T), cal f args sl st K Kp ≠ .no → (∀ as w, (callFunc f as).run P w = .ok (.enter f as) w) ∧
    ∀ S w0 ν w, RelW S w0 ν st w → belowL st.nx args = true → Calls P f (denL ν args).toArray w (CalPost S w0 ν st w K Kp (cal f args sl st K Kp))

theorem O.chk_ne {α : Type} {b : Bool} {x res : O α} (h : O.chk b x = res) (hne : res ≠ .no) : b = true ∧ x = res := by
  rw [O.chk_eq] at h
  cases b with
  | true => exact ⟨rfl, h⟩
  | false => exact absurd h.symm hne
theorem O.chkC_ne {α : Type} {c b : Bool} {x res : O α} (h : O.chkC c b x = res) (hne : res ≠ .no) : b = true ∧ x = res := by
  cases c with
  | true => cases b with
    | true => exact ⟨rfl, h⟩
    | false => exact absurd h.symm hne
  | false => exact O.chk_ne h hne

section
variable {P : Program} {o : Oper} {a : Act} {w w' : World} {next : Act → World → Prop} {Q : Exit → Act → World → Prop} {v : Value}
theorem wp_value (h : (execOp a.eval o).run P w = .ok (.value v) w') (hn : next (a.put o.dst v) w') : o.wp P a w next Q := by
  unfold Oper.wp; rw [h]; exact hn
theorem wp_unit (h : (execOp a.eval o).run P w = .ok .skip w') (hn : next (a.put o.dst undef) w') : o.wp P a w next Q := by
  unfold Oper.wp; rw [h]; exact hn
end

theorem intOp_run {P : Program} {T : Type} {op : BinOp} {k : IntKind} {x y : Int} {K : SV → O T} {res : O T} (ν : Nat → Value) {cst : Bool} (h : intOp cst op k x y K = res) (hne : res ≠ .no) (hs : op ≠ .shl) (hr : op ≠ .shr) (t : TypeId) :
    ∃ v, K v = res ∧ svLt 0 v = true ∧ ∀ w, (binOp op t (.int k x) (.int k y)).run P w = .ok (den ν v) w := by
  cases op <;> simp only [intOp] at h
  case shl => exact absurd rfl hs
  case shr => exact absurd rfl hr
  case add => exact ⟨_, h, rfl, fun w => by simp [Go.binOp, Op.intArith, den]⟩
  case sub => exact ⟨_, h, rfl, fun w => by simp [Go.binOp, Op.intArith, den]⟩
  case mul => exact ⟨_, h, rfl, fun w => by simp [Go.binOp, Op.intArith, den]⟩
  case quo => obtain ⟨hb, h⟩ := O.chkC_ne h hne; simp only [decide_eq_true_eq] at hb; exact ⟨_, h, rfl, fun w => by simp [Go.binOp, Op.intDiv, den, hb]⟩
  case rem => obtain ⟨hb, h⟩ := O.chkC_ne h hne; simp only [decide_eq_true_eq] at hb; exact ⟨_, h, rfl, fun w => by simp [Go.binOp, Op.intDiv, den, hb]⟩
  case and => exact ⟨_, h, rfl, fun w => by simp [Go.binOp, Op.intBits, den, bAnd]⟩
  case or => exact ⟨_, h, rfl, fun w => by simp [Go.binOp, Op.intBits, den, bOr]⟩
  case xor => exact ⟨_, h, rfl, fun w => by simp [Go.binOp, Op.intBits, den, bXor]⟩
  case andNot => exact ⟨_, h, rfl, fun w => by simp [Go.binOp, Op.intBits, den, bAndNot]⟩
  case eql => exact ⟨_, h, rfl, fun w => by simp only [Go.binOp, Op.intCmp, den, ne_eq, not_true_eq_false, if_false, Sem.run_pure]; congr 2⟩
  case neq => exact ⟨_, h, rfl, fun w => by simp only [Go.binOp, Op.intCmp, den, ne_eq, not_true_eq_false, if_false, Sem.run_pure]; congr 2; by_cases e : x = y <;> simp [e, bne]⟩
  case lss => exact ⟨_, h, rfl, fun w => by simp [Go.binOp, Op.intCmp, den]⟩
  case leq => exact ⟨_, h, rfl, fun w => by simp [Go.binOp, Op.intCmp, den]⟩
  case gtr => exact ⟨_, h, rfl, fun w => by simp [Go.binOp, Op.intCmp, den]⟩
  case geq => exact ⟨_, h, rfl, fun w => by simp [Go.binOp, Op.intCmp, den]⟩

theorem bytes_toList (a : ByteArray) : a.toList = a.data.toList := by
  have h : ∀ (n i : Nat) (r : List UInt8), a.size - i = n → ByteArray.toList.loop a i r = r.reverse ++ a.data.toList.drop i := by
    intro n
    induction n with
    | zero =>
      intro i r hn
      unfold ByteArray.toList.loop
      have : ¬ i < a.size := by omega
      have hs : a.data.toList.length = a.size := by simp
      simp [this, List.drop_eq_nil_of_le (show a.data.toList.length ≤ i by omega)]
    | succ n ih =>
      intro i r hn
      unfold ByteArray.toList.loop
      have hi : i < a.size := by omega
      have hs : a.data.toList.length = a.size := by simp
      rw [if_pos hi, ih (i + 1) _ (by omega), List.drop_eq_getElem_cons (show i < a.data.toList.length by omega)]
      have : a.get! i = a.data.toList[i]'(by omega) := by
        cases a with | mk d => simp only [ByteArray.get!]; rw [getElem!_pos d i hi]; simp
      simp [this]
  simpa [ByteArray.toList] using h a.size 0 [] rfl
theorem str_eq (a b : ByteArray) : (a.toList == b.toList) = decide (a = b) := by
  rw [bytes_toList, bytes_toList, Bool.eq_iff_iff]
  simp
  constructor
  · intro h; cases a; cases b; simp at h; rw [h]
  · rintro rfl; rfl

theorem run_eqFields {P : Program} (ν : Nat → Value) (d : Nat) (xs ys : Array Value) (w : World) : ∀ (fs : List Field) (zs as bs : List SV) (i : Nat) (e : Bool), eqFsChk P i fs zs = true → eqLfs zs as bs = some e →
    xs.toList.drop i = denL ν as → ys.toList.drop i = denL ν bs → (Op.eqFields (d + 1) xs ys fs).run P w = .ok e w
  | [], [], as, bs, i, e, _, he, _, _ => by
    cases as <;> cases bs <;> simp [eqLfs] at he
    subst he
    simp [Op.eqFields]
  | [], _ :: _, _, _, _, _, h, _, _, _ => by simp [eqFsChk] at h
  | _ :: _, [], _, _, _, _, h, _, _, _ => by simp [eqFsChk] at h
  | f :: fs, z :: zs, as, bs, i, e, h, he, hx, hy => by
    cases as with
    | nil => simp [eqLfs] at he
    | cons a as =>
    cases bs with
    | nil => simp [eqLfs] at he
    | cons b bs =>
    simp only [eqFsChk, Bool.and_eq_true, decide_eq_true_eq] at h
    obtain ⟨⟨⟨h1, h2⟩, h3⟩, h4⟩ := h
    have h2 := Nat.eq_of_beq_eq_true h2
    simp only [eqLfs] at he
    split at he
    · rename_i e1 he1
      split at he
      · rename_i es hes
        cases he
        split at h3
        · rename_i dd hdd
          simp only [Bool.and_eq_true, Bool.not_eq_true'] at h3
          have hxi : xs[i]? = some (den ν a) := by
            have : (xs.toList.drop i)[0]? = some (den ν a) := by rw [hx]; rfl
            simpa using this
          have hyi : ys[i]? = some (den ν b) := by
            have : (ys.toList.drop i)[0]? = some (den ν b) := by rw [hy]; rfl
            simpa using this
          have hag : (isAgg f.type).run P w = .ok false w := by rw [run_isAgg' hdd, h3.2]
          have hpx : (part f.type xs f.offset).run P w = .ok (den ν a) w := by
            simp only [part, Sem.run_bind, hag, Result.andThen_ok, h2]
            simp [hxi]
          have hpy : (part f.type ys f.offset).run P w = .ok (den ν b) w := by
            simp only [part, Sem.run_bind, hag, Result.andThen_ok, h2]
            simp [hyi]
          have heq : (Op.equalIn (d + 1) f.type (den ν a) (den ν b)).run P w = .ok e1 w := by
            cases z <;> cases a <;> cases b <;> simp [eqLf] at he1
            · rename_i k n k1 n1 k2 n2
              by_cases hk : k1 = k2
              · subst hk
                simp at he1; subst he1
                cases dd <;> simp [makeChk] at h3
                simp only [den]
                rw [run_equalIn_int w d f.type _ _ _ _ hdd]
                congr 1
              · simp [hk] at he1
            · subst he1
              cases dd <;> simp [makeChk] at h3
              simp only [den]
              rw [run_equalIn_bool' w d f.type _ _ hdd]
              congr 1
            · subst he1
              cases dd <;> simp [makeChk] at h3
              simp only [den]
              rw [run_equalIn_string w d f.type _ _ hdd, str_eq]
          simp only [Op.eqFields, h1, ne_eq, not_false_eq_true, if_true, Sem.run_bind, hpx, hpy, heq, Result.andThen_ok]
          have ih := run_eqFields ν d xs ys w fs zs as bs (i + 1) es h4 hes (by rw [← List.drop_drop, hx]; rfl) (by rw [← List.drop_drop, hy]; rfl)
          cases e1
          · simp
          · simp [ih]
        · cases h3
      · cases he
    · cases he
theorem evNil_run {P : Program} {tab : Tab} (hT : tabChk P tab = true) (ν : Nat → Value) {t : TypeId} (hl : lkp t tab = some .ptr) {x y : SV} {e : Bool} (he : isNil x = some e) (hy : isNilC y = true) (op : BinOp) (xo yo : Operand) (w : World) :
    (op = .eql → (do eqGuard op t xo yo (den ν x) (den ν y); Go.binOp op t (den ν x) (den ν y)).run P w = .ok (.bool e) w) ∧
    (op = .neq → (do eqGuard op t xo yo (den ν x) (den ν y); Go.binOp op t (den ν x) (den ν y)).run P w = .ok (.bool (!e)) w) := by
  obtain ⟨d, hd, hk, _⟩ := (tyOk hT hl).desc
  cases d <;> simp [descChk] at hk
  have hy' : y = .nilp := by cases y <;> simp [isNilC] at hy; rfl
  subst hy'
  have hx : ∃ p, den ν x = .pointer p ∧ e = p.isNone := by
    cases x <;> simp [isNil] at he <;> subst he <;> exact ⟨_, rfl, rfl⟩
  obtain ⟨p, hp, rfl⟩ := hx
  have hg : (eqGuard op t xo yo (.pointer p) (.pointer none)).run P w = .ok () w := by unfold eqGuard; cases op <;> rfl
  have heq : (Op.equal t (.pointer p) (.pointer none)).run P w = .ok p.isNone w := by
    show (Op.equalIn (9999 + 1) t (.pointer p) (.pointer none)).run P w = _
    generalize 9999 = m
    cases p <;> simp only [Op.equalIn, Sem.run_bind, run_underlying' hd, Result.andThen_ok, Sem.run_pure] <;> rfl
  rw [hp]
  constructor <;> (rintro rfl; simp only [den, Sem.run_bind, hg, Result.andThen_ok, Go.binOp, heq, Sem.run_pure])
theorem evIfNil_run {P : Program} {tab : Tab} (hT : tabChk P tab = true) (ν : Nat → Value) {t : TypeId} (hl : lkp t tab = some .iface) {x y : SV} {e : Bool} (he : ifNil x = some e) (hy : ifNilC y = true) (op : BinOp) (xo yo : Operand) (hc : isConst yo = true) (w : World) :
    (op = .eql → (do eqGuard op t xo yo (den ν x) (den ν y); Go.binOp op t (den ν x) (den ν y)).run P w = .ok (.bool e) w) ∧
    (op = .neq → (do eqGuard op t xo yo (den ν x) (den ν y); Go.binOp op t (den ν x) (den ν y)).run P w = .ok (.bool (!e)) w) := by
  obtain ⟨d, hd, hk, _⟩ := (tyOk hT hl).desc
  cases d <;> simp [descChk] at hk
  have hy' : y = .nili := by cases y <;> simp [ifNilC] at hy; rfl
  subst hy'
  cases yo <;> simp [isConst] at hc
  cases x <;> simp [ifNil] at he
  · subst he
    rename_i tx v
    have hg : (eqGuard op t xo (.const ‹_›) (.iface tx (den ν v)) .nilIface).run P w = .ok () w := by unfold eqGuard; cases op <;> rfl
    have heq : (Op.equal t (.iface tx (den ν v)) .nilIface).run P w = .ok false w := by
      show (Op.equalIn (9999 + 1) t _ _).run P w = _
      generalize 9999 = m
      simp only [Op.equalIn, Sem.run_bind, run_underlying' hd, Result.andThen_ok, Sem.run_pure]
    constructor <;> (rintro rfl; simp only [den, Sem.run_bind, hg, Result.andThen_ok, Go.binOp, heq, Sem.run_pure])
  · subst he
    have hg : (eqGuard op t xo (.const ‹_›) .nilIface .nilIface).run P w = .ok () w := by
      unfold eqGuard; cases op <;> first | rfl | simp
    have heq : (Op.equal t .nilIface .nilIface).run P w = .ok true w := by
      show (Op.equalIn (9999 + 1) t _ _).run P w = _
      generalize 9999 = m
      simp only [Op.equalIn, Sem.run_bind, run_underlying' hd, Result.andThen_ok, Sem.run_pure]
    constructor <;> (rintro rfl; simp only [den, Sem.run_bind, hg, Result.andThen_ok, Go.binOp, heq, Sem.run_pure])
theorem evBin_run {P : Program} {tab : Tab} (hT : tabChk P tab = true) {T : Type} {op : BinOp} {x y : SV} {K : SV → O T} {res : O T} (ν : Nat → Value) (t : TypeId) (xo yo : Operand) (h : evBin (isConst yo) (lkp t tab) op x y K = res) (hne : res ≠ .no) :
    ∃ v, K v = res ∧ svLt 0 v = true ∧ ∀ w, (do eqGuard op t xo yo (den ν x) (den ν y); Go.binOp op t (den ν x) (den ν y)).run P w = .ok (den ν v) w := by
  have hgi : ∀ w k a k' b, (eqGuard op t xo yo (.int k a) (.int k' b)).run P w = .ok () w := by intros; unfold eqGuard; cases op <;> rfl
  have hgs : ∀ w a b, (eqGuard op t xo yo (.string a) (.string b)).run P w = .ok () w := by intros; unfold eqGuard; cases op <;> rfl
  unfold evBin at h
  split at h
  · rename_i k a k' b
    simp only [Sem.run_bind, den, hgi, Result.andThen_ok]
    split at h
    · obtain ⟨hb, h⟩ := O.chkC_ne h hne
      simp only [decide_eq_true_eq] at hb
      exact ⟨_, h, rfl, fun w => by simp [Go.binOp, Op.shift, den, Int.not_lt.2 hb, shL]⟩
    · obtain ⟨hb, h⟩ := O.chkC_ne h hne
      simp only [decide_eq_true_eq] at hb
      exact ⟨_, h, rfl, fun w => by simp [Go.binOp, Op.shift, den, Int.not_lt.2 hb, shR]⟩
    · rename_i hs hr
      by_cases hk : k = k'
      · subst hk
        simp only [decide_true, ifb] at h
        exact intOp_run ν h hne hs hr t
      · simp only [hk, decide_false, ifb] at h
        exact absurd h.symm hne
  · rename_i a b
    simp only [Sem.run_bind, den, hgs, Result.andThen_ok]
    unfold strOp at h
    split at h
    · obtain ⟨hb, h⟩ := O.chk_ne h hne
      simp only [decide_eq_true_eq] at hb
      refine ⟨_, h, rfl, fun w => ?_⟩
      have : ¬ ((a.size + b.size : Nat) : Int) > IntKind.i64.max := by
        have e : IntKind.i64.max = 9223372036854775807 := rfl
        omega
      simp only [Go.binOp, Op.stringOp, den]
      rw [if_neg this]
      rfl
    · exact ⟨_, h, rfl, fun w => by simp only [Go.binOp, Op.stringOp, den, str_eq]; rfl⟩
    · exact ⟨_, h, rfl, fun w => by simp only [Go.binOp, Op.stringOp, den, str_eq, decide_not]; rfl⟩
    · exact ⟨_, h, rfl, fun w => by simp only [Go.binOp, Op.stringOp, den, bytes_toList]; rfl⟩
    · exact ⟨_, h, rfl, fun w => by simp only [Go.binOp, Op.stringOp, den, str_eq]; simp only [bytes_toList]; rfl⟩
    · exact ⟨_, h, rfl, fun w => by simp only [Go.binOp, Op.stringOp, den, str_eq]; simp only [bytes_toList]; rfl⟩
    · exact ⟨_, h, rfl, fun w => by simp only [Go.binOp, Op.stringOp, den, bytes_toList]; rfl⟩
    · exact absurd h.symm hne
  · rename_i a b
    have hgb : ∀ w a b, (eqGuard op t xo yo (.bool a) (.bool b)).run P w = .ok () w := by intros; unfold eqGuard; cases op <;> rfl
    have heq : P.underlying t = some .bool → ∀ w, (Op.equal t (.bool a) (.bool b)).run P w = .ok (decide (a = b)) w := by
      intro hu w
      show (Op.equalIn (9999 + 1) t (.bool a) (.bool b)).run P w = _
      generalize 9999 = m
      simp only [Op.equalIn, Sem.run_bind, run_underlying' hu, Result.andThen_ok, Sem.run_pure]
      congr 1
    have hbT : ∀ k, lkp t tab = some k → k = .bool → P.underlying t = some .bool := by
      rintro k hk rfl
      obtain ⟨d, hd, hk, _⟩ := (tyOk hT hk).desc
      cases d <;> simp [descChk] at hk
      exact hd
    split at h
    · rename_i hl
      refine ⟨_, h, rfl, fun w => ?_⟩
      simp only [Sem.run_bind, den, hgb, Result.andThen_ok, Go.binOp, heq (hbT _ hl rfl), Sem.run_pure]
    · rename_i hl
      refine ⟨_, h, rfl, fun w => ?_⟩
      simp only [Sem.run_bind, den, hgb, Result.andThen_ok, Go.binOp, heq (hbT _ hl rfl), Sem.run_pure, decide_not]
    · exact absurd h.symm hne
  · rename_i as bs
    split at h
    · rename_i fs sz z hl
      obtain ⟨d, hd, hk, hq⟩ := (tyOk hT hl).desc
      cases d <;> simp [descChk] at hk
      rename_i fields
      simp only [eqChk, Bool.and_eq_true, Bool.not_eq_true'] at hq
      obtain ⟨⟨q1, q2⟩, q3⟩ := hq
      have hf : P.fieldsOf t = fields := by unfold Program.fieldsOf; rw [hd]
      have key : ∀ e, eqLfs z as bs = some e → ∀ w, (Op.equalIn 10000 t (.agg (denL ν as).toArray) (.agg (denL ν bs).toArray)).run P w = .ok e w := by
        intro e he w
        rw [run_equalIn_struct w 9999 t _ _ (by rw [hf, hd]) q1, hf]
        exact run_eqFields ν 9998 _ _ w fields.toList z as bs 0 e q3 he rfl rfl
      split at h
      · rename_i e he
        refine ⟨_, h, rfl, fun w => ?_⟩
        simp only [Sem.run_bind, den, run_eqGuard_agg w _ t xo yo _ _ q2, Result.andThen_ok, run_eql_struct, key e he]
      · rename_i e he
        refine ⟨_, h, rfl, fun w => ?_⟩
        simp only [Sem.run_bind, den, run_eqGuard_agg w _ t xo yo _ _ q2, Result.andThen_ok, run_neq_struct, key e he]
      · exact absurd h.symm hne
    · exact absurd h.symm hne
  · rename_i hx1 hx2 hx3 hx4
    split at h
    · rename_i e hl he
      by_cases hy : isNilC y = true
      · rw [hy, ifb_true] at h
        refine ⟨_, h, rfl, fun w => ?_⟩
        exact (evNil_run hT ν hl he hy .eql xo yo w).1 rfl
      · rw [Bool.not_eq_true] at hy; rw [hy] at h; exact absurd h.symm hne
    · rename_i e hl he
      by_cases hy : isNilC y = true
      · rw [hy, ifb_true] at h
        refine ⟨_, h, rfl, fun w => ?_⟩
        exact (evNil_run hT ν hl he hy .neq xo yo w).2 rfl
      · rw [Bool.not_eq_true] at hy; rw [hy] at h; exact absurd h.symm hne
    · rename_i hl
      split at h
      · rename_i e he
        by_cases hy : (isConst yo && ifNilC y) = true
        · rw [hy, ifb_true] at h
          rw [Bool.and_eq_true] at hy
          refine ⟨_, h, rfl, fun w => ?_⟩
          exact (evIfNil_run hT ν hl he hy.2 .eql xo yo hy.1 w).1 rfl
        · rw [Bool.not_eq_true] at hy; rw [hy] at h; exact absurd h.symm hne
      · exact absurd h.symm hne
    · rename_i hl
      split at h
      · rename_i e he
        by_cases hy : (isConst yo && ifNilC y) = true
        · rw [hy, ifb_true] at h
          rw [Bool.and_eq_true] at hy
          refine ⟨_, h, rfl, fun w => ?_⟩
          exact (evIfNil_run hT ν hl he hy.2 .neq xo yo hy.1 w).2 rfl
        · rw [Bool.not_eq_true] at hy; rw [hy] at h; exact absurd h.symm hne
      · exact absurd h.symm hne
    · exact absurd h.symm hne
end Go.Aq
