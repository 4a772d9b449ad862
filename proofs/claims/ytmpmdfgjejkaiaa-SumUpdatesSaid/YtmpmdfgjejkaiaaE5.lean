/- The evaluator is right: one operation, whichever it is. -/
import Derived.Test.YtmpmdfgjejkaiaaE4
namespace Go.Aq
open Go.RowKit (Below)

theorem add_plain (b o i : Nat) : (⟨b, o, none⟩ : Addr).add i = ⟨b, o + i, none⟩ := by unfold Addr.add; split <;> simp_all

section
variable {P : Program} {ν : Nat → Value} {w : World}
theorem cell_of_block {b : Nat} {cs : List Value} {T : TypeId} {f : Nat × Nat} (h : w.heap[b]? = some (.cells cs.toArray T f)) (i : Nat) : w.cell? ⟨b, i, none⟩ = cs[i]? := by
  simp [World.cell?, h]
theorem run_loadVar {b off : Nat} {vs : List SV} {T t : TypeId} {k : TK} {v : SV} (ht : TyOk P t k) (h : w.heap[b]? = some (.cells (denL ν vs).toArray T (0, 0))) (hv : partOf k.isAgg off k.size vs = some v) :
    (loadVar t ⟨b, off, none⟩).run P w = .ok (den ν v) w := by
  obtain ⟨d, hd, hk⟩ := ht.desc
  obtain ⟨i, hi, hs, _⟩ := ht.info
  have ha := aggD_of hk
  simp only [loadVar, Sem.run_bind, run_isAgg' hd, Result.andThen_ok, ha]
  unfold partOf at hv
  cases hg : k.isAgg with
  | true =>
    rw [hg] at hv
    simp only at hv
    by_cases hle : Nat.ble (off + k.size) vs.length = true
    · rw [hle] at hv
      simp only [cond_true, Option.some.injEq] at hv
      have hle := Nat.le_of_ble_eq_true hle
      subst hv
      have hl : (denL ν ((vs.drop off).take k.size)).length = k.size := by simp [denL_length]; omega
      have hc := run_loadCells_list (P := P) w ⟨b, off, none⟩ (denL ν ((vs.drop off).take k.size)) (fun j x hx => by
        rw [add_plain, cell_of_block h]
        rw [denL_eq, List.getElem?_map, List.getElem?_take] at hx
        rw [denL_eq, List.getElem?_map]
        split at hx
        · rw [List.getElem?_drop] at hx; exact hx
        · cases hx)
      rw [hl] at hc
      simp [run_sizeOf' hi, hs, hc, den]
    · rw [Bool.not_eq_true] at hle
      rw [hle] at hv
      cases hv
  | false =>
    rw [hg] at hv
    simp only at hv
    have : w.cell? ⟨b, off, none⟩ = some (den ν v) := by
      rw [cell_of_block h, denL_eq, List.getElem?_map, hv]; rfl
    simp [this]
theorem setPart_den (off : Nat) (new cs : List SV) : denL ν (setPart off new cs) = (denL ν cs).take off ++ denL ν new ++ (denL ν cs).drop (off + (denL ν new).length) := by
  simp [setPart, denL_eq, List.map_take, List.map_drop]
theorem run_storeVar {b off : Nat} {vs : List SV} {T t : TypeId} {k : TK} {v : SV} (ht : TyOk P t k) (h : w.heap[b]? = some (.cells (denL ν vs).toArray T (0, 0)))
    (h1 : v.cellsOf.length = k.size) (h2 : off + k.size ≤ vs.length) (h3 : v.cellsOf.all isLeaf = true) :
    (storeVar t ⟨b, off, none⟩ (den ν v)).run P w = .ok () (w.setRow b (denL ν (setPart off v.cellsOf vs)).toArray) := by
  obtain ⟨i, hi, hs, _⟩ := ht.info
  have hsz : (den ν v).cells.size = k.size := by rw [cellsOf_den]; simp [denL_length, h1]
  have hl : (denL ν v.cellsOf).length = k.size := by rw [denL_length, h1]
  simp only [storeVar, Sem.run_bind, run_sizeOf' hi, Result.andThen_ok, hs, hsz, ne_eq, not_true_eq_false, if_false]
  have := run_storeCells_at (P := P) b off T (denL ν v.cellsOf) 0 (denL ν vs).toArray w h (by simp [denL_length]; omega) (leafL_one ν h3)
  rw [cellsOf_den]
  simp only [Nat.add_zero] at this
  rw [show (denL ν v.cellsOf).toArray.toList = denL ν v.cellsOf from rfl, this]
  congr 3
  rw [setPart_den]
end

theorem belowL_take_drop {n : Nat} {cs : List SV} (h : belowL n cs = true) (a b : Nat) : belowL n ((cs.drop a).take b) = true := by
  rw [belowL_iff] at *
  intro v hv
  exact h v (List.mem_of_mem_drop (List.mem_of_mem_take hv))
theorem partOf_lt {n : Nat} {g : Bool} {o s : Nat} {cs : List SV} {v : SV} (h : belowL n cs = true) (hv : partOf g o s cs = some v) : svLt n v = true := by
  unfold partOf at hv
  split at hv
  · by_cases hle : Nat.ble (o + s) cs.length = true
    · rw [hle] at hv; cases hv; simp only [svLt]; exact belowL_take_drop h o s
    · rw [Bool.not_eq_true] at hle; rw [hle] at hv; cases hv
  · rw [belowL_iff] at h
    exact h v (List.mem_of_getElem? hv)
theorem setPart_lt {n : Nat} {off : Nat} {new cs : List SV} (h1 : belowL n new = true) (h2 : belowL n cs = true) : belowL n (setPart off new cs) = true := by
  rw [belowL_iff] at *
  intro v hv
  simp only [setPart, List.mem_append] at hv
  rcases hv with hv | hv | hv
  · exact h2 v (List.mem_of_mem_take hv)
  · exact h1 v hv
  · exact h2 v (List.mem_of_mem_drop hv)
theorem cellsOf_lt {n : Nat} {v : SV} (h : svLt n v = true) : belowL n v.cellsOf = true := by
  cases v <;> simp_all [SV.cellsOf, belowL, svLt]

theorem fieldsChk_at {P : Program} : ∀ {fs : List (Nat × Nat × Bool)} {fields : List Field}, fieldsChk P fs fields = true → ∀ {i o n : Nat} {g : Bool}, fs[i]? = some (o, n, g) →
    ∃ f, fields[i]? = some f ∧ f.offset = o ∧ (∃ x, P.info? f.type = some x ∧ x.size = n) ∧ ∃ d, P.underlying f.type = some d ∧ aggD d = g
  | [], fields, _, i, o, n, g, hi => by simp at hi
  | (o', n', g') :: xs, [], h, i, o, n, g, hi => by simp [fieldsChk] at h
  | (o', n', g') :: xs, f :: fs, h, i, o, n, g, hi => by
    simp only [fieldsChk, Bool.and_eq_true] at h
    obtain ⟨⟨h1, h2⟩, h3⟩ := h
    cases i with
    | zero =>
      simp only [List.getElem?_cons_zero, Option.some.injEq, Prod.mk.injEq] at hi
      obtain ⟨rfl, rfl, rfl⟩ := hi
      split at h2
      · rename_i x d hx hd
        simp only [Bool.and_eq_true, beq_iff_eq] at h2
        exact ⟨f, rfl, Nat.eq_of_beq_eq_true h1, ⟨x, hx, Nat.eq_of_beq_eq_true h2.1⟩, d, hd, h2.2⟩
      · cases h2
    | succ i =>
      simp only [List.getElem?_cons_succ] at hi ⊢
      exact fieldsChk_at h3 hi

theorem bt_run {s : ByteArray} {i : Int} (h0 : 0 ≤ i) (h1 : i < (s.size : Int)) : (if 0 ≤ i then s[i.toNat]? else none) = some (s.data.toList.getD i.toNat 0) := by
  rw [if_pos h0]
  have hl : i.toNat < s.size := by omega
  have hs : s.data.toList.length = s.size := by simp
  rw [getElem?_pos s i.toNat hl, List.getD_eq_getElem?_getD, List.getElem?_eq_getElem (by omega)]
  rfl

theorem args1 {α : Type} {xs : Array α} {x : α} (h : xs.toList = [x]) : xs = #[x] := by cases xs; simp_all
theorem minInt (a b : Int) : (if b < a then b else a) = min a b := by omega
theorem maxInt (a b : Int) : (if b > a then b else a) = max a b := by omega
theorem evBuiltin_run {P : Program} {tab : Tab} (hT : tabChk P tab = true) {T : Type} {ν : Nat → Value} {nx : Nat} {K : SV → O T}
    {b : Builtin} {ts : Array TypeId} {args : List SV} {res : O T} (h : evBuiltin tab b ts.toList args K = res) (hne : res ≠ .no) (_ha : belowL nx args = true) (ty : TypeId) (cs : Array Bool) :
    ∃ v, K v = res ∧ svLt nx v = true ∧ ∀ w, (builtin b ts ty cs (denL ν args).toArray).run P w = .ok (.value (den ν v)) w := by
  unfold evBuiltin at h
  split at h
  · rename_i t s ht
    split at h
    · rename_i htab
      obtain ⟨d, hd, hk⟩ := (tyOk hT htab).desc
      cases d <;> simp [descChk] at hk
      refine ⟨_, h, by simp [svLt], fun w => ?_⟩
      simp [builtin, Builtin.len_, args1 ht, denL, den, run_underlying' hd, goInt]
    · exact absurd h.symm hne
  · rename_i k a k' b
    by_cases hk : k = k'
    · subst hk
      simp only [decide_true, cond_true] at h
      refine ⟨_, h, by simp [svLt], fun w => ?_⟩
      simp [builtin, Builtin.min_, Builtin.min2, denL, den, minInt]
    · simp only [hk, decide_false, cond_false] at h; exact absurd h.symm hne
  · rename_i k a k' b
    by_cases hk : k = k'
    · subst hk
      simp only [decide_true, cond_true] at h
      refine ⟨_, h, by simp [svLt], fun w => ?_⟩
      simp [builtin, Builtin.max_, Builtin.max2, denL, den, maxInt]
    · simp only [hk, decide_false, cond_false] at h; exact absurd h.symm hne
  · exact absurd h.symm hne

theorem isBoolT_of {P : Program} {tab : Tab} (hT : tabChk P tab = true) (t : TypeId) (h : isBoolT (lkp t tab) = true) : P.underlying t = some .bool := by
  unfold isBoolT at h
  split at h
  · rename_i hl
    obtain ⟨d, hd, hk⟩ := (tyOk hT hl).desc
    cases d <;> simp [descChk] at hk
    exact hd
  · cases h
set_option maxHeartbeats 1000000 in
theorem evQ_run {P : Program} {tab : Tab} (hT : tabChk P tab = true) {T : Type} {ν : Nat → Value} {n nx : Nat} {fr : Fr} {K : SV → O T}
    {a : Act} (hE : EnvOk ν n nx fr a) (o : Oper) {res : O T} (h : evQ tab o.op fr.env K = res) (hne : res ≠ .no) :
    ∃ v, K v = res ∧ svLt nx v = true ∧ ∀ w, (execOp a.eval o).run P w = .ok (.value (den ν v)) w := by
  have z : ∀ v, svLt 0 v = true → svLt nx v = true := fun v hv => svLt_mono (Nat.zero_le _) v hv
  unfold evQ at h
  split at h
  case h_1 x ho =>
    split at h
    · rename_i v hv
      have hd := ofOpd_den hE hv
      exact ⟨v, h, hd.2, fun w => (by simp only [execOp, ho]; rw [Sem.run_pure, hd.1])⟩
    · exact absurd h.symm hne

  case h_2 x ho =>
    split at h
    · rename_i v hv
      have hd := ofOpd_den hE hv
      exact ⟨v, h, hd.2, fun w => (by simp only [execOp, ho]; rw [Sem.run_pure, hd.1])⟩
    · exact absurd h.symm hne

  case h_3 c x y ho =>
    split at h
    · rename_i vc vx vy hc hx hy
      have dc := ofOpd_den hE hc
      have dx := ofOpd_den hE hx
      have dy := ofOpd_den hE hy
      unfold evPick at h
      split at h
      · exact ⟨_, h, dx.2, fun w => (by simp [execOp, ho, dc.1, dx.1, dy.1, den, asBool])⟩
      · exact ⟨_, h, dy.2, fun w => (by simp [execOp, ho, dc.1, dx.1, dy.1, den, asBool])⟩
      · exact absurd h.symm hne
    · exact absurd h.symm hne

  case h_4 x ho =>   -- nilCheck
    split at h
    · rename_i j off hx
      have hd := ofOpd_den hE hx
      exact ⟨_, h, hd.2, fun w => (by simp [execOp, ho, hd.1, den])⟩
    · exact absurd h.symm hne

  case h_5 op t x y t' ho =>   -- binOp
    split at h
    · rename_i vx vy hx hy
      have dx := ofOpd_den hE hx
      have dy := ofOpd_den hE hy
      obtain ⟨v, hk, hv, hrun⟩ := evBin_run (P := P) ν h hne t (isBoolT_of hT t) x y
      refine ⟨v, hk, (z v hv), fun w => ?_⟩
      simp only [execOp, ho, dx.1, dy.1, hrun, Sem.run_bind, Sem.run_pure, Result.andThen_ok] at hrun ⊢
    · exact absurd h.symm hne

  case h_6 op t x ho =>   -- unOp
    split at h
    · rename_i vx hx
      have dx := ofOpd_den hE hx
      unfold evUn at h
      split at h
      · exact ⟨_, h, (by simp [svLt]), fun w => (by simp [execOp, ho, dx.1, den, Op.unary])⟩
      · exact ⟨_, h, (by simp [svLt]), fun w => (by simp [execOp, ho, dx.1, den, Op.unary, Op.intArith])⟩
      · exact absurd h.symm hne
    · exact absurd h.symm hne

  case h_7 s d x ho =>   -- convert
    split at h
    · rename_i ks kd vx hs hd hx
      have dx := ofOpd_den hE hx
      have ts := tyOk hT hs
      have td := tyOk hT hd
      obtain ⟨ds, hds, hks⟩ := ts.desc
      obtain ⟨dd, hdd, hkd⟩ := td.desc
      unfold evConv at h
      split at h
      · rename_i k k' m
        cases dd <;> simp [descChk] at hkd
        subst hkd
        refine ⟨_, h, (by simp [svLt]), fun w => ?_⟩
        simp only [execOp, ho, convert, Sem.run_bind, run_underlying' hds, run_underlying' hdd, Result.andThen_ok, dx.1, den]
        rfl
      · rename_i s'
        cases dd <;> simp [descChk] at hkd
        cases ds <;> simp [descChk] at hks
        refine ⟨_, h, (by simp [svLt]), fun w => ?_⟩
        simp only [execOp, ho, convert, Sem.run_bind, run_underlying' hds, run_underlying' hdd, Result.andThen_ok, dx.1, den]
        rfl
      · exact absurd h.symm hne
    · exact absurd h.symm hne

  case h_8 f first caps ho =>   -- makeFunc
    split at h
    · rename_i vs hf hv
      have hd := ofOpds_den hE hv
      have hf : first = #[] := by cases first; simp_all
      refine ⟨_, h, (by simp only [svLt]; exact hd.2), fun w => ?_⟩
      simp only [execOp, ho, Instr.makeFunc, Sem.run_bind, Sem.run_pure, Result.andThen_ok, den, hf, ← hd.1]
      cases caps
      simp
    · exact absurd h.symm hne

  case h_9 s x f ho =>   -- fieldAddr
    split at h
    · rename_i fs _ _ j off hs hx
      split at h
      · rename_i o' n' g' hf
        by_cases hc : Nat.ble 1 n' = true
        · rw [hc, cond_true] at h
          have hc := Nat.le_of_ble_eq_true hc
          have dx := ofOpd_den hE hx
          obtain ⟨d, hd, hk⟩ := (tyOk hT hs).desc
          cases d <;> simp [descChk] at hk
          rename_i fields
          obtain ⟨fd, hfd, ho', ⟨i, hi, hsz⟩, _⟩ := fieldsChk_at hk hf
          refine ⟨(.ptr j (off + o')), h, (by simpa [svLt] using dx.2), fun w => ?_⟩
          rw [Array.getElem?_toList] at hfd
          have hne' : i.size ≠ 0 := by omega
          simp only [execOp, ho, Instr.fieldAt, Sem.run_bind, run_underlying' hd, Result.andThen_ok, hfd, dx.1, den, Instr.sureAddr, Sem.run_pure, fieldPlace, run_sizeOf' hi, hne', if_false, ho', add_plain]
        · rw [Bool.not_eq_true] at hc; rw [hc] at h; exact absurd h.symm hne
      · exact absurd h.symm hne
    · exact absurd h.symm hne

  case h_10 s x f ho =>   -- field
    split at h
    · rename_i fs _ _ cs hs hx
      split at h
      · rename_i o' n' g' hf
        split at h
        · rename_i v hv
          have dx := ofOpd_den hE hx
          obtain ⟨d, hd, hk⟩ := (tyOk hT hs).desc
          cases d <;> simp [descChk] at hk
          rename_i fields
          obtain ⟨fd, hfd, ho', ⟨i, hi, hsz⟩, dd, hdd, hgg⟩ := fieldsChk_at hk hf
          have hlt : belowL nx cs = true := by have := dx.2; simpa only [svLt] using this
          refine ⟨v, h, (partOf_lt hlt hv), fun w => ?_⟩
          rw [Array.getElem?_toList] at hfd
          simp only [execOp, ho, Instr.field, Sem.run_bind, run_underlying' hd, Result.andThen_ok, hfd, dx.1, den, asAgg, Sem.run_pure, part, run_isAgg' hdd, hgg, ho']
          unfold partOf at hv
          split at hv
          · by_cases hc : Nat.ble (o' + n') cs.length = true
            · rw [hc] at hv
              cases hv
              simp [run_sizeOf' hi, hsz, den, denL_eq, List.map_take, List.map_drop, List.extract_eq_take_drop]
            · rw [Bool.not_eq_true] at hc; rw [hc] at hv; cases hv
          · simp [denL_eq, hv]
        · exact absurd h.symm hne
      · exact absurd h.symm hne
    · exact absurd h.symm hne

  case h_11 x i ho =>   -- extract
    split at h
    · rename_i vs hx
      split at h
      · rename_i v hv
        have dx := ofOpd_den hE hx
        have hlt : belowL nx vs = true := by have := dx.2; simpa only [svLt] using this
        refine ⟨v, h, (belowL_iff.1 hlt v (List.mem_of_getElem? hv)), fun w => ?_⟩
        simp [execOp, ho, Instr.extract, dx.1, den, denL_eq, hv]
      · exact absurd h.symm hne
    · exact absurd h.symm hne

  case h_12 t x i ho =>   -- index
    split at h
    · rename_i s k' i' ht hx hi
      obtain ⟨hb, h⟩ := O.chk_ne h hne
      simp only [decide_eq_true_eq] at hb
      have dx := ofOpd_den hE hx
      have di := ofOpd_den hE hi
      obtain ⟨d, hd, hk⟩ := (tyOk hT ht).desc
      cases d <;> simp [descChk] at hk
      refine ⟨_, h, (by simp [svLt]), fun w => ?_⟩
      simp only [execOp, ho, Instr.index, Sem.run_bind, dx.1, di.1, den, asIntOf, Sem.run_pure, Result.andThen_ok, run_underlying' hd, bt_run hb.1 hb.2, bt]
    · exact absurd h.symm hne

  case h_13 t x lo hi mx ho =>   -- slice
    split at h
    · rename_i s ht hx
      have dx := ofOpd_den hE hx
      obtain ⟨d, hd, hk⟩ := (tyOk hT ht).desc
      cases d <;> simp [descChk] at hk
      have bound : ∀ (w : World) (k : IntKind) (i : Int) (y : Nat) (c : BoundsCode), 0 ≤ i → i ≤ y → (Instr.sliceBound (.int k i) y c).run P w = .ok i.toNat w := by
        intro w k i y c h0 h1
        simp [Instr.sliceBound, asIntOf, h0, h1]
      split at h
      · refine ⟨_, h, (by simp [svLt]), fun w => ?_⟩
        simp [execOp, ho, Instr.sliceAt, Instr.slice, run_underlying' hd, dx.1, den, Instr.sliceBounds]
      · rename_i l
        split at h
        · rename_i k l' hl
          obtain ⟨hb, h⟩ := O.chk_ne h hne
          simp only [decide_eq_true_eq] at hb
          have dl := ofOpd_den hE hl
          refine ⟨_, h, (by simp [svLt]), fun w => ?_⟩
          simp [execOp, ho, Instr.sliceAt, Instr.slice, run_underlying' hd, dx.1, dl.1, den, Instr.sliceBounds, bound _ _ _ _ _ hb.1 hb.2]
        · exact absurd h.symm hne
      · rename_i l
        split at h
        · rename_i k l' hl
          obtain ⟨hb, h⟩ := O.chk_ne h hne
          simp only [decide_eq_true_eq] at hb
          have dl := ofOpd_den hE hl
          refine ⟨_, h, (by simp [svLt]), fun w => ?_⟩
          simp [execOp, ho, Instr.sliceAt, Instr.slice, run_underlying' hd, dx.1, dl.1, den, Instr.sliceBounds, bound _ _ _ _ _ hb.1 hb.2]
        · exact absurd h.symm hne
      · rename_i l m
        split at h
        · rename_i k l' k' m' hl hm
          obtain ⟨hb, h⟩ := O.chk_ne h hne
          simp only [decide_eq_true_eq] at hb
          have dl := ofOpd_den hE hl
          have dm := ofOpd_den hE hm
          refine ⟨_, h, (by simp [svLt]), fun w => ?_⟩
          have hm' : l' ≤ ((m'.toNat : Nat) : Int) := by omega
          simp [execOp, ho, Instr.sliceAt, Instr.slice, run_underlying' hd, dx.1, dl.1, dm.1, den, Instr.sliceBounds, bound _ _ _ _ _ (show 0 ≤ m' by omega) hb.2.2, bound _ _ _ _ _ hb.1 hm']
        · exact absurd h.symm hne
    · exact absurd h.symm hne

  case h_14 t x ho =>   -- makeInterface
    split at h
    · exact absurd h.symm hne
    · rename_i k v _ ht hx
      have dx := ofOpd_den hE hx
      obtain ⟨d, hd, hk⟩ := (tyOk hT ht).desc
      refine ⟨(.iface t v), h, (by simpa [svLt] using dx.2), fun w => ?_⟩
      simp only [execOp, ho, Instr.makeInterface, Sem.run_bind, run_underlying' hd, Result.andThen_ok, dx.1, den]
      cases d <;> first | rfl | (cases k <;> simp_all [descChk])
    · exact absurd h.symm hne

  case h_15 c ho =>   -- call of a builtin
    split at h
    · rename_i args hargs
      have da := ofOpds_den hE hargs
      split at h
      · rename_i b hb
        obtain ⟨v, hk, hv, hrun⟩ := evBuiltin_run hT (ν := ν) (P := P) h hne da.2 o.type (c.args.map fun | .const _ => true | _ => false)
        refine ⟨v, hk, hv, fun w => ?_⟩
        simp only [execOp, ho, resolve, hb, Sem.run_bind, Sem.run_pure, Result.andThen_ok, invoke]
        have e : (Array.map a.eval c.args) = (denL ν args).toArray := by
          rw [← da.1]; apply Array.ext'; simp
        rw [e]
        exact hrun w
      · exact absurd h.symm hne
    · exact absurd h.symm hne
  case h_16 => exact absurd h.symm hne

theorem evLoad_run {P : Program} {tab : Tab} (hT : tabChk P tab = true) {T : Type} {ν : Nat → Value} {n : Nat} {fr : Fr} {st : St} {K : Nat → SV → O T}
    {a : Act} (hE : EnvOk ν n st.nx fr a) {S : Nat → Prop} {w0 w : World} (hR : RelW S w0 ν st w) (o : Oper) {t : TypeId} {x : Operand} (ho : o.op = .load t x) {res : O T} (h : evLoad tab t x fr.env st K = res) (hne : res ≠ .no) :
    ∃ j v, K j v = res ∧ svLt st.nx v = true ∧ (∃ o, lkp j st.H = some o) ∧ ∀ w', w'.heap[blk (ν j)]? = w.heap[blk (ν j)]? → (execOp a.eval o).run P w' = .ok (.value (den ν v)) w' := by
  unfold evLoad at h
  split at h
  · rename_i k j off hk hx
    split at h
    · rename_i T' vs hj
      split at h
      · rename_i v hv
        have hd := ofOpd_den hE hx
        obtain ⟨b, hb, hc⟩ := hR.sat j _ hj
        have hlt : belowL st.nx vs = true := (hR.lt j _ hj).2
        refine ⟨j, v, h, partOf_lt hlt hv, ⟨_, hj⟩, fun w' hw => ?_⟩
        rw [hb] at hw
        have hw : w'.heap[b]? = w.heap[b]? := hw
        have := run_loadVar (P := P) (w := w') (tyOk hT hk) (hw.trans hc) hv
        simp only [execOp, ho, Instr.loadAt, hd.1, den, hb, blk, Instr.sureAddr, Sem.run_bind, Sem.run_pure, Result.andThen_ok, this]
      · exact absurd h.symm hne
    · exact absurd h.symm hne
  · exact absurd h.symm hne

theorem evA_sound {P : Program} {tab : Tab} (hT : tabChk P tab = true) {T : Type} {cal : Cal T} (hC : CalOk P cal) {S : Nat → Prop} {w0 : World} {ν : Nat → Value} {n : Nat} {fr : Fr} {st : St} {K : SV → St → O T} {Kp : PV → St → O T}
    {a : Act} {w : World} (hR : RelW S w0 ν st w) (hE : EnvOk ν n st.nx fr a) (o : Oper) {res : O T} (h : evA tab cal o.op fr.env st K Kp = res) (hne : res ≠ .no)
    {next : Act → World → Prop} {Q : Exit → Act → World → Prop}
    (hn : ∀ ν' st' v w', RelW S w0 ν' st' w' → Step ν st w ν' st' w' → svLt st'.nx v = true → K v st' = res → next (a.put o.dst (den ν' v)) w')
    (hp : ∀ ν' st' e w', RelW S w0 ν' st' w' → Step ν st w ν' st' w' → Kp e st' = res → Q (.panic (panOf e)) a w') :
    o.wp P a w next Q := by
  have z : ∀ v, svLt 0 v = true → svLt st.nx v = true := fun v hv => svLt_mono (Nat.zero_le _) v hv
  unfold evA at h
  split at h
  case h_1 t ho =>   -- alloc
    split at h
    · rename_i k hk
      have ht := tyOk hT hk
      obtain ⟨i, hi, hs, y, hy, hz⟩ := ht.info
      have hb : belowL st.nx k.zero.cellsOf = true := cellsOf_lt (z _ ht.zlt)
      have hadd := hR.add t k.zero.cellsOf hb
      refine wp_value (v := den (upd ν st.nx (.pointer (some ⟨w.heap.size, 0, none⟩))) (.ptr st.nx 0)) ?_ (hn _ _ _ _ hadd (Step.add hR _ _ _) (by simp [svLt, St.add]) h)
      simp only [execOp, ho, Instr.alloc, Sem.run_bind, run_zeroValue' hi hy, Result.andThen_ok, newVar, newRow, run_newObj, Sem.run_pure]
      rw [← hz ν, cellsOf_den]
      simp [den, upd, blk]
    · exact absurd h.symm hne

  case h_2 t x ho =>   -- box
    split at h
    · rename_i v hv
      have hd := ofOpd_den hE hv
      have hadd := hR.add t v.cellsOf (cellsOf_lt hd.2)
      refine wp_value (v := den (upd ν st.nx (.pointer (some ⟨w.heap.size, 0, none⟩))) (.ptr st.nx 0)) ?_ (hn _ _ _ _ hadd (Step.add hR _ _ _) (by simp [svLt, St.add]) h)
      simp only [execOp, ho, Instr.box, Sem.run_bind, Result.andThen_ok, newVar, newRow, run_newObj, Sem.run_pure]
      rw [hd.1, cellsOf_den]
      simp [den, upd, blk]
    · exact absurd h.symm hne

  case h_3 t x y ho =>   -- store
    split at h
    · rename_i k j off v hk hx hy
      split at h
      · rename_i T' vs hj
        by_cases hc : (Nat.beq v.cellsOf.length k.size && Nat.ble (off + k.size) vs.length && v.cellsOf.all isLeaf) = true
        · rw [hc, cond_true] at h
          simp only [Bool.and_eq_true] at hc
          obtain ⟨⟨h1, h2⟩, h3⟩ := hc
          have h1 := Nat.eq_of_beq_eq_true h1
          have h2 := Nat.le_of_ble_eq_true h2
          have dx := ofOpd_den hE hx
          have dy := ofOpd_den hE hy
          obtain ⟨b, hb, hcell⟩ := hR.sat j _ hj
          have hlt : belowL st.nx vs = true := (hR.lt j _ hj).2
          have hput := hR.put hj hb (setPart_lt (off := off) (cellsOf_lt dy.2) hlt)
          refine wp_unit ?_ (by have := hn ν _ (.tup []) _ hput (Step.put _ _ _ _ _ _) (by simp [svLt, belowL]) h; simpa [den, denL, undef] using this)
          have := run_storeVar (P := P) (tyOk hT hk) hcell h1 h2 h3
          simp only [execOp, ho, Instr.storeAt, dx.1, dy.1, den, hb, blk, Instr.sureAddr, Sem.run_bind, Sem.run_pure, Result.andThen_ok, this]
        · rw [Bool.not_eq_true] at hc; rw [hc] at h; exact absurd h.symm hne
      · exact absurd h.symm hne
    · exact absurd h.symm hne

  case h_4 c ho =>   -- call
    split at h
    · rename_i args hargs
      have da := ofOpds_den hE hargs
      split at h
      · rename_i f hf
        split at h
        · rename_i f' caps hv
          have df := ofOpd_den hE hv
          have hcne : cal f' (args ++ caps) st K Kp ≠ .no := by rw [h]; exact hne
          obtain ⟨henter, hcall⟩ := hC f' (args ++ caps) st K Kp hcne
          have hlt : belowL st.nx (args ++ caps) = true := by
            have h1 : belowL st.nx caps = true := by have := df.2; simpa only [svLt] using this
            rw [belowL_iff]
            intro v hv
            rcases List.mem_append.1 hv with hv | hv
            · exact belowL_iff.1 da.2 v hv
            · exact belowL_iff.1 h1 v hv
          have hC' := hcall S w0 ν w hR hlt
          unfold Oper.wp
          have hrun : (execOp a.eval o).run P w = .ok (.enter f' (denL ν (args ++ caps)).toArray) w := by
            simp only [execOp, ho, resolve, hf, df.1, den, Deferred.ofValue, Sem.run_bind, Sem.run_pure, Result.andThen_ok, invoke, henter]
            congr 2
            apply Array.ext'
            simp [da.1, denL_eq]
          rw [hrun, Oper.upon_enter]
          refine hC'.mono ?_
          intro e w' he
          cases e with
          | returned v =>
            obtain ⟨ν', st', r, h1, h2, rfl, h4, h5⟩ := he
            exact hn ν' st' r w' h1 h2 h4 (h5.trans h)
          | panicked ch =>
            obtain ⟨ν', st', e, h1, h2, rfl, h5⟩ := he
            exact hp ν' st' e w' h1 h2 (h5.trans h)
          | outgrown => exact he.elim
        · exact absurd h.symm hne
      · exact absurd h.symm hne
    · exact absurd h.symm hne

  case h_5 x ho =>   -- panic
    split at h
    · rename_i v hx
      split at h
      · rename_i p hpv
        have dx := ofOpd_den hE hx
        obtain rfl := toPV_of hpv
        unfold Oper.wp
        have hrun : (execOp a.eval o).run P w = .halt (.panic (den ν (ofPV p))) w := by
          simp [execOp, ho, dx.1, ofPV, den, Instr.panic]
        rw [hrun, den_ofPV]
        exact hp ν st _ w hR (Step.refl _ _ _) h
      · exact absurd h.symm hne
    · exact absurd h.symm hne
  case h_6 => exact absurd h.symm hne

theorem evOp_sound {P : Program} {tab : Tab} (hT : tabChk P tab = true) {T : Type} {cal : Cal T} (hC : CalOk P cal) {S : Nat → Prop} {w0 : World} {ν : Nat → Value} {n : Nat} {fr : Fr} {st : St} {K : SV → St → O T} {Kp : PV → St → O T}
    {a : Act} {w : World} (hR : RelW S w0 ν st w) (hE : EnvOk ν n st.nx fr a) (o : Oper) {res : O T} (h : evOp tab cal o.op fr.env st K Kp = res) (hne : res ≠ .no)
    {next : Act → World → Prop} {Q : Exit → Act → World → Prop}
    (hn : ∀ ν' st' v w', RelW S w0 ν' st' w' → Step ν st w ν' st' w' → svLt st'.nx v = true → K v st' = res → next (a.put o.dst (den ν' v)) w')
    (hp : ∀ ν' st' e w', RelW S w0 ν' st' w' → Step ν st w ν' st' w' → Kp e st' = res → Q (.panic (panOf e)) a w') :
    o.wp P a w next Q := by
  unfold evOp at h
  by_cases hq : isQ o.op = true
  · rw [hq, cond_true] at h
    obtain ⟨v, hk, hv, hrun⟩ := evQ_run (P := P) hT hE o h hne
    exact wp_value (hrun w) (hn ν st v w hR (Step.refl _ _ _) hv hk)
  · rw [Bool.not_eq_true] at hq
    rw [hq, cond_false] at h
    split at h
    · rename_i t x ho
      obtain ⟨j, v, hk, hv, _, hrun⟩ := evLoad_run (P := P) hT hE hR o ho h hne
      exact wp_value (hrun w rfl) (hn ν st v w hR (Step.refl _ _ _) hv hk)
    · exact evA_sound hT hC hR hE o h hne hn hp
end Go.Aq
