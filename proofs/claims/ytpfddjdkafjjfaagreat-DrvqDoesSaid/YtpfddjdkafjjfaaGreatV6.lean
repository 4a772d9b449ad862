/- The evaluator is right: one operation, whichever it is. -/
import Derived.Test.YtpfddjdkafjjfaaGreatV5
namespace Go.Aq
open Go.RowKit (Below)
set_option linter.unusedVariables false

theorem setPart_den (ν : Nat → Value) (off : Nat) (new cs : List SV) : denL ν (setPart off new cs) = (denL ν cs).take off ++ denL ν new ++ (denL ν cs).drop (off + (denL ν new).length) := by
  simp [setPart, denL_eq, List.map_take, List.map_drop]
theorem setPart_lt {n : Nat} {off : Nat} {new cs : List SV} (h1 : belowL n new = true) (h2 : belowL n cs = true) : belowL n (setPart off new cs) = true := by
  rw [belowL_iff] at *
  intro v hv
  simp only [setPart, List.mem_append] at hv
  rcases hv with hv | hv | hv
  · exact h2 v (List.mem_of_mem_take hv)
  · exact h1 v hv
  · exact h2 v (List.mem_of_mem_drop hv)
theorem cellsOf_lt {n : Nat} {v : SV} (h : svLt n v = true) : belowL n v.cellsOf = true := by
  cases v <;> simp_all [SV.cellsOf, belowL, svLt]
section
variable {P : Program} {ν : Nat → Value} {w : World}
theorem cell_of_block {b : Nat} {cs : List Value} {T : TypeId} {f : Nat × Nat} (h : w.heap[b]? = some (.cells cs.toArray T f)) (i : Nat) : w.cell? ⟨b, i, none⟩ = cs[i]? := by
  simp [World.cell?, h]
theorem run_loadVar {b off : Nat} {vs : List SV} {T t : TypeId} {k : TK} {v : SV} (ht : TyOk P t k) (h : w.heap[b]? = some (.cells (denL ν vs).toArray T (0, 0))) (hv : partOf k.isAgg off k.size vs = some v) :
    (loadVar t ⟨b, off, none⟩).run P w = .ok (den ν v) w := by
  obtain ⟨d, hd, hk, -⟩ := ht.desc
  obtain ⟨i, hi, hs, _⟩ := ht.info
  have ha := aggD_of hk
  simp only [loadVar, Sem.run_bind, run_isAgg' hd, Result.andThen_ok, ha]
  unfold partOf at hv
  cases hg : k.isAgg with
  | true =>
    rw [hg] at hv
    simp only at hv
    by_cases hle : Nat.ble (off + k.size) vs.length = true
    · rw [hle] at hv
      simp only [cond_true, Option.some.injEq] at hv
      have hle := Nat.le_of_ble_eq_true hle
      subst hv
      have hl : (denL ν ((vs.drop off).take k.size)).length = k.size := by simp [denL_length]; omega
      have hc := run_loadCells_list (P := P) w ⟨b, off, none⟩ (denL ν ((vs.drop off).take k.size)) (fun j x hx => by
        rw [add_plain, cell_of_block h]
        rw [denL_eq, List.getElem?_map, List.getElem?_take] at hx
        rw [denL_eq, List.getElem?_map]
        split at hx
        · rw [List.getElem?_drop] at hx; exact hx
        · cases hx)
      rw [hl] at hc
      simp [run_sizeOf' hi, hs, hc, den]
    · rw [Bool.not_eq_true] at hle
      rw [hle] at hv
      cases hv
  | false =>
    rw [hg] at hv
    simp only at hv
    have : w.cell? ⟨b, off, none⟩ = some (den ν v) := by
      rw [cell_of_block h, denL_eq, List.getElem?_map, hv]; rfl
    simp [this]
theorem run_storeVar {b off : Nat} {vs : List SV} {T t : TypeId} {k : TK} {v : SV} (ht : TyOk P t k) (h : w.heap[b]? = some (.cells (denL ν vs).toArray T (0, 0)))
    (h1 : v.cellsOf.length = k.size) (h2 : off + k.size ≤ vs.length) (h3 : v.cellsOf.all isLeaf = true) :
    (storeVar t ⟨b, off, none⟩ (den ν v)).run P w = .ok () (w.setRow b (denL ν (setPart off v.cellsOf vs)).toArray) := by
  obtain ⟨i, hi, hs, _⟩ := ht.info
  have hsz : (den ν v).cells.size = k.size := by rw [cellsOf_den]; simp [denL_length, h1]
  have hl : (denL ν v.cellsOf).length = k.size := by rw [denL_length, h1]
  simp only [storeVar, Sem.run_bind, run_sizeOf' hi, Result.andThen_ok, hs, hsz, ne_eq, not_true_eq_false, if_false]
  have := run_storeCells_at (P := P) b off T (denL ν v.cellsOf) 0 (denL ν vs).toArray w h (by simp [denL_length]; omega) (leafL_one ν h3)
  rw [cellsOf_den]
  simp only [Nat.add_zero] at this
  rw [show (denL ν v.cellsOf).toArray.toList = denL ν v.cellsOf from rfl, this]
  congr 3
  rw [setPart_den]
end

theorem belowL_take_drop {n : Nat} {cs : List SV} (h : belowL n cs = true) (a b : Nat) : belowL n ((cs.drop a).take b) = true := by
  rw [belowL_iff] at *
  intro v hv
  exact h v (List.mem_of_mem_drop (List.mem_of_mem_take hv))
theorem partOf_lt {n : Nat} {g : Bool} {o s : Nat} {cs : List SV} {v : SV} (h : belowL n cs = true) (hv : partOf g o s cs = some v) : svLt n v = true := by
  unfold partOf at hv
  split at hv
  · by_cases hle : Nat.ble (o + s) cs.length = true
    · rw [hle] at hv; cases hv; simp only [svLt]; exact belowL_take_drop h o s
    · rw [Bool.not_eq_true] at hle; rw [hle] at hv; cases hv
  · rw [belowL_iff] at h
    exact h v (List.mem_of_getElem? hv)
theorem fieldsChk_at {P : Program} : ∀ {fs : List (Nat × Nat × Bool)} {fields : List Field}, fieldsChk P fs fields = true → ∀ {i o n : Nat} {g : Bool}, fs[i]? = some (o, n, g) →
    ∃ f, fields[i]? = some f ∧ f.offset = o ∧ (∃ x, P.info? f.type = some x ∧ x.size = n) ∧ ∃ d, P.underlying f.type = some d ∧ aggD d = g
  | [], fields, _, i, o, n, g, hi => by simp at hi
  | (o', n', g') :: xs, [], h, i, o, n, g, hi => by simp [fieldsChk] at h
  | (o', n', g') :: xs, f :: fs, h, i, o, n, g, hi => by
    simp only [fieldsChk, Bool.and_eq_true] at h
    obtain ⟨⟨h1, h2⟩, h3⟩ := h
    cases i with
    | zero =>
      simp only [List.getElem?_cons_zero, Option.some.injEq, Prod.mk.injEq] at hi
      obtain ⟨rfl, rfl, rfl⟩ := hi
      split at h2
      · rename_i x d hx hd
        simp only [Bool.and_eq_true, beq_iff_eq] at h2
        exact ⟨f, rfl, Nat.eq_of_beq_eq_true h1, ⟨x, hx, Nat.eq_of_beq_eq_true h2.1⟩, d, hd, h2.2⟩
      · cases h2
    | succ i =>
      simp only [List.getElem?_cons_succ] at hi ⊢
      exact fieldsChk_at h3 hi

theorem bt_run {s : ByteArray} {i : Int} (h0 : 0 ≤ i) (h1 : i < (s.size : Int)) : (if 0 ≤ i then s[i.toNat]? else none) = some (s.data.toList.getD i.toNat 0) := by
  rw [if_pos h0]
  have hl : i.toNat < s.size := by omega
  have hs : s.data.toList.length = s.size := by simp
  rw [getElem?_pos s i.toNat hl, List.getD_eq_getElem?_getD, List.getElem?_eq_getElem (by omega)]
  rfl

theorem args1 {α : Type} {xs : Array α} {x : α} (h : xs.toList = [x]) : xs = #[x] := by cases xs; simp_all
theorem minInt (a b : Int) : (if b < a then b else a) = min a b := by omega
theorem maxInt (a b : Int) : (if b > a then b else a) = max a b := by omega
theorem hdr_slice {v : Value} {n : Nat} (h : RowVal v n) : ∃ a c, hdr v = .slice a n c := by
  rcases h with ⟨rfl, rfl⟩ | ⟨a, c, rfl, _⟩
  · exact ⟨_, _, rfl⟩
  · exact ⟨_, _, rfl⟩
theorem evBuiltin_run {P : Program} {tab : Tab} (hT : tabChk P tab = true) {T : Type} {ν : Nat → Value} {H : Heap} (hF : RowFacts ν H) {nx : Nat} {K : SV → O T}
    {b : Builtin} {ts : Array TypeId} {args : List SV} {res : O T} (h : evBuiltin tab H b ts.toList args K = res) (hne : res ≠ .no) (ha : belowL nx args = true) (ty : TypeId) (cs : Array Bool) :
    ∃ v, K v = res ∧ svLt nx v = true ∧ ∀ w, (builtin b ts ty cs (denL ν args).toArray).run P w = .ok (.value (den ν v)) w := by
  unfold evBuiltin at h
  split at h
  · rename_i t v ht
    have lenS : ∀ e, lkp t tab = some (.slice e) → ∀ a n c, den ν v = .slice a n c → ∀ w, (builtin .len ts ty cs (denL ν [v]).toArray).run P w = .ok (.value (.int .i64 (n : Int))) w := by
      intro e htab a n c hv w
      obtain ⟨d, hd, hk, -⟩ := (tyOk hT htab).desc
      cases d <;> simp [descChk] at hk
      simp [builtin, Builtin.len_, args1 ht, denL, hv, run_underlying' hd, goInt]
    split at h
    · rename_i s htab
      obtain ⟨d, hd, hk, -⟩ := (tyOk hT htab).desc
      cases d <;> simp [descChk] at hk
      refine ⟨_, h, by simp [svLt], fun w => ?_⟩
      simp [builtin, Builtin.len_, args1 ht, denL, den, run_underlying' hd, goInt]
    · rename_i e htab
      exact ⟨_, h, by simp [svLt], fun w => by simpa [den] using lenS e htab _ _ _ rfl w⟩
    · rename_i e j m htab
      exact ⟨_, h, by simp [svLt], fun w => by simpa [den] using lenS e htab _ m _ rfl w⟩
    · rename_i e j htab
      split at h
      · rename_i own t' ls xs hj
        obtain ⟨a, c, hh⟩ := hdr_slice (hF.1 j own t' ls xs hj).2
        exact ⟨_, h, by simp [svLt], fun w => by simpa [den] using lenS e htab a xs.length c hh w⟩
      · rename_i t' f xs hj
        have hh : ∃ a c, den ν (.osl j) = .slice a xs.length c := by
          rcases hF.2 j t' f xs hj with ⟨e1, e2⟩ | ⟨a, c, e1, _⟩
          · exact ⟨none, 0, by simp only [den, e1, hdr, e2]⟩
          · exact ⟨some a, c, by simp only [den, e1, hdr]⟩
        obtain ⟨a, c, hh⟩ := hh
        exact ⟨_, h, by simp [svLt], fun w => by simpa [den] using lenS e htab a xs.length c hh w⟩
      · exact absurd h.symm hne
    · rename_i e j sz ch n htab
      split at h
      · rename_i s hs
        obtain ⟨hok, h⟩ := O.chk_ne h hne
        have ha' : svLt nx (.sl j sz ch n) = true := by simpa [belowL] using ha
        obtain ⟨hS, -⟩ := slOf_ok (nx := nx) hF hs
        obtain ⟨_, hn, _⟩ := Sl.ok_spec hok
        refine ⟨_, h, by simp [svLt], fun w => ?_⟩
        rcases hS.shape hok with ⟨e1, _, e3, _⟩ | ⟨a, cap, _, e2, _⟩
        · have := lenS e htab _ _ _ e1 w
          simpa [den, e3] using this
        · have := lenS e htab _ _ _ e2 w
          rw [this]
          simp only [den]
          congr 3
          omega
      · exact absurd h.symm hne
    · exact absurd h.symm hne
  · rename_i k a k' b
    by_cases hk : k = k'
    · subst hk
      simp only [decide_true, ifb] at h
      refine ⟨_, h, by simp [svLt], fun w => ?_⟩
      simp [builtin, Builtin.min_, Builtin.min2, denL, den, minInt]
    · simp only [hk, decide_false, ifb] at h; exact absurd h.symm hne
  · rename_i k a k' b
    by_cases hk : k = k'
    · subst hk
      simp only [decide_true, ifb] at h
      refine ⟨_, h, by simp [svLt], fun w => ?_⟩
      simp [builtin, Builtin.max_, Builtin.max2, denL, den, maxInt]
    · simp only [hk, decide_false, ifb] at h; exact absurd h.symm hne
  · rename_i k a k' b k'' c
    by_cases hk : k = k'
    · subst hk
      by_cases hk : k = k''
      · subst hk
        simp only [decide_true, Bool.and_self, ifb] at h
        refine ⟨_, h, by simp [svLt], fun w => ?_⟩
        simp [builtin, Builtin.min_, Builtin.min2, denL, den, minInt]
      · simp only [hk, decide_false, Bool.and_false, ifb] at h; exact absurd h.symm hne
    · simp only [hk, decide_false, Bool.false_and, ifb] at h; exact absurd h.symm hne
  · exact absurd h.symm hne

/-! ### A struct's making -/
theorem run_places {P : Program} {w : World} : ∀ {fs : List (Nat × Nat × Bool)} {fields : List Field}, fieldsChk P fs fields = true → (fields.mapM (fun (f : Field) => (do pure (f.offset, ← sizeOf f.type) : Sem (Nat × Nat)))).run P w = .ok (fs.map fun f => (f.1, f.2.1)) w
  | [], [], _ => by simp
  | [], _ :: _, h => by simp [fieldsChk] at h
  | _ :: _, [], h => by simp [fieldsChk] at h
  | (o, n, g) :: xs, f :: fs, h => by
    simp only [fieldsChk, Bool.and_eq_true] at h
    obtain ⟨⟨h1, h2⟩, h3⟩ := h
    have h1 := Nat.eq_of_beq_eq_true h1
    split at h2
    · rename_i i d hi hd
      simp only [Bool.and_eq_true] at h2
      have h4 := Nat.eq_of_beq_eq_true h2.1
      simp only [List.mapM_cons, Sem.run_bind, run_sizeOf' hi, Result.andThen_ok, Sem.run_pure, run_places h3, List.map_cons, h1, h4]
    · cases h2
theorem zip_set (off : Nat) : ∀ (vs : List Value) (k : Nat) (cells : Array Value), off + k + vs.length ≤ cells.size →
    ((vs.zipIdx k).foldl (fun cs (c, j) => cs.setIfInBounds (off + j) c) cells).toList = cells.toList.take (off + k) ++ vs ++ cells.toList.drop (off + k + vs.length)
  | [], k, cells, _ => by simp
  | v :: vs, k, cells, h => by
    simp only [List.zipIdx_cons, List.foldl_cons]
    rw [zip_set off vs (k + 1) _ (by simp at h ⊢; omega)]
    have e := list_seg_step cells.toList (off + k) v vs (by simp at h ⊢; omega)
    simpa [Array.toList_setIfInBounds, Nat.add_assoc] using e
theorem setPart_length {off : Nat} {new cs : List SV} (h : off + new.length ≤ cs.length) : (setPart off new cs).length = cs.length := by
  simp [setPart]; omega
theorem fill_den (ν : Nat → Value) (place : Nat → Option (Nat × Nat)) (fs : List (Nat × Nat × Bool)) (hp : ∀ i, place i = (fs[i]?).map fun f => (f.1, f.2.1)) : ∀ (ps : List (Nat × SV)) (z cs : List SV), fillS fs ps z = some cs →
    Instr.fill place (denL ν z).toArray (ps.map fun p => (p.1, den ν p.2)) = some (denL ν cs).toArray
  | [], z, cs, h => by cases h; rfl
  | (i, v) :: ps, z, cs, h => by
    simp only [fillS] at h
    split at h
    · rename_i o n g hf
      by_cases hc : (Nat.beq v.cellsOf.length n && Nat.ble (o + n) z.length) = true
      · rw [hc, cond_true] at h
        simp only [Bool.and_eq_true] at hc
        have h1 := Nat.eq_of_beq_eq_true hc.1
        have h2 := Nat.le_of_ble_eq_true hc.2
        have hs : (den ν v).cells.size = n := by rw [cellsOf_den]; simp [denL_length, h1]
        have hz : (denL ν z).toArray.size = z.length := by simp [denL_length]
        simp only [List.map_cons, Instr.fill, hp, hf, Option.map_some]
        rw [if_neg (by simp only [hs, hz, ne_eq, not_true_eq_false, decide_false, Bool.false_or, decide_eq_true_eq]; omega)]
        have hset : ((den ν v).cells.zipIdx.foldl (fun cs (c, j) => cs.setIfInBounds (o + j) c) (denL ν z).toArray) = (denL ν (setPart o v.cellsOf z)).toArray := by
          apply Array.ext'
          rw [← Array.foldl_toList, Array.toList_zipIdx, cellsOf_den]
          have := zip_set o (denL ν v.cellsOf) 0 (denL ν z).toArray (by rw [hz, denL_length]; omega)
          simp only [Nat.add_zero] at this
          rw [this, setPart_den]
        rw [hset]
        exact fill_den ν place fs hp ps _ cs h
      · rw [Bool.not_eq_true] at hc; rw [hc] at h; cases h
    · cases h
theorem fillS_lt {n : Nat} {fs : List (Nat × Nat × Bool)} : ∀ {ps : List (Nat × SV)} {z cs : List SV}, fillS fs ps z = some cs → (∀ p ∈ ps, svLt n p.2 = true) → belowL n z = true → belowL n cs = true
  | [], z, cs, h, _, hz => by cases h; exact hz
  | (i, v) :: ps, z, cs, h, hp, hz => by
    simp only [fillS] at h
    split at h
    · rename_i o m g hf
      by_cases hc : (Nat.beq v.cellsOf.length m && Nat.ble (o + m) z.length) = true
      · rw [hc, cond_true] at h
        exact fillS_lt h (fun p hp' => hp p (List.mem_cons_of_mem _ hp')) (setPart_lt (cellsOf_lt (hp (i, v) (List.mem_cons_self ..))) hz)
      · rw [Bool.not_eq_true] at hc; rw [hc] at h; cases h
    · cases h
theorem bound_run {P : Program} (w : World) (k : IntKind) (i : Int) (y : Nat) (c : BoundsCode) (h0 : 0 ≤ i) (h1 : i ≤ y) : (Instr.sliceBound (.int k i) y c).run P w = .ok i.toNat w := by
  simp [Instr.sliceBound, asIntOf, h0, h1]

theorem nil_or {T : Type} {K : Bool → O T} {res : O T} {p : Bool} {v : Value} {a : Option Addr} {n c : Nat} (h : O.cond p (K false) (O.same (K true) (K false)) = res) (hne : res ≠ .no) (hv : v = .slice a n c) (hp : p = true → a ≠ none) :
    ∃ b, K b = res ∧ ∃ a n c, v = .slice a n c ∧ b = a.isNone := by
  rw [O.cond_eq] at h
  cases p with
  | true =>
    refine ⟨false, h, a, n, c, hv, ?_⟩
    cases a with
    | some a => rfl
    | none => exact (hp rfl rfl).elim
  | false =>
    obtain ⟨h1, h2⟩ := O.same_ne h hne
    cases hq : a.isNone with
    | true => exact ⟨true, h1, a, n, c, hv, hq.symm⟩
    | false => exact ⟨false, h2, a, n, c, hv, hq.symm⟩
theorem nilTest_run {T : Type} {ν : Nat → Value} {H : Heap} (hF : RowFacts ν H) {x : SV} {K : Bool → O T} {res : O T} (h : nilTest H x K = res) (hne : res ≠ .no) : ∃ b, K b = res ∧ ∃ a n c, den ν x = .slice a n c ∧ b = a.isNone := by
  unfold nilTest at h
  split at h
  · exact ⟨true, h, none, 0, 0, by simp [den], rfl⟩
  · exact ⟨false, h, _, _, _, by simp only [den]; rfl, rfl⟩
  · rename_i j
    split at h
    · rename_i own t ls xs hj
      rcases (hF.1 j own t ls xs hj).2 with ⟨e, hn⟩ | ⟨a, cap, e, _⟩
      · exact nil_or h hne (a := none) (n := 0) (c := 0) (by simp only [den]; rw [e]; rfl) (fun hp => by have := of_decide_eq_true hp; omega)
      · exact nil_or h hne (a := some a) (by simp only [den]; rw [e]; rfl) (fun _ => by simp)
    · exact absurd h.symm hne
  · split at h
    · rename_i s hs
      obtain ⟨hok, h⟩ := O.chk_ne h hne
      obtain ⟨hS, _⟩ := slOf_ok (nx := 0) hF hs
      obtain ⟨h1, h2, h3⟩ := Sl.ok_spec hok
      have h4 := sumI_nonneg h1
      rcases hS.shape hok with ⟨e1, _, e3, e4⟩ | ⟨a, cap, e1, e2, _⟩
      · exact nil_or h hne e1 (fun hp => by have := of_decide_eq_true hp; omega)
      · exact nil_or h hne e2 (fun _ => by simp)
    · exact absurd h.symm hne
theorem evSlNil_run {P : Program} {tab : Tab} (hT : tabChk P tab = true) {T : Type} {ν : Nat → Value} {H : Heap} (hF : RowFacts ν H) {t : TypeId} {e : TypeId} (hl : lkp t tab = some (.slice e)) {op : BinOp} {x : SV} {K : SV → O T} {res : O T} (xo yo : Operand) (h : evSlNil op H x K = res) (hne : res ≠ .no) :
    ∃ v, K v = res ∧ svLt 0 v = true ∧ ∀ w, (do eqGuard op t xo yo (den ν x) (.slice none 0 0); Go.binOp op t (den ν x) (.slice none 0 0)).run P w = .ok (den ν v) w := by
  obtain ⟨d, hd, hk, _⟩ := (tyOk hT hl).desc
  cases d <;> simp [descChk] at hk
  have key : ∀ (a : Option Addr) (n c : Nat) (w : World), (Op.equal t (.slice a n c) (.slice none 0 0)).run P w = .ok a.isNone w := by
    intro a n c w
    show (Op.equalIn (9999 + 1) t (.slice a n c) (.slice none 0 0)).run P w = _
    generalize 9999 = m
    cases a <;> simp only [Op.equalIn, Sem.run_bind, run_underlying' hd, Result.andThen_ok, Sem.run_pure] <;> rfl
  unfold evSlNil at h
  split at h
  · obtain ⟨b, hb, a, n, c, hv, rfl⟩ := nilTest_run hF h hne
    refine ⟨_, hb, rfl, fun w => ?_⟩
    have hg : (eqGuard .eql t xo yo (.slice a n c) (.slice none 0 0)).run P w = .ok () w := by unfold eqGuard; rfl
    rw [hv]
    simp only [Sem.run_bind, hg, Result.andThen_ok, Go.binOp, key, Sem.run_pure, den]
  · obtain ⟨b, hb, a, n, c, hv, rfl⟩ := nilTest_run hF h hne
    refine ⟨_, hb, rfl, fun w => ?_⟩
    have hg : (eqGuard .neq t xo yo (.slice a n c) (.slice none 0 0)).run P w = .ok () w := by unfold eqGuard; rfl
    rw [hv]
    simp only [Sem.run_bind, hg, Result.andThen_ok, Go.binOp, key, Sem.run_pure, den]
  · exact absurd h.symm hne
set_option maxHeartbeats 1000000 in
theorem evQ_run {P : Program} {tab : Tab} (hT : tabChk P tab = true) {T : Type} {ν : Nat → Value} {n nx : Nat} {fr : Fr} {H : Heap} (hF : RowFacts ν H) {K : SV → O T}
    {a : Act} (hE : EnvOk ν n nx fr a) (o : Oper) {res : O T} (h : evQ tab H o.op fr.env K = res) (hne : res ≠ .no) :
    ∃ v, K v = res ∧ svLt nx v = true ∧ ∀ w, (execOp a.eval o).run P w = .ok (.value (den ν v)) w := by
  have z : ∀ v, svLt 0 v = true → svLt nx v = true := fun v hv => svLt_mono (Nat.zero_le _) v hv
  unfold evQ at h
  split at h
  case h_1 x ho =>
    split at h
    · rename_i v hv
      have hd := ofOpd_den hE hv
      exact ⟨v, h, hd.2, fun w => (by simp only [execOp, ho]; rw [Sem.run_pure, hd.1])⟩
    · exact absurd h.symm hne

  case h_2 x ho =>
    split at h
    · rename_i v hv
      have hd := ofOpd_den hE hv
      exact ⟨v, h, hd.2, fun w => (by simp only [execOp, ho]; rw [Sem.run_pure, hd.1])⟩
    · exact absurd h.symm hne

  case h_3 c x y ho =>
    split at h
    · rename_i vc vx vy hc hx hy
      have dc := ofOpd_den hE hc
      have dx := ofOpd_den hE hx
      have dy := ofOpd_den hE hy
      unfold evPick at h
      split at h
      · exact ⟨_, h, dx.2, fun w => (by simp [execOp, ho, dc.1, dx.1, dy.1, den, asBool])⟩
      · exact ⟨_, h, dy.2, fun w => (by simp [execOp, ho, dc.1, dx.1, dy.1, den, asBool])⟩
      · exact absurd h.symm hne
    · exact absurd h.symm hne

  case h_4 x ho =>   -- nilCheck
    split at h
    · rename_i j off hx
      have hd := ofOpd_den hE hx
      exact ⟨_, h, hd.2, fun w => (by simp [execOp, ho, hd.1, den])⟩
    · rename_i j sz i off hx
      have hd := ofOpd_den hE hx
      exact ⟨_, h, hd.2, fun w => (by simp [execOp, ho, hd.1, den])⟩
    · rename_i f cs hx
      have hd := ofOpd_den hE hx
      exact ⟨_, h, hd.2, fun w => (by simp [execOp, ho, hd.1, den])⟩
    · exact absurd h.symm hne

  case h_5 op t x y t' ho =>   -- binOp
    split at h
    · rename_i vx vy hx hy
      have dx := ofOpd_den hE hx
      have dy := ofOpd_den hE hy
      by_cases hs : isSlNil (lkp t tab) (isConst y) vy = true
      · rw [hs, ifb_true] at h
        unfold isSlNil at hs
        split at hs
        · rename_i tk e hl
          obtain ⟨v, hk, hv, hrun⟩ := evSlNil_run (P := P) hT hF hl x y h hne
          refine ⟨v, hk, (z v hv), fun w => ?_⟩
          have hdy : a.eval y = .slice none 0 0 := by rw [dy.1]; simp [den]
          simp only [execOp, ho, dx.1, hdy, hrun, Sem.run_bind, Sem.run_pure, Result.andThen_ok] at hrun ⊢
        · cases hs
      · rw [Bool.not_eq_true] at hs
        rw [hs, ifb_false] at h
        obtain ⟨v, hk, hv, hrun⟩ := evBin_run (P := P) hT ν t x y h hne
        refine ⟨v, hk, (z v hv), fun w => ?_⟩
        simp only [execOp, ho, dx.1, dy.1, hrun, Sem.run_bind, Sem.run_pure, Result.andThen_ok] at hrun ⊢
    · exact absurd h.symm hne

  case h_6 op t x ho =>   -- unOp
    split at h
    · rename_i vx hx
      have dx := ofOpd_den hE hx
      unfold evUn at h
      split at h
      · exact ⟨_, h, (by simp [svLt]), fun w => (by simp [execOp, ho, dx.1, den, Op.unary])⟩
      · exact ⟨_, h, (by simp [svLt]), fun w => (by simp [execOp, ho, dx.1, den, Op.unary, Op.intArith])⟩
      · exact absurd h.symm hne
    · exact absurd h.symm hne

  case h_7 s d x ho =>   -- convert
    split at h
    · rename_i ks kd vx hs hd hx
      have dx := ofOpd_den hE hx
      have ts := tyOk hT hs
      have td := tyOk hT hd
      obtain ⟨ds, hds, hks, -⟩ := ts.desc
      obtain ⟨dd, hdd, hkd, -⟩ := td.desc
      unfold evConv at h
      split at h
      · rename_i k k' m
        cases dd <;> simp [descChk] at hkd
        subst hkd
        refine ⟨_, h, (by simp [svLt]), fun w => ?_⟩
        simp only [execOp, ho, convert, Sem.run_bind, run_underlying' hds, run_underlying' hdd, Result.andThen_ok, dx.1, den]
        rfl
      · rename_i s'
        cases dd <;> simp [descChk] at hkd
        cases ds <;> simp [descChk] at hks
        refine ⟨_, h, (by simp [svLt]), fun w => ?_⟩
        simp only [execOp, ho, convert, Sem.run_bind, run_underlying' hds, run_underlying' hdd, Result.andThen_ok, dx.1, den]
        rfl
      · exact absurd h.symm hne
    · exact absurd h.symm hne

  case h_8 f first caps ho =>   -- makeFunc
    split at h
    · rename_i vs hf hv
      have hd := ofOpds_den hE hv
      have hf : first = #[] := by cases first; simp_all
      refine ⟨_, h, (by simp only [svLt]; exact hd.2), fun w => ?_⟩
      simp only [execOp, ho, Instr.makeFunc, Sem.run_bind, Sem.run_pure, Result.andThen_ok, den, hf, ← hd.1]
      cases caps
      simp
    · exact absurd h.symm hne

  case h_9 s x f ho =>   -- fieldAddr
    split at h
    · rename_i fs _ _ _ j off hs hx
      split at h
      · rename_i o' n' g' hf
        by_cases hc : Nat.ble 1 n' = true
        · rw [hc, ifb_true] at h
          have hc := Nat.le_of_ble_eq_true hc
          have dx := ofOpd_den hE hx
          obtain ⟨d, hd, hk, -⟩ := (tyOk hT hs).desc
          cases d <;> simp [descChk] at hk
          rename_i fields
          obtain ⟨fd, hfd, ho', ⟨i, hi, hsz⟩, _⟩ := fieldsChk_at hk hf
          refine ⟨(.ptr j (off + o')), h, (by simpa [svLt] using dx.2), fun w => ?_⟩
          rw [Array.getElem?_toList] at hfd
          have hne' : i.size ≠ 0 := by omega
          simp only [execOp, ho, Instr.fieldAt, Sem.run_bind, run_underlying' hd, Result.andThen_ok, hfd, dx.1, den, Instr.sureAddr, Sem.run_pure, fieldPlace, run_sizeOf' hi, hne', if_false, ho', add_plain]
        · rw [Bool.not_eq_true] at hc; rw [hc] at h; exact absurd h.symm hne
      · exact absurd h.symm hne
    · rename_i fs _ _ _ j sz' i' off hs hx
      split at h
      · rename_i o' n' g' hf
        by_cases hc : Nat.ble 1 n' = true
        · rw [hc, ifb_true] at h
          have hc := Nat.le_of_ble_eq_true hc
          have dx := ofOpd_den hE hx
          obtain ⟨d, hd, hk, -⟩ := (tyOk hT hs).desc
          cases d <;> simp [descChk] at hk
          rename_i fields
          obtain ⟨fd, hfd, ho', ⟨i, hi, hsz⟩, _⟩ := fieldsChk_at hk hf
          refine ⟨(.ept j sz' i' (off + o')), h, (by simpa [svLt] using dx.2), fun w => ?_⟩
          rw [Array.getElem?_toList] at hfd
          have hne' : i.size ≠ 0 := by omega
          simp only [execOp, ho, Instr.fieldAt, Sem.run_bind, run_underlying' hd, Result.andThen_ok, hfd, dx.1, den, Instr.sureAddr, Sem.run_pure, fieldPlace, run_sizeOf' hi, hne', if_false, ho', add_plain, Nat.add_assoc]
        · rw [Bool.not_eq_true] at hc; rw [hc] at h; exact absurd h.symm hne
      · exact absurd h.symm hne
    · exact absurd h.symm hne

  case h_10 s x f ho =>   -- field
    split at h
    · rename_i fs _ _ _ cs hs hx
      split at h
      · rename_i o' n' g' hf
        split at h
        · rename_i v hv
          have dx := ofOpd_den hE hx
          obtain ⟨d, hd, hk, -⟩ := (tyOk hT hs).desc
          cases d <;> simp [descChk] at hk
          rename_i fields
          obtain ⟨fd, hfd, ho', ⟨i, hi, hsz⟩, dd, hdd, hgg⟩ := fieldsChk_at hk hf
          have hlt : belowL nx cs = true := by have := dx.2; simpa only [svLt] using this
          refine ⟨v, h, (partOf_lt hlt hv), fun w => ?_⟩
          rw [Array.getElem?_toList] at hfd
          simp only [execOp, ho, Instr.field, Sem.run_bind, run_underlying' hd, Result.andThen_ok, hfd, dx.1, den, asAgg, Sem.run_pure, part, run_isAgg' hdd, hgg, ho']
          unfold partOf at hv
          split at hv
          · by_cases hc : Nat.ble (o' + n') cs.length = true
            · rw [hc] at hv
              cases hv
              simp [run_sizeOf' hi, hsz, den, denL_eq, List.map_take, List.map_drop, List.extract_eq_take_drop]
            · rw [Bool.not_eq_true] at hc; rw [hc] at hv; cases hv
          · simp [denL_eq, hv]
        · exact absurd h.symm hne
      · exact absurd h.symm hne
    · exact absurd h.symm hne

  case h_11 t parts ho =>   -- build
    split at h
    · rename_i fs sz z eq ps ht hps
      split at h
      · rename_i cs hcs
        have dp := ofParts_den hE hps
        have tk := tyOk hT ht
        obtain ⟨d, hd, hk, -⟩ := tk.desc
        cases d <;> simp [descChk] at hk
        rename_i fields
        obtain ⟨i, hi, hs, _, y, hy, hz⟩ := tk.info
        have hzl : belowL 0 z = true := by have := tk.zlt; simpa [TK.zero, svLt] using this
        refine ⟨_, h, (by simp only [svLt]; exact fillS_lt hcs dp.2 (belowL_mono (Nat.zero_le _) _ hzl)), fun w => ?_⟩
        have hzc : y.cells = (denL ν z).toArray := by rw [← hz ν, cellsOf_den]; rfl
        have hpl : (fields.mapM (fun (f : Field) => (do pure (f.offset, ← sizeOf f.type) : Sem (Nat × Nat)))).run P w = .ok (fs.map fun f => (f.1, f.2.1)).toArray w := by
          rw [← Array.toArray_toList (xs := fields), List.mapM_toArray]
          simp only [Sem.run_map, run_places hk, Result.andThen_ok, Sem.run_pure]
        have hfill := fill_den ν (fun i => ((fs.map fun f => (f.1, f.2.1)).toArray)[i]?) fs (fun i => by simp) ps z cs hcs
        rw [← dp.1] at hfill
        simp only [execOp, ho, Instr.build, Sem.run_bind, run_zeroValue' hi hy, run_underlying' hd, Result.andThen_ok, hpl, hzc, Array.toList_map, hfill, Sem.run_pure, den]
      · exact absurd h.symm hne
    · exact absurd h.symm hne

  case h_12 x i ho =>   -- extract
    split at h
    · rename_i vs hx
      split at h
      · rename_i v hv
        have dx := ofOpd_den hE hx
        have hlt : belowL nx vs = true := by have := dx.2; simpa only [svLt] using this
        refine ⟨v, h, (belowL_iff.1 hlt v (List.mem_of_getElem? hv)), fun w => ?_⟩
        simp [execOp, ho, Instr.extract, dx.1, den, denL_eq, hv]
      · exact absurd h.symm hne
    · exact absurd h.symm hne

  case h_13 t x i ho =>   -- index
    split at h
    · rename_i s k' i' ht hx hi
      obtain ⟨hb, h⟩ := O.chk_ne h hne
      simp only [decide_eq_true_eq] at hb
      have dx := ofOpd_den hE hx
      have di := ofOpd_den hE hi
      obtain ⟨d, hd, hk, -⟩ := (tyOk hT ht).desc
      cases d <;> simp [descChk] at hk
      refine ⟨_, h, (by simp [svLt]), fun w => ?_⟩
      simp only [execOp, ho, Instr.index, Sem.run_bind, dx.1, di.1, den, asIntOf, Sem.run_pure, Result.andThen_ok, run_underlying' hd, bt_run hb.1 hb.2, bt]
    · exact absurd h.symm hne

  case h_14 t x ix ho =>   -- indexAddr
    split at h
    · rename_i e j m k0 i' ht hx hi
      split at h
      · rename_i p k hk
        by_cases hc : (Nat.beq k.size 1 && Nat.blt p m) = true
        · rw [hc, ifb_true] at h
          simp only [Bool.and_eq_true] at hc
          have hsz := Nat.eq_of_beq_eq_true hc.1
          have hlt : p < m := Nat.le_of_ble_eq_true hc.2
          have dx := ofOpd_den hE hx
          have di := ofOpd_den hE hi
          obtain ⟨d, hd, hdk, -⟩ := (tyOk hT ht).desc
          cases d <;> simp [descChk] at hdk
          subst hdk
          obtain ⟨ei, hei, hes, _⟩ := (tyOk hT hk).info
          have hlt' : (p : Int) < (m : Int) := by omega
          refine ⟨_, h, (by simpa [svLt] using dx.2), fun w => ?_⟩
          simp only [execOp, ho, Instr.indexAt, Sem.run_bind, di.1, dx.1, den, asIntOf, Sem.run_pure, Result.andThen_ok, run_underlying' hd, add_plain]
          rw [if_pos (by simp; omega)]
          simp [run_sizeOf' hei, hes, hsz, add_plain]
        · rw [Bool.not_eq_true] at hc; rw [hc] at h; exact absurd h.symm hne
      · exact absurd h.symm hne
    · rename_i e v k0 i' _ ht hx hi
      split at h
      · rename_i s k hs hk
        by_cases hc : (Nat.beq k.size s.ls.length && Nat.ble 1 s.ls.length) = true
        · rw [hc, ifb_true] at h
          simp only [Bool.and_eq_true] at hc
          have hsz := Nat.eq_of_beq_eq_true hc.1
          have dx := ofOpd_den hE hx
          have di := ofOpd_den hE hi
          obtain ⟨hS, hjl⟩ := slOf_ok (nx := nx) hF hs
          have hjl := hjl dx.2
          obtain ⟨d, hd, hdk, -⟩ := (tyOk hT ht).desc
          cases d <;> simp [descChk] at hdk
          subst hdk
          obtain ⟨ei, hei, hes, _⟩ := (tyOk hT hk).info
          have key : s.ok = true → 0 ≤ i' → i' < s.n → ∀ w, (execOp a.eval o).run P w = .ok (.value (den ν (.ept s.j s.ls.length (sumI s.ch + i') 0))) w := by
            intro hok h0 h1 w
            obtain ⟨p1, p2, p3⟩ := Sl.ok_spec hok
            have p4 := sumI_nonneg p1
            rcases hS.shape hok with ⟨_, _, e3, _⟩ | ⟨ad, cap, e1, e2, _, _, e5⟩
            · omega
            · obtain ⟨e6, e7⟩ := e5 (by omega)
              have hlt : i' < (s.n.toNat : Int) := by omega
              simp only [execOp, ho, Instr.indexAt, Sem.run_bind, di.1, dx.1, den, asIntOf, Sem.run_pure, Result.andThen_ok, run_underlying' hd, e2, h0, hlt, and_self, if_true, run_sizeOf' hei, hes, hsz, e7, add_plain, e1, blk, offs]
              congr 4
              rw [show (sumI s.ch + i').toNat = (sumI s.ch).toNat + i'.toNat by omega, Nat.add_mul]
              simp only [Addr.mk.injEq, and_true, true_and]
              omega
          split at h
          · rename_i hch
            obtain ⟨hb, h⟩ := O.chk_ne h hne
            simp only [decide_eq_true_eq] at hb
            have hok : s.ok = true := by unfold Sl.ok; rw [hch]; simp only [decide_eq_true_eq]; omega
            refine ⟨_, h, (by simpa [svLt] using hjl), fun w => ?_⟩
            have := key hok hb.1 hb.2.1 w
            rw [hch] at this
            simpa [sumI] using this
          · rename_i hch
            obtain ⟨hb, h⟩ := O.chk_ne h hne
            simp only [Bool.and_eq_true, decide_eq_true_eq] at hb
            exact ⟨_, h, (by simpa [svLt] using hjl), fun w => key hb.1 hb.2.1 hb.2.2 w⟩
        · rw [Bool.not_eq_true] at hc; rw [hc] at h; exact absurd h.symm hne
      · rename_i k hs hk
        split at h
        · rename_i j _
          split at h
          · rename_i t' f xs hj
            by_cases hc : (Nat.beq k.size f.sz && Nat.ble 1 f.sz) = true
            · rw [hc, ifb_true] at h
              simp only [Bool.and_eq_true] at hc
              have hsz := Nat.eq_of_beq_eq_true hc.1
              have dx := ofOpd_den hE hx
              have di := ofOpd_den hE hi
              obtain ⟨d, hd, hdk, -⟩ := (tyOk hT ht).desc
              cases d <;> simp [descChk] at hdk
              subst hdk
              obtain ⟨ei, hei, hes, _⟩ := (tyOk hT hk).info
              obtain ⟨hb, h⟩ := O.chk_ne h hne
              simp only [decide_eq_true_eq] at hb
              refine ⟨_, h, (by simpa [svLt] using dx.2), fun w => ?_⟩
              rcases hF.2 j t' f xs hj with ⟨e1, e2⟩ | ⟨ad, cap, e1, e2⟩
              · omega
              · have e2 := e2 (by omega)
                have hx1 := dx.1
                simp only [den, e1, hdr] at hx1
                obtain ⟨b, o', sp⟩ := ad
                simp only at e2
                subst e2
                simp only [execOp, ho, Instr.indexAt, Sem.run_bind, di.1, hx1, den, asIntOf, Sem.run_pure, Result.andThen_ok, run_underlying' hd, hb.1, hb.2, and_self, if_true, run_sizeOf' hei, hes, hsz, add_plain, e1, blk, offs, Nat.add_zero]
            · rw [Bool.not_eq_true] at hc; rw [hc] at h; exact absurd h.symm hne
          · exact absurd h.symm hne
        · exact absurd h.symm hne
      · exact absurd h.symm hne
    · exact absurd h.symm hne

  case h_15 t x lo hi mx ho =>   -- slice
    split at h
    · rename_i s ht hx
      have dx := ofOpd_den hE hx
      obtain ⟨d, hd, hk, -⟩ := (tyOk hT ht).desc
      cases d <;> simp [descChk] at hk
      have bound : ∀ (w : World) (k : IntKind) (i : Int) (y : Nat) (c : BoundsCode), 0 ≤ i → i ≤ y → (Instr.sliceBound (.int k i) y c).run P w = .ok i.toNat w := by
        intro w k i y c h0 h1
        simp [Instr.sliceBound, asIntOf, h0, h1]
      split at h
      · refine ⟨_, h, (by simp [svLt]), fun w => ?_⟩
        simp [execOp, ho, Instr.sliceAt, Instr.slice, run_underlying' hd, dx.1, den, Instr.sliceBounds]
      · rename_i l
        split at h
        · rename_i k l' hl
          obtain ⟨hb, h⟩ := O.chk_ne h hne
          simp only [decide_eq_true_eq] at hb
          have dl := ofOpd_den hE hl
          refine ⟨_, h, (by simp [svLt]), fun w => ?_⟩
          simp [execOp, ho, Instr.sliceAt, Instr.slice, run_underlying' hd, dx.1, dl.1, den, Instr.sliceBounds, bound _ _ _ _ _ hb.1 hb.2]
        · exact absurd h.symm hne
      · rename_i l
        split at h
        · rename_i k l' hl
          obtain ⟨hb, h⟩ := O.chk_ne h hne
          simp only [decide_eq_true_eq] at hb
          have dl := ofOpd_den hE hl
          refine ⟨_, h, (by simp [svLt]), fun w => ?_⟩
          simp [execOp, ho, Instr.sliceAt, Instr.slice, run_underlying' hd, dx.1, dl.1, den, Instr.sliceBounds, bound _ _ _ _ _ hb.1 hb.2]
        · exact absurd h.symm hne
      · rename_i l m
        split at h
        · rename_i k l' k' m' hl hm
          obtain ⟨hb, h⟩ := O.chk_ne h hne
          simp only [decide_eq_true_eq] at hb
          have dl := ofOpd_den hE hl
          have dm := ofOpd_den hE hm
          refine ⟨_, h, (by simp [svLt]), fun w => ?_⟩
          have hm' : l' ≤ ((m'.toNat : Nat) : Int) := by omega
          simp [execOp, ho, Instr.sliceAt, Instr.slice, run_underlying' hd, dx.1, dl.1, dm.1, den, Instr.sliceBounds, bound _ _ _ _ _ (show 0 ≤ m' by omega) hb.2.2, bound _ _ _ _ _ hb.1 hm']
        · exact absurd h.symm hne
    · rename_i el v ht hx
      split at h
      · rename_i s k hs hk
        by_cases hc : Nat.beq k.size s.ls.length = true
        · rw [hc, ifb_true] at h
          have hsz := Nat.eq_of_beq_eq_true hc
          have dx := ofOpd_den hE hx
          obtain ⟨hS, hjl⟩ := slOf_ok (nx := nx) hF hs
          have hjl := hjl dx.2
          obtain ⟨d, hd, hdk, -⟩ := (tyOk hT ht).desc
          cases d <;> simp [descChk] at hdk
          subst hdk
          obtain ⟨ei, hei, hes, -⟩ := (tyOk hT hk).info
          have hsize : ∀ w, (sizeOf el).run P w = .ok s.ls.length w := fun w => by rw [run_sizeOf' hei, hes, hsz]
          -- cut from l on, so many
          have cut1 : s.ok = true → ∀ l m : Int, 0 ≤ l → l ≤ m → m ≤ s.n → ∀ (lv hv : Option Value) w,
              ((lv = none ∧ l = 0) ∨ ∃ kl, lv = some (.int kl l)) → ((hv = none ∧ m = s.n) ∨ ∃ km, hv = some (.int km m)) →
              (Instr.sliceAt t (den ν v) lv hv none).run P w = .ok (cutV s.ls.length (bif lv.isSome then s.ch ++ [l] else s.ch) (m - l) (ν s.j)) w := by
            intro hok l m h0 h1 h2 lv hv w hl hh
            obtain ⟨p1, p2, p3⟩ := Sl.ok_spec hok
            have p4 := sumI_nonneg p1
            have bnd : ∀ (a : Option Addr) (n c : Nat), n = s.n.toNat → s.n ≤ (c : Int) → (Instr.sliceAt t (.slice a n c) lv hv none).run P w = .ok (.slice (if c = l.toNat then a else a.map (·.add (l.toNat * s.ls.length))) (m.toNat - l.toNat) (c - l.toNat)) w := by
              intro a n c hn hcc
              have hb1 : ∀ kk cd, (Instr.sliceBound (.int kk m) c cd).run P w = .ok m.toNat w := fun kk cd => bound_run w kk m c cd (by omega) (by omega)
              have hb2 : ∀ kk cd, (Instr.sliceBound (.int kk l) m.toNat cd).run P w = .ok l.toNat w := fun kk cd => bound_run w kk l m.toNat cd h0 (by omega)
              subst hn
              rcases hl with ⟨rfl, rfl⟩ | ⟨kl, rfl⟩ <;> rcases hh with ⟨rfl, rfl⟩ | ⟨km, rfl⟩ <;>
                simp [Instr.sliceAt, Instr.slice, run_underlying' hd, Instr.sliceBounds, hb1, hb2, hsize]
            rcases hS.shape hok with ⟨e1, e2, e3, _⟩ | ⟨ad, cap, e1, e2, e3, _⟩
            · have hl0 : l = 0 := by omega
              have hm0 : m = 0 := by omega
              rw [e1, e2, bnd none 0 0 (by omega) (by omega)]
              subst hl0; subst hm0
              simp [cutV]
            · rw [e2, bnd _ _ _ rfl (by omega), e1]
              have hcap : (chop s.ls.length s.ch (ad, cap)).2 = cap - (sumI s.ch).toNat := chop_cap _ _ _ p1
              rcases hl with ⟨rfl, rfl⟩ | ⟨kl, rfl⟩
              · simp only [Option.isSome_none, cond_false, cutV, hcap]
                congr 2
                · split
                  · rfl
                  · simp [Addr.add]
                · simp
              · simp only [Option.isSome_some, cond_true, cutV, chop_snoc, hcap]
                congr 2
                · split <;> rfl
                · omega
          split at h
          · obtain ⟨hok, h⟩ := O.chk_ne h hne
            have p2 := (Sl.ok_spec hok).2.1
            refine ⟨_, h, (by simpa [svLt] using hjl), fun w => ?_⟩
            have := cut1 hok 0 s.n (Int.le_refl _) p2 (Int.le_refl _) none none w (.inl ⟨rfl, rfl⟩) (.inl ⟨rfl, rfl⟩)
            simp only [execOp, ho, Option.map_none, dx.1, this, Sem.run_bind, Result.andThen_ok, Sem.run_pure, Option.isSome_none, cond_false, Int.sub_zero, den]
          · rename_i l
            split at h
            · rename_i kk l' hl
              obtain ⟨hb, h⟩ := O.chk_ne h hne
              simp only [Bool.and_eq_true, decide_eq_true_eq] at hb
              have dl := ofOpd_den hE hl
              refine ⟨_, h, (by simpa [svLt] using hjl), fun w => ?_⟩
              have := cut1 hb.2 l' s.n hb.1.1 hb.1.2 (Int.le_refl _) (some (.int kk l')) none w (.inr ⟨_, rfl⟩) (.inl ⟨rfl, rfl⟩)
              simp only [execOp, ho, Option.map_none, Option.map_some, dx.1, dl.1, den, this, Sem.run_bind, Result.andThen_ok, Sem.run_pure, Option.isSome_some, cond_true]
            · exact absurd h.symm hne
          · rename_i m
            split at h
            · rename_i kk m' hm
              obtain ⟨hb, h⟩ := O.chk_ne h hne
              simp only [Bool.and_eq_true, decide_eq_true_eq] at hb
              have dm := ofOpd_den hE hm
              refine ⟨_, h, (by simpa [svLt] using hjl), fun w => ?_⟩
              have := cut1 hb.2 0 m' (Int.le_refl _) hb.1.1 hb.1.2 none (some (.int kk m')) w (.inl ⟨rfl, rfl⟩) (.inr ⟨_, rfl⟩)
              simp only [execOp, ho, Option.map_none, Option.map_some, dx.1, dm.1, den, this, Sem.run_bind, Result.andThen_ok, Sem.run_pure, Option.isSome_none, cond_false, Int.sub_zero]
            · exact absurd h.symm hne
          · rename_i l m
            split at h
            · rename_i kk l' kk' m' hl hm
              obtain ⟨hb, h⟩ := O.chk_ne h hne
              simp only [Bool.and_eq_true, decide_eq_true_eq] at hb
              have dl := ofOpd_den hE hl
              have dm := ofOpd_den hE hm
              refine ⟨_, h, (by simpa [svLt] using hjl), fun w => ?_⟩
              have := cut1 hb.2 l' m' hb.1.1 hb.1.2.1 hb.1.2.2 (some (.int kk l')) (some (.int kk' m')) w (.inr ⟨_, rfl⟩) (.inr ⟨_, rfl⟩)
              simp only [execOp, ho, Option.map_none, Option.map_some, dx.1, dl.1, dm.1, den, this, Sem.run_bind, Result.andThen_ok, Sem.run_pure, Option.isSome_some, cond_true]
            · exact absurd h.symm hne
        · rw [Bool.not_eq_true] at hc; rw [hc] at h; exact absurd h.symm hne
      · exact absurd h.symm hne
    · exact absurd h.symm hne

  case h_16 t x ho =>   -- makeInterface
    split at h
    · exact absurd h.symm hne
    · rename_i k v _ ht hx
      have dx := ofOpd_den hE hx
      obtain ⟨d, hd, hk, -⟩ := (tyOk hT ht).desc
      refine ⟨(.iface t v), h, (by simpa [svLt] using dx.2), fun w => ?_⟩
      simp only [execOp, ho, Instr.makeInterface, Sem.run_bind, run_underlying' hd, Result.andThen_ok, dx.1, den]
      cases d <;> first | rfl | (cases k <;> simp_all [descChk])
    · exact absurd h.symm hne

  case h_17 x t t' ho =>   -- typeAssert
    split at h
    · exact absurd h.symm hne
    · rename_i k _ ht hx
      have tk := tyOk hT ht
      obtain ⟨d, hd, hdk, -⟩ := tk.desc
      obtain ⟨i, hi, hs, _, y, hy, hz⟩ := tk.info
      have dx := ofOpd_den hE hx
      refine ⟨_, h, (by simp [svLt, belowL, z _ tk.zlt]), fun w => ?_⟩
      simp only [execOp, ho, dx.1, den, Instr.typeAssert, Sem.run_bind, run_underlying' hd, Result.andThen_ok, denL, hz ν]
      cases d <;> first
        | (simp only [if_true, Sem.run_bind, run_zeroValue' hi hy, Result.andThen_ok, Sem.run_pure]; done)
        | (cases k <;> simp_all [descChk])
    · rename_i k d' v _ ht hx
      have tk := tyOk hT ht
      obtain ⟨d, hd, hdk, -⟩ := tk.desc
      obtain ⟨i, hi, hs, _, y, hy, hz⟩ := tk.info
      have dx := ofOpd_den hE hx
      have hvl : svLt nx v = true := by simpa [svLt] using dx.2
      by_cases hq : d' = t'
      · subst hq
        rw [Nat.beq_refl, ifb_true] at h
        refine ⟨_, h, (by simp [svLt, belowL, hvl]), fun w => ?_⟩
        simp only [execOp, ho, dx.1, den, Instr.typeAssert, Sem.run_bind, run_underlying' hd, Result.andThen_ok, denL]
        cases d <;> first
          | (simp only [if_true, Sem.run_pure, Result.andThen_ok]; done)
          | (cases k <;> simp_all [descChk])
      · rw [show Nat.beq d' t' = false from Bool.eq_false_iff.2 fun e => hq (Nat.eq_of_beq_eq_true e), ifb_false] at h
        refine ⟨_, h, (by simp [svLt, belowL, z _ tk.zlt]), fun w => ?_⟩
        simp only [execOp, ho, dx.1, den, Instr.typeAssert, Sem.run_bind, run_underlying' hd, Result.andThen_ok, denL, hz ν]
        cases d <;> first
          | (simp only [if_true, hq, if_false, Sem.run_bind, run_zeroValue' hi hy, Result.andThen_ok, Sem.run_pure]; done)
          | (cases k <;> simp_all [descChk])
    · exact absurd h.symm hne

  case h_18 c ho =>   -- call of a builtin
    split at h
    · rename_i args hargs
      have da := ofOpds_den hE hargs
      split at h
      · rename_i b hb
        obtain ⟨v, hk, hv, hrun⟩ := evBuiltin_run hT hF (P := P) h hne da.2 o.type (c.args.map fun | .const _ => true | _ => false)
        refine ⟨v, hk, hv, fun w => ?_⟩
        simp only [execOp, ho, resolve, hb, Sem.run_bind, Sem.run_pure, Result.andThen_ok, invoke]
        have e : (Array.map a.eval c.args) = (denL ν args).toArray := by
          rw [← da.1]; apply Array.ext'; simp
        rw [e]
        exact hrun w
      · exact absurd h.symm hne
    · exact absurd h.symm hne
  case h_19 => exact absurd h.symm hne

end Go.Aq
