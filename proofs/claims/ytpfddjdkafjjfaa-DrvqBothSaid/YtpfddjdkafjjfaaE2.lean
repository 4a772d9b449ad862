/- Texts of this proof, joined (4 of them): V6, V7, V7b, V7c.
   Conditions: none but those that stand at each theorem. -/
import Derived.Test.YtpfddjdkafjjfaaE1
section
namespace Go.Aq
open Go.RowKit (Below)
set_option linter.unusedVariables false
theorem setPart_den (ν : Nat → Value) (off : Nat) (new cs : List SV) : denL ν (setPart off new cs) = (denL ν cs).take off ++ denL ν new ++ (denL ν cs).drop (off + (denL ν new).length) := by
 simp [setPart, denL_eq, List.map_take, List.map_drop]
theorem setPart_lt {n : Nat} {off : Nat} {new cs : List SV} (h1 : belowL n new = true) (h2 : belowL n cs = true) : belowL n (setPart off new cs) = true := by
 rw [belowL_iff] at *
 intro v hv
 simp only [setPart, List.mem_append] at hv
 rcases hv with hv | hv | hv
 ·exact h2 v (List.mem_of_mem_take hv)
 ·exact h1 v hv
 ·exact h2 v (List.mem_of_mem_drop hv)
theorem cellsOf_lt {n : Nat} {v : SV} (h : svLt n v = true) : belowL n v.cellsOf = true := by
 cases v <;> simp_all [SV.cellsOf, belowL, svLt]
section
variable {P : Program} {ν : Nat → Value} {w : World}
theorem cell_of_block {b : Nat} {cs : List Value} {T : TypeId} {f : Nat × Nat} (h : w.heap[b]? = some (.cells cs.toArray T f)) (i : Nat) : w.cell? ⟨b, i, none⟩ = cs[i]? := by
 simp [World.cell?, h]
theorem run_loadVar {b off : Nat} {vs : List SV} {T t : TypeId} {k : TK} {v : SV} (ht : TyOk P t k) (h : w.heap[b]? = some (.cells (denL ν vs).toArray T (0, 0))) (hv : partOf k.isAgg off k.size vs = some v) :
  (loadVar t ⟨b, off, none⟩).run P w = .ok (den ν v) w := by
 obtain ⟨d, hd, hk, -⟩ := ht.desc
 obtain ⟨i, hi, hs, _⟩ := ht.info
 have ha := aggD_of hk
 simp only [loadVar, Sem.run_bind, run_isAgg' hd, Result.andThen_ok, ha]
 unfold partOf at hv
 cases hg : k.isAgg with
 | true =>
  rw [hg] at hv
  simp only at hv
  by_cases hle : Nat.ble (off + k.size) vs.length = true
  ·rw [hle] at hv
   simp only [cond_true, Option.some.injEq] at hv
   have hle := Nat.le_of_ble_eq_true hle
   subst hv
   have hl : (denL ν ((vs.drop off).take k.size)).length = k.size := by simp [denL_length]; omega
   have hc := run_loadCells_list (P := P) w ⟨b, off, none⟩ (denL ν ((vs.drop off).take k.size)) (fun j x hx => by
    rw [add_plain, cell_of_block h]
    rw [denL_eq, List.getElem?_map, List.getElem?_take] at hx
    rw [denL_eq, List.getElem?_map]
    split at hx
    ·rw [List.getElem?_drop] at hx; exact hx
    ·cases hx)
   rw [hl] at hc
   simp [run_sizeOf' hi, hs, hc, den]
  ·rw [Bool.not_eq_true] at hle
   rw [hle] at hv
   cases hv
 | false =>
  rw [hg] at hv
  simp only at hv
  have : w.cell? ⟨b, off, none⟩ = some (den ν v) := by
   rw [cell_of_block h, denL_eq, List.getElem?_map, hv]; rfl
  simp [this]
theorem run_storeVar {b off : Nat} {vs : List SV} {T t : TypeId} {k : TK} {v : SV} (ht : TyOk P t k) (h : w.heap[b]? = some (.cells (denL ν vs).toArray T (0, 0)))
  (h1 : v.cellsOf.length = k.size) (h2 : off + k.size ≤ vs.length) (h3 : v.cellsOf.all isLeaf = true) :
  (storeVar t ⟨b, off, none⟩ (den ν v)).run P w = .ok () (w.setRow b (denL ν (setPart off v.cellsOf vs)).toArray) := by
 obtain ⟨i, hi, hs, _⟩ := ht.info
 have hsz : (den ν v).cells.size = k.size := by rw [cellsOf_den]; simp [denL_length, h1]
 have hl : (denL ν v.cellsOf).length = k.size := by rw [denL_length, h1]
 simp only [storeVar, Sem.run_bind, run_sizeOf' hi, Result.andThen_ok, hs, hsz, ne_eq, not_true_eq_false, if_false]
 have := run_storeCells_at (P := P) b off T (denL ν v.cellsOf) 0 (denL ν vs).toArray w h (by simp [denL_length]; omega) (leafL_one ν h3)
 rw [cellsOf_den]
 simp only [Nat.add_zero] at this
 rw [show (denL ν v.cellsOf).toArray.toList = denL ν v.cellsOf from rfl, this]
 congr 3
 rw [setPart_den]
end
theorem belowL_take_drop {n : Nat} {cs : List SV} (h : belowL n cs = true) (a b : Nat) : belowL n ((cs.drop a).take b) = true := by
 rw [belowL_iff] at *
 intro v hv
 exact h v (List.mem_of_mem_drop (List.mem_of_mem_take hv))
theorem partOf_lt {n : Nat} {g : Bool} {o s : Nat} {cs : List SV} {v : SV} (h : belowL n cs = true) (hv : partOf g o s cs = some v) : svLt n v = true := by
 unfold partOf at hv
 split at hv
 ·by_cases hle : Nat.ble (o + s) cs.length = true
  ·rw [hle] at hv; cases hv; simp only [svLt]; exact belowL_take_drop h o s
  ·rw [Bool.not_eq_true] at hle; rw [hle] at hv; cases hv
 ·rw [belowL_iff] at h
  exact h v (List.mem_of_getElem? hv)
theorem fieldsChk_at {P : Program} : ∀ {fs : List (Nat × Nat × Bool)} {fields : List Field}, fieldsChk P fs fields = true → ∀ {i o n : Nat} {g : Bool}, fs[i]? = some (o, n, g) →
  ∃ f, fields[i]? = some f ∧ f.offset = o ∧ (∃ x, P.info? f.type = some x ∧ x.size = n) ∧ ∃ d, P.underlying f.type = some d ∧ aggD d = g
 | [], fields, _, i, o, n, g, hi => by simp at hi
 | (o', n', g') :: xs, [], h, i, o, n, g, hi => by simp [fieldsChk] at h
 | (o', n', g') :: xs, f :: fs, h, i, o, n, g, hi => by
  simp only [fieldsChk, Bool.and_eq_true] at h
  obtain ⟨⟨h1, h2⟩, h3⟩ := h
  cases i with
  | zero =>
   simp only [List.getElem?_cons_zero, Option.some.injEq, Prod.mk.injEq] at hi
   obtain ⟨rfl, rfl, rfl⟩ := hi
   split at h2
   ·rename_i x d hx hd
    simp only [Bool.and_eq_true, beq_iff_eq] at h2
    exact ⟨f, rfl, Nat.eq_of_beq_eq_true h1, ⟨x, hx, Nat.eq_of_beq_eq_true h2.1⟩, d, hd, h2.2⟩
   ·cases h2
  | succ i =>
   simp only [List.getElem?_cons_succ] at hi ⊢
   exact fieldsChk_at h3 hi
theorem bt_run {s : ByteArray} {i : Int} (h0 : 0 ≤ i) (h1 : i < (s.size : Int)) : (if 0 ≤ i then s[i.toNat]? else none) = some (s.data.toList.getD i.toNat 0) := by
 rw [if_pos h0]
 have hl : i.toNat < s.size := by omega
 have hs : s.data.toList.length = s.size := by simp
 rw [getElem?_pos s i.toNat hl, List.getD_eq_getElem?_getD, List.getElem?_eq_getElem (by omega)]
 rfl
theorem args1 {α : Type} {xs : Array α} {x : α} (h : xs.toList = [x]) : xs = #[x] := by cases xs; simp_all
theorem minInt (a b : Int) : (if b < a then b else a) = min a b := by omega
theorem maxInt (a b : Int) : (if b > a then b else a) = max a b := by omega
theorem hdr_slice {v : Value} {n : Nat} (h : RowVal v n) : ∃ a c, hdr v = .slice a n c := by
 rcases h with ⟨rfl, rfl⟩ | ⟨a, c, rfl, _⟩
 ·exact ⟨_, _, rfl⟩
 ·exact ⟨_, _, rfl⟩
theorem evBuiltin_run {P : Program} {tab : Tab} (hT : tabChk P tab = true) {T : Type} {ν : Nat → Value} {H : Heap} (hF : RowFacts ν H) {nx : Nat} {K : SV → O T}
  {b : Builtin} {ts : Array TypeId} {args : List SV} {res : O T} (h : evBuiltin tab H b ts.toList args K = res) (hne : res ≠ .no) (ha : belowL nx args = true) (ty : TypeId) (cs : Array Bool) :
  ∃ v, K v = res ∧ svLt nx v = true ∧ ∀ w, (builtin b ts ty cs (denL ν args).toArray).run P w = .ok (.value (den ν v)) w := by
 unfold evBuiltin at h
 split at h
 ·rename_i t v ht
  have lenS : ∀ e, lkp t tab = some (.slice e) → ∀ a n c, den ν v = .slice a n c → ∀ w, (builtin .len ts ty cs (denL ν [v]).toArray).run P w = .ok (.value (.int .i64 (n : Int))) w := by
   intro e htab a n c hv w
   obtain ⟨d, hd, hk, -⟩ := (tyOk hT htab).desc
   cases d <;> simp [descChk] at hk
   simp [builtin, Builtin.len_, args1 ht, denL, hv, run_underlying' hd, goInt]
  split at h
  ·rename_i s htab
   obtain ⟨d, hd, hk, -⟩ := (tyOk hT htab).desc
   cases d <;> simp [descChk] at hk
   refine ⟨_, h, by simp [svLt], fun w => ?_⟩
   simp [builtin, Builtin.len_, args1 ht, denL, den, run_underlying' hd, goInt]
  ·rename_i e htab
   exact ⟨_, h, by simp [svLt], fun w => by simpa [den] using lenS e htab _ _ _ rfl w⟩
  ·rename_i e j m htab
   exact ⟨_, h, by simp [svLt], fun w => by simpa [den] using lenS e htab _ m _ rfl w⟩
  ·rename_i e j htab
   split at h
   ·rename_i own t' ls xs hj
    obtain ⟨a, c, hh⟩ := hdr_slice (hF.1 j own t' ls xs hj).2
    exact ⟨_, h, by simp [svLt], fun w => by simpa [den] using lenS e htab a xs.length c hh w⟩
   ·rename_i own' t' γ' p' f xs hj
    have hh : ∃ a c, den ν (.osl j) = .slice a xs.length c := by
     rcases hF.2.1 j own' t' γ' p' f xs hj with ⟨e1, e2⟩ | ⟨a, c, e1, _⟩
     ·exact ⟨none, 0, by simp only [den, e1, hdr, e2]⟩
     ·exact ⟨some a, c, by simp only [den, e1, hdr]⟩
    obtain ⟨a, c, hh⟩ := hh
    exact ⟨_, h, by simp [svLt], fun w => by simpa [den] using lenS e htab a xs.length c hh w⟩
   ·rename_i t' γ' p' f xs i' vs' hj
    have hh : ∃ a c, den ν (.osl j) = .slice a xs.length c := by
     rcases hF.2.2 j t' γ' p' f xs i' vs' hj with ⟨e1, e2⟩ | ⟨a, c, e1, _⟩
     ·exact ⟨none, 0, by simp only [den, e1, hdr, e2]⟩
     ·exact ⟨some a, c, by simp only [den, e1, hdr]⟩
    obtain ⟨a, c, hh⟩ := hh
    exact ⟨_, h, by simp [svLt], fun w => by simpa [den] using lenS e htab a xs.length c hh w⟩
   ·exact absurd h.symm hne
  ·rename_i e j sz ch n htab
   split at h
   ·rename_i s hs
    obtain ⟨hok, h⟩ := O.chk_ne h hne
    have ha' : svLt nx (.sl j sz ch n) = true := by simpa [belowL] using ha
    obtain ⟨hS, -⟩ := slOf_ok (nx := nx) hF hs
    obtain ⟨_, hn, _⟩ := Sl.ok_spec hok
    refine ⟨_, h, by simp [svLt], fun w => ?_⟩
    rcases hS.shape hok with ⟨e1, _, e3, _⟩ | ⟨a, cap, _, e2, _⟩
    ·have := lenS e htab _ _ _ e1 w
     simpa [den, e3] using this
    ·have := lenS e htab _ _ _ e2 w
     rw [this]
     simp only [den]
     congr 3
     omega
   ·exact absurd h.symm hne
  ·exact absurd h.symm hne
 ·rename_i k a k' b
  by_cases hk : k = k'
  ·subst hk
   simp only [decide_true, ifb] at h
   refine ⟨_, h, by simp [svLt], fun w => ?_⟩
   simp [builtin, Builtin.min_, Builtin.min2, denL, den, minInt]
  ·simp only [hk, decide_false, ifb] at h; exact absurd h.symm hne
 ·rename_i k a k' b
  by_cases hk : k = k'
  ·subst hk
   simp only [decide_true, ifb] at h
   refine ⟨_, h, by simp [svLt], fun w => ?_⟩
   simp [builtin, Builtin.max_, Builtin.max2, denL, den, maxInt]
  ·simp only [hk, decide_false, ifb] at h; exact absurd h.symm hne
 ·rename_i k a k' b k'' c
  by_cases hk : k = k'
  ·subst hk
   by_cases hk : k = k''
   ·subst hk
    simp only [decide_true, Bool.and_self, ifb] at h
    refine ⟨_, h, by simp [svLt], fun w => ?_⟩
    simp [builtin, Builtin.min_, Builtin.min2, denL, den, minInt]
   ·simp only [hk, decide_false, Bool.and_false, ifb] at h; exact absurd h.symm hne
  ·simp only [hk, decide_false, Bool.false_and, ifb] at h; exact absurd h.symm hne
 ·exact absurd h.symm hne
theorem run_places {P : Program} {w : World} : ∀ {fs : List (Nat × Nat × Bool)} {fields : List Field}, fieldsChk P fs fields = true → (fields.mapM (fun (f : Field) => (do pure (f.offset, ← sizeOf f.type) : Sem (Nat × Nat)))).run P w = .ok (fs.map fun f => (f.1, f.2.1)) w
 | [], [], _ => by simp
 | [], _ :: _, h => by simp [fieldsChk] at h
 | _ :: _, [], h => by simp [fieldsChk] at h
 | (o, n, g) :: xs, f :: fs, h => by
  simp only [fieldsChk, Bool.and_eq_true] at h
  obtain ⟨⟨h1, h2⟩, h3⟩ := h
  have h1 := Nat.eq_of_beq_eq_true h1
  split at h2
  ·rename_i i d hi hd
   simp only [Bool.and_eq_true] at h2
   have h4 := Nat.eq_of_beq_eq_true h2.1
   simp only [List.mapM_cons, Sem.run_bind, run_sizeOf' hi, Result.andThen_ok, Sem.run_pure, run_places h3, List.map_cons, h1, h4]
  ·cases h2
theorem zip_set (off : Nat) : ∀ (vs : List Value) (k : Nat) (cells : Array Value), off + k + vs.length ≤ cells.size →
  ((vs.zipIdx k).foldl (fun cs (c, j) => cs.setIfInBounds (off + j) c) cells).toList = cells.toList.take (off + k) ++ vs ++ cells.toList.drop (off + k + vs.length)
 | [], k, cells, _ => by simp
 | v :: vs, k, cells, h => by
  simp only [List.zipIdx_cons, List.foldl_cons]
  rw [zip_set off vs (k + 1) _ (by simp at h ⊢; omega)]
  have e := list_seg_step cells.toList (off + k) v vs (by simp at h ⊢; omega)
  simpa [Array.toList_setIfInBounds, Nat.add_assoc] using e
theorem fill_den (ν : Nat → Value) (place : Nat → Option (Nat × Nat)) (fs : List (Nat × Nat × Bool)) (hp : ∀ i, place i = (fs[i]?).map fun f => (f.1, f.2.1)) : ∀ (ps : List (Nat × SV)) (z cs : List SV), fillS fs ps z = some cs →
  Instr.fill place (denL ν z).toArray (ps.map fun p => (p.1, den ν p.2)) = some (denL ν cs).toArray
 | [], z, cs, h => by cases h; rfl
 | (i, v) :: ps, z, cs, h => by
  simp only [fillS] at h
  split at h
  ·rename_i o n g hf
   by_cases hc : (Nat.beq v.cellsOf.length n && Nat.ble (o + n) z.length) = true
   ·rw [hc, cond_true] at h
    simp only [Bool.and_eq_true] at hc
    have h1 := Nat.eq_of_beq_eq_true hc.1
    have h2 := Nat.le_of_ble_eq_true hc.2
    have hs : (den ν v).cells.size = n := by rw [cellsOf_den]; simp [denL_length, h1]
    have hz : (denL ν z).toArray.size = z.length := by simp [denL_length]
    simp only [List.map_cons, Instr.fill, hp, hf, Option.map_some]
    rw [if_neg (by simp only [hs, hz, ne_eq, not_true_eq_false, decide_false, Bool.false_or, decide_eq_true_eq]; omega)]
    have hset : ((den ν v).cells.zipIdx.foldl (fun cs (c, j) => cs.setIfInBounds (o + j) c) (denL ν z).toArray) = (denL ν (setPart o v.cellsOf z)).toArray := by
     apply Array.ext'
     rw [← Array.foldl_toList, Array.toList_zipIdx, cellsOf_den]
     have := zip_set o (denL ν v.cellsOf) 0 (denL ν z).toArray (by rw [hz, denL_length]; omega)
     simp only [Nat.add_zero] at this
     rw [this, setPart_den]
    rw [hset]
    exact fill_den ν place fs hp ps _ cs h
   ·rw [Bool.not_eq_true] at hc; rw [hc] at h; cases h
  ·cases h
theorem fillS_lt {n : Nat} {fs : List (Nat × Nat × Bool)} : ∀ {ps : List (Nat × SV)} {z cs : List SV}, fillS fs ps z = some cs → (∀ p ∈ ps, svLt n p.2 = true) → belowL n z = true → belowL n cs = true
 | [], z, cs, h, _, hz => by cases h; exact hz
 | (i, v) :: ps, z, cs, h, hp, hz => by
  simp only [fillS] at h
  split at h
  ·rename_i o m g hf
   by_cases hc : (Nat.beq v.cellsOf.length m && Nat.ble (o + m) z.length) = true
   ·rw [hc, cond_true] at h
    exact fillS_lt h (fun p hp' => hp p (List.mem_cons_of_mem _ hp')) (setPart_lt (cellsOf_lt (hp (i, v) (List.mem_cons_self ..))) hz)
   ·rw [Bool.not_eq_true] at hc; rw [hc] at h; cases h
  ·cases h
theorem bound_run {P : Program} (w : World) (k : IntKind) (i : Int) (y : Nat) (c : BoundsCode) (h0 : 0 ≤ i) (h1 : i ≤ y) : (Instr.sliceBound (.int k i) y c).run P w = .ok i.toNat w := by
 simp [Instr.sliceBound, asIntOf, h0, h1]
theorem nil_or {T : Type} {K : Bool → O T} {res : O T} {p : Bool} {v : Value} {a : Option Addr} {n c : Nat} (h : O.cond p (K false) (O.same (K true) (K false)) = res) (hne : res ≠ .no) (hv : v = .slice a n c) (hp : p = true → a ≠ none) :
  ∃ b, K b = res ∧ ∃ a n c, v = .slice a n c ∧ b = a.isNone := by
 rw [O.cond_eq] at h
 cases p with
 | true =>
  refine ⟨false, h, a, n, c, hv, ?_⟩
  cases a with
  | some a => rfl
  | none => exact (hp rfl rfl).elim
 | false =>
  obtain ⟨h1, h2⟩ := O.same_ne h hne
  cases hq : a.isNone with
  | true => exact ⟨true, h1, a, n, c, hv, hq.symm⟩
  | false => exact ⟨false, h2, a, n, c, hv, hq.symm⟩
theorem nilTest_run {T : Type} {ν : Nat → Value} {H : Heap} (hF : RowFacts ν H) {x : SV} {K : Bool → O T} {res : O T} (h : nilTest H x K = res) (hne : res ≠ .no) : ∃ b, K b = res ∧ ∃ a n c, den ν x = .slice a n c ∧ b = a.isNone := by
 unfold nilTest at h
 split at h
 ·exact ⟨true, h, none, 0, 0, by simp [den], rfl⟩
 ·exact ⟨false, h, _, _, _, by simp only [den]; rfl, rfl⟩
 ·rename_i j
  split at h
  ·rename_i own t ls xs hj
   rcases (hF.1 j own t ls xs hj).2 with ⟨e, hn⟩ | ⟨a, cap, e, _⟩
   ·exact nil_or h hne (a := none) (n := 0) (c := 0) (by simp only [den]; rw [e]; rfl) (fun hp => by have := of_decide_eq_true hp; omega)
   ·exact nil_or h hne (a := some a) (by simp only [den]; rw [e]; rfl) (fun _ => by simp)
  ·exact absurd h.symm hne
 ·split at h
  ·rename_i s hs
   obtain ⟨hok, h⟩ := O.chk_ne h hne
   obtain ⟨hS, _⟩ := slOf_ok (nx := 0) hF hs
   obtain ⟨h1, h2, h3⟩ := Sl.ok_spec hok
   have h4 := sumI_nonneg h1
   rcases hS.shape hok with ⟨e1, _, e3, e4⟩ | ⟨a, cap, e1, e2, _⟩
   ·exact nil_or h hne e1 (fun hp => by have := of_decide_eq_true hp; omega)
   ·exact nil_or h hne e2 (fun _ => by simp)
  ·exact absurd h.symm hne
theorem evSlNil_run {P : Program} {tab : Tab} (hT : tabChk P tab = true) {T : Type} {ν : Nat → Value} {H : Heap} (hF : RowFacts ν H) {t : TypeId} {e : TypeId} (hl : lkp t tab = some (.slice e)) {op : BinOp} {x : SV} {K : SV → O T} {res : O T} (xo yo : Operand) (h : evSlNil op H x K = res) (hne : res ≠ .no) :
  ∃ v, K v = res ∧ svLt 0 v = true ∧ ∀ w, (do eqGuard op t xo yo (den ν x) (.slice none 0 0); Go.binOp op t (den ν x) (.slice none 0 0)).run P w = .ok (den ν v) w := by
 obtain ⟨d, hd, hk, _⟩ := (tyOk hT hl).desc
 cases d <;> simp [descChk] at hk
 have key : ∀ (a : Option Addr) (n c : Nat) (w : World), (Op.equal t (.slice a n c) (.slice none 0 0)).run P w = .ok a.isNone w := by
  intro a n c w
  show (Op.equalIn (9999 + 1) t (.slice a n c) (.slice none 0 0)).run P w = _
  generalize 9999 = m
  cases a <;> simp only [Op.equalIn, Sem.run_bind, run_underlying' hd, Result.andThen_ok, Sem.run_pure] <;> rfl
 unfold evSlNil at h
 split at h
 ·obtain ⟨b, hb, a, n, c, hv, rfl⟩ := nilTest_run hF h hne
  refine ⟨_, hb, rfl, fun w => ?_⟩
  have hg : (eqGuard .eql t xo yo (.slice a n c) (.slice none 0 0)).run P w = .ok () w := by unfold eqGuard; rfl
  rw [hv]
  simp only [Sem.run_bind, hg, Result.andThen_ok, Go.binOp, key, Sem.run_pure, den]
 ·obtain ⟨b, hb, a, n, c, hv, rfl⟩ := nilTest_run hF h hne
  refine ⟨_, hb, rfl, fun w => ?_⟩
  have hg : (eqGuard .neq t xo yo (.slice a n c) (.slice none 0 0)).run P w = .ok () w := by unfold eqGuard; rfl
  rw [hv]
  simp only [Sem.run_bind, hg, Result.andThen_ok, Go.binOp, key, Sem.run_pure, den]
 ·exact absurd h.symm hne
set_option maxHeartbeats 1000000 in
theorem evQ_run {P : Program} {tab : Tab} (hT : tabChk P tab = true) {T : Type} {ν : Nat → Value} {n nx : Nat} {fr : Fr} {H : Heap} (hF : RowFacts ν H) {K : SV → O T}
  {a : Act} (hE : EnvOk ν n nx fr a) (o : Oper) {res : O T} (h : evQ tab H o.op fr.env K = res) (hne : res ≠ .no) :
  ∃ v, K v = res ∧ svLt nx v = true ∧ ∀ w, (execOp a.eval o).run P w = .ok (.value (den ν v)) w := by
 have z : ∀ v, svLt 0 v = true → svLt nx v = true := fun v hv => svLt_mono (Nat.zero_le _) v hv
 unfold evQ at h
 split at h
 case h_1 x ho =>
  split at h
  ·rename_i v hv
   have hd := ofOpd_den hE hv
   exact ⟨v, h, hd.2, fun w => (by simp only [execOp, ho]; rw [Sem.run_pure, hd.1])⟩
  ·exact absurd h.symm hne
 case h_2 x ho =>
  split at h
  ·rename_i v hv
   have hd := ofOpd_den hE hv
   exact ⟨v, h, hd.2, fun w => (by simp only [execOp, ho]; rw [Sem.run_pure, hd.1])⟩
  ·exact absurd h.symm hne
 case h_3 c x y ho =>
  split at h
  ·rename_i vc vx vy hc hx hy
   have dc := ofOpd_den hE hc
   have dx := ofOpd_den hE hx
   have dy := ofOpd_den hE hy
   unfold evPick at h
   split at h
   ·exact ⟨_, h, dx.2, fun w => (by simp [execOp, ho, dc.1, dx.1, dy.1, den, asBool])⟩
   ·exact ⟨_, h, dy.2, fun w => (by simp [execOp, ho, dc.1, dx.1, dy.1, den, asBool])⟩
   ·exact absurd h.symm hne
  ·exact absurd h.symm hne
 case h_4 x ho =>   -- nilCheck
  split at h
  ·rename_i j off hx
   have hd := ofOpd_den hE hx
   exact ⟨_, h, hd.2, fun w => (by simp [execOp, ho, hd.1, den])⟩
  ·rename_i j sz i off hx
   have hd := ofOpd_den hE hx
   exact ⟨_, h, hd.2, fun w => (by simp [execOp, ho, hd.1, den])⟩
  ·rename_i f cs hx
   have hd := ofOpd_den hE hx
   exact ⟨_, h, hd.2, fun w => (by simp [execOp, ho, hd.1, den])⟩
  ·exact absurd h.symm hne
 case h_5 op t x y t' ho =>   -- binOp
  split at h
  ·rename_i vx vy hx hy
   have dx := ofOpd_den hE hx
   have dy := ofOpd_den hE hy
   by_cases hs : isSlNil (lkp t tab) (isConst y) vy = true
   ·rw [hs, ifb_true] at h
    unfold isSlNil at hs
    split at hs
    ·rename_i tk e hl
     obtain ⟨v, hk, hv, hrun⟩ := evSlNil_run (P := P) hT hF hl x y h hne
     refine ⟨v, hk, (z v hv), fun w => ?_⟩
     have hdy : a.eval y = .slice none 0 0 := by rw [dy.1]; simp [den]
     simp only [execOp, ho, dx.1, hdy, hrun, Sem.run_bind, Sem.run_pure, Result.andThen_ok] at hrun ⊢
    ·cases hs
   ·rw [Bool.not_eq_true] at hs
    rw [hs, ifb_false] at h
    obtain ⟨v, hk, hv, hrun⟩ := evBin_run (P := P) hT ν t x y h hne
    refine ⟨v, hk, (z v hv), fun w => ?_⟩
    simp only [execOp, ho, dx.1, dy.1, hrun, Sem.run_bind, Sem.run_pure, Result.andThen_ok] at hrun ⊢
  ·exact absurd h.symm hne
 case h_6 op t x ho =>   -- unOp
  split at h
  ·rename_i vx hx
   have dx := ofOpd_den hE hx
   unfold evUn at h
   split at h
   ·exact ⟨_, h, (by simp [svLt]), fun w => (by simp [execOp, ho, dx.1, den, Op.unary])⟩
   ·exact ⟨_, h, (by simp [svLt]), fun w => (by simp [execOp, ho, dx.1, den, Op.unary, Op.intArith])⟩
   ·exact absurd h.symm hne
  ·exact absurd h.symm hne
 case h_7 s d x ho =>   -- convert
  split at h
  ·rename_i ks kd vx hs hd hx
   have dx := ofOpd_den hE hx
   have ts := tyOk hT hs
   have td := tyOk hT hd
   obtain ⟨ds, hds, hks, -⟩ := ts.desc
   obtain ⟨dd, hdd, hkd, -⟩ := td.desc
   unfold evConv at h
   split at h
   ·rename_i k k' m
    cases dd <;> simp [descChk] at hkd
    subst hkd
    refine ⟨_, h, (by simp [svLt]), fun w => ?_⟩
    simp only [execOp, ho, convert, Sem.run_bind, run_underlying' hds, run_underlying' hdd, Result.andThen_ok, dx.1, den]
    rfl
   ·rename_i s'
    cases dd <;> simp [descChk] at hkd
    cases ds <;> simp [descChk] at hks
    refine ⟨_, h, (by simp [svLt]), fun w => ?_⟩
    simp only [execOp, ho, convert, Sem.run_bind, run_underlying' hds, run_underlying' hdd, Result.andThen_ok, dx.1, den]
    rfl
   ·exact absurd h.symm hne
  ·exact absurd h.symm hne
 case h_8 f first caps ho =>   -- makeFunc
  split at h
  ·rename_i vs hf hv
   have hd := ofOpds_den hE hv
   have hf : first = #[] := by cases first; simp_all
   refine ⟨_, h, (by simp only [svLt]; exact hd.2), fun w => ?_⟩
   simp only [execOp, ho, Instr.makeFunc, Sem.run_bind, Sem.run_pure, Result.andThen_ok, den, hf, ← hd.1]
   cases caps
   simp
  ·exact absurd h.symm hne
 case h_9 s x f ho =>   -- fieldAddr
  split at h
  ·rename_i fs _ _ _ j off hs hx
   split at h
   ·rename_i o' n' g' hf
    by_cases hc : Nat.ble 1 n' = true
    ·rw [hc, ifb_true] at h
     have hc := Nat.le_of_ble_eq_true hc
     have dx := ofOpd_den hE hx
     obtain ⟨d, hd, hk, -⟩ := (tyOk hT hs).desc
     cases d <;> simp [descChk] at hk
     rename_i fields
     obtain ⟨fd, hfd, ho', ⟨i, hi, hsz⟩, _⟩ := fieldsChk_at hk hf
     refine ⟨(.ptr j (off + o')), h, (by simpa [svLt] using dx.2), fun w => ?_⟩
     rw [Array.getElem?_toList] at hfd
     have hne' : i.size ≠ 0 := by omega
     simp only [execOp, ho, Instr.fieldAt, Sem.run_bind, run_underlying' hd, Result.andThen_ok, hfd, dx.1, den, Instr.sureAddr, Sem.run_pure, fieldPlace, run_sizeOf' hi, hne', if_false, ho', add_plain]
    ·rw [Bool.not_eq_true] at hc; rw [hc] at h; exact absurd h.symm hne
   ·exact absurd h.symm hne
  ·rename_i fs _ _ _ j sz' i' off hs hx
   split at h
   ·rename_i o' n' g' hf
    by_cases hc : Nat.ble 1 n' = true
    ·rw [hc, ifb_true] at h
     have hc := Nat.le_of_ble_eq_true hc
     have dx := ofOpd_den hE hx
     obtain ⟨d, hd, hk, -⟩ := (tyOk hT hs).desc
     cases d <;> simp [descChk] at hk
     rename_i fields
     obtain ⟨fd, hfd, ho', ⟨i, hi, hsz⟩, _⟩ := fieldsChk_at hk hf
     refine ⟨(.ept j sz' i' (off + o')), h, (by simpa [svLt] using dx.2), fun w => ?_⟩
     rw [Array.getElem?_toList] at hfd
     have hne' : i.size ≠ 0 := by omega
     simp only [execOp, ho, Instr.fieldAt, Sem.run_bind, run_underlying' hd, Result.andThen_ok, hfd, dx.1, den, Instr.sureAddr, Sem.run_pure, fieldPlace, run_sizeOf' hi, hne', if_false, ho', add_plain, Nat.add_assoc]
    ·rw [Bool.not_eq_true] at hc; rw [hc] at h; exact absurd h.symm hne
   ·exact absurd h.symm hne
  ·exact absurd h.symm hne
 case h_10 s x f ho =>   -- field
  split at h
  ·rename_i fs _ _ _ cs hs hx
   split at h
   ·rename_i o' n' g' hf
    split at h
    ·rename_i v hv
     have dx := ofOpd_den hE hx
     obtain ⟨d, hd, hk, -⟩ := (tyOk hT hs).desc
     cases d <;> simp [descChk] at hk
     rename_i fields
     obtain ⟨fd, hfd, ho', ⟨i, hi, hsz⟩, dd, hdd, hgg⟩ := fieldsChk_at hk hf
     have hlt : belowL nx cs = true := by have := dx.2; simpa only [svLt] using this
     refine ⟨v, h, (partOf_lt hlt hv), fun w => ?_⟩
     rw [Array.getElem?_toList] at hfd
     simp only [execOp, ho, Instr.field, Sem.run_bind, run_underlying' hd, Result.andThen_ok, hfd, dx.1, den, asAgg, Sem.run_pure, part, run_isAgg' hdd, hgg, ho']
     unfold partOf at hv
     split at hv
     ·by_cases hc : Nat.ble (o' + n') cs.length = true
      ·rw [hc] at hv
       cases hv
       simp [run_sizeOf' hi, hsz, den, denL_eq, List.map_take, List.map_drop, List.extract_eq_take_drop]
      ·rw [Bool.not_eq_true] at hc; rw [hc] at hv; cases hv
     ·simp [denL_eq, hv]
    ·exact absurd h.symm hne
   ·exact absurd h.symm hne
  ·exact absurd h.symm hne
 case h_11 t parts ho =>   -- build
  split at h
  ·rename_i fs sz z eq ps ht hps
   split at h
   ·rename_i cs hcs
    have dp := ofParts_den hE hps
    have tk := tyOk hT ht
    obtain ⟨d, hd, hk, -⟩ := tk.desc
    cases d <;> simp [descChk] at hk
    rename_i fields
    obtain ⟨i, hi, hs, _, y, hy, hz⟩ := tk.info
    have hzl : belowL 0 z = true := by have := tk.zlt; simpa [TK.zero, svLt] using this
    refine ⟨_, h, (by simp only [svLt]; exact fillS_lt hcs dp.2 (belowL_mono (Nat.zero_le _) _ hzl)), fun w => ?_⟩
    have hzc : y.cells = (denL ν z).toArray := by rw [← hz ν, cellsOf_den]; rfl
    have hpl : (fields.mapM (fun (f : Field) => (do pure (f.offset, ← sizeOf f.type) : Sem (Nat × Nat)))).run P w = .ok (fs.map fun f => (f.1, f.2.1)).toArray w := by
     rw [← Array.toArray_toList (xs := fields), List.mapM_toArray]
     simp only [Sem.run_map, run_places hk, Result.andThen_ok, Sem.run_pure]
    have hfill := fill_den ν (fun i => ((fs.map fun f => (f.1, f.2.1)).toArray)[i]?) fs (fun i => by simp) ps z cs hcs
    rw [← dp.1] at hfill
    simp only [execOp, ho, Instr.build, Sem.run_bind, run_zeroValue' hi hy, run_underlying' hd, Result.andThen_ok, hpl, hzc, Array.toList_map, hfill, Sem.run_pure, den]
   ·exact absurd h.symm hne
  ·exact absurd h.symm hne
 case h_12 x i ho =>   -- extract
  split at h
  ·rename_i vs hx
   split at h
   ·rename_i v hv
    have dx := ofOpd_den hE hx
    have hlt : belowL nx vs = true := by have := dx.2; simpa only [svLt] using this
    refine ⟨v, h, (belowL_iff.1 hlt v (List.mem_of_getElem? hv)), fun w => ?_⟩
    simp [execOp, ho, Instr.extract, dx.1, den, denL_eq, hv]
   ·exact absurd h.symm hne
  ·exact absurd h.symm hne
 case h_13 t x i ho =>   -- index
  split at h
  ·rename_i s k' i' ht hx hi
   obtain ⟨hb, h⟩ := O.chk_ne h hne
   simp only [decide_eq_true_eq] at hb
   have dx := ofOpd_den hE hx
   have di := ofOpd_den hE hi
   obtain ⟨d, hd, hk, -⟩ := (tyOk hT ht).desc
   cases d <;> simp [descChk] at hk
   refine ⟨_, h, (by simp [svLt]), fun w => ?_⟩
   simp only [execOp, ho, Instr.index, Sem.run_bind, dx.1, di.1, den, asIntOf, Sem.run_pure, Result.andThen_ok, run_underlying' hd, bt_run hb.1 hb.2, bt]
  ·exact absurd h.symm hne
 case h_14 t x ix ho =>   -- indexAddr
  split at h
  ·rename_i e j m k0 i' ht hx hi
   split at h
   ·rename_i p k hk
    by_cases hc : (Nat.beq k.size 1 && Nat.blt p m) = true
    ·rw [hc, ifb_true] at h
     simp only [Bool.and_eq_true] at hc
     have hsz := Nat.eq_of_beq_eq_true hc.1
     have hlt : p < m := Nat.le_of_ble_eq_true hc.2
     have dx := ofOpd_den hE hx
     have di := ofOpd_den hE hi
     obtain ⟨d, hd, hdk, -⟩ := (tyOk hT ht).desc
     cases d <;> simp [descChk] at hdk
     subst hdk
     obtain ⟨ei, hei, hes, _⟩ := (tyOk hT hk).info
     have hlt' : (p : Int) < (m : Int) := by omega
     refine ⟨_, h, (by simpa [svLt] using dx.2), fun w => ?_⟩
     simp only [execOp, ho, Instr.indexAt, Sem.run_bind, di.1, dx.1, den, asIntOf, Sem.run_pure, Result.andThen_ok, run_underlying' hd, add_plain]
     rw [if_pos (by simp; omega)]
     simp [run_sizeOf' hei, hes, hsz, add_plain]
    ·rw [Bool.not_eq_true] at hc; rw [hc] at h; exact absurd h.symm hne
   ·exact absurd h.symm hne
  ·rename_i e v k0 i' _ ht hx hi
   split at h
   ·rename_i s k hs hk
    by_cases hc : (Nat.beq k.size s.ls.length && Nat.ble 1 s.ls.length) = true
    ·rw [hc, ifb_true] at h
     simp only [Bool.and_eq_true] at hc
     have hsz := Nat.eq_of_beq_eq_true hc.1
     have dx := ofOpd_den hE hx
     have di := ofOpd_den hE hi
     obtain ⟨hS, hjl⟩ := slOf_ok (nx := nx) hF hs
     have hjl := hjl dx.2
     obtain ⟨d, hd, hdk, -⟩ := (tyOk hT ht).desc
     cases d <;> simp [descChk] at hdk
     subst hdk
     obtain ⟨ei, hei, hes, _⟩ := (tyOk hT hk).info
     have key : s.ok = true → 0 ≤ i' → i' < s.n → ∀ w, (execOp a.eval o).run P w = .ok (.value (den ν (.ept s.j s.ls.length (sumI s.ch + i') 0))) w := by
      intro hok h0 h1 w
      obtain ⟨p1, p2, p3⟩ := Sl.ok_spec hok
      have p4 := sumI_nonneg p1
      rcases hS.shape hok with ⟨_, _, e3, _⟩ | ⟨ad, cap, e1, e2, _, _, e5⟩
      ·omega
      ·obtain ⟨e6, e7⟩ := e5 (by omega)
       have hlt : i' < (s.n.toNat : Int) := by omega
       simp only [execOp, ho, Instr.indexAt, Sem.run_bind, di.1, dx.1, den, asIntOf, Sem.run_pure, Result.andThen_ok, run_underlying' hd, e2, h0, hlt, and_self, if_true, run_sizeOf' hei, hes, hsz, e7, add_plain, e1, blk, offs]
       congr 4
       rw [show (sumI s.ch + i').toNat = (sumI s.ch).toNat + i'.toNat by omega, Nat.add_mul]
       simp only [Addr.mk.injEq, and_true, true_and]
       omega
     split at h
     ·rename_i hch
      obtain ⟨hb, h⟩ := O.chk_ne h hne
      simp only [decide_eq_true_eq] at hb
      have hok : s.ok = true := by unfold Sl.ok; rw [hch]; simp only [decide_eq_true_eq]; omega
      refine ⟨_, h, (by simpa [svLt] using hjl), fun w => ?_⟩
      have := key hok hb.1 hb.2.1 w
      rw [hch] at this
      simpa [sumI] using this
     ·rename_i hch
      obtain ⟨hb, h⟩ := O.chk_ne h hne
      simp only [Bool.and_eq_true, decide_eq_true_eq] at hb
      exact ⟨_, h, (by simpa [svLt] using hjl), fun w => key hb.1 hb.2.1 hb.2.2 w⟩
    ·rw [Bool.not_eq_true] at hc; rw [hc] at h; exact absurd h.symm hne
   ·rename_i k hs hk
    split at h
    ·rename_i j _
     split at h
     ·rename_i own' t' γ' p' f xs hj
      by_cases hc : (Nat.beq k.size f.sz && Nat.ble 1 f.sz) = true
      ·rw [hc, ifb_true] at h
       simp only [Bool.and_eq_true] at hc
       have hsz := Nat.eq_of_beq_eq_true hc.1
       have dx := ofOpd_den hE hx
       have di := ofOpd_den hE hi
       obtain ⟨d, hd, hdk, -⟩ := (tyOk hT ht).desc
       cases d <;> simp [descChk] at hdk
       subst hdk
       obtain ⟨ei, hei, hes, _⟩ := (tyOk hT hk).info
       obtain ⟨hb, h⟩ := O.chk_ne h hne
       simp only [decide_eq_true_eq] at hb
       refine ⟨_, h, (by simpa [svLt] using dx.2), fun w => ?_⟩
       rcases hF.2.1 j own' t' γ' p' f xs hj with ⟨e1, e2⟩ | ⟨ad, cap, e1, -, e2⟩
       ·omega
       ·have e2 := e2 (by omega)
        have hx1 := dx.1
        simp only [den, e1, hdr] at hx1
        obtain ⟨b, o', sp⟩ := ad
        simp only at e2
        subst e2
        simp only [execOp, ho, Instr.indexAt, Sem.run_bind, di.1, hx1, den, asIntOf, Sem.run_pure, Result.andThen_ok, run_underlying' hd, hb.1, hb.2, and_self, if_true, run_sizeOf' hei, hes, hsz, add_plain, e1, blk, offs, Nat.add_zero]
      ·rw [Bool.not_eq_true] at hc; rw [hc] at h; exact absurd h.symm hne
     ·rename_i t' γ' p' f xs i'' vs' hj
      by_cases hc : (Nat.beq k.size f.sz && Nat.ble 1 f.sz) = true
      ·rw [hc, ifb_true] at h
       simp only [Bool.and_eq_true] at hc
       have hsz := Nat.eq_of_beq_eq_true hc.1
       have dx := ofOpd_den hE hx
       have di := ofOpd_den hE hi
       obtain ⟨d, hd, hdk, -⟩ := (tyOk hT ht).desc
       cases d <;> simp [descChk] at hdk
       subst hdk
       obtain ⟨ei, hei, hes, _⟩ := (tyOk hT hk).info
       obtain ⟨hb, h⟩ := O.chk_ne h hne
       simp only [decide_eq_true_eq] at hb
       refine ⟨_, h, (by simpa [svLt] using dx.2), fun w => ?_⟩
       rcases hF.2.2 j t' γ' p' f xs i'' vs' hj with ⟨e1, e2⟩ | ⟨ad, cap, e1, -, e2⟩
       ·omega
       ·have e2 := e2 (by omega)
        have hx1 := dx.1
        simp only [den, e1, hdr] at hx1
        obtain ⟨b, o', sp⟩ := ad
        simp only at e2
        subst e2
        simp only [execOp, ho, Instr.indexAt, Sem.run_bind, di.1, hx1, den, asIntOf, Sem.run_pure, Result.andThen_ok, run_underlying' hd, hb.1, hb.2, and_self, if_true, run_sizeOf' hei, hes, hsz, add_plain, e1, blk, offs, Nat.add_zero]
      ·rw [Bool.not_eq_true] at hc; rw [hc] at h; exact absurd h.symm hne
     ·exact absurd h.symm hne
    ·exact absurd h.symm hne
   ·exact absurd h.symm hne
  ·exact absurd h.symm hne
 case h_15 t x lo hi mx ho =>   -- slice
  split at h
  ·rename_i s ht hx
   have dx := ofOpd_den hE hx
   obtain ⟨d, hd, hk, -⟩ := (tyOk hT ht).desc
   cases d <;> simp [descChk] at hk
   have bound : ∀ (w : World) (k : IntKind) (i : Int) (y : Nat) (c : BoundsCode), 0 ≤ i → i ≤ y → (Instr.sliceBound (.int k i) y c).run P w = .ok i.toNat w := by
    intro w k i y c h0 h1
    simp [Instr.sliceBound, asIntOf, h0, h1]
   split at h
   ·refine ⟨_, h, (by simp [svLt]), fun w => ?_⟩
    simp [execOp, ho, Instr.sliceAt, Instr.slice, run_underlying' hd, dx.1, den, Instr.sliceBounds]
   ·rename_i l
    split at h
    ·rename_i k l' hl
     obtain ⟨hb, h⟩ := O.chk_ne h hne
     simp only [decide_eq_true_eq] at hb
     have dl := ofOpd_den hE hl
     refine ⟨_, h, (by simp [svLt]), fun w => ?_⟩
     simp [execOp, ho, Instr.sliceAt, Instr.slice, run_underlying' hd, dx.1, dl.1, den, Instr.sliceBounds, bound _ _ _ _ _ hb.1 hb.2]
    ·exact absurd h.symm hne
   ·rename_i l
    split at h
    ·rename_i k l' hl
     obtain ⟨hb, h⟩ := O.chk_ne h hne
     simp only [decide_eq_true_eq] at hb
     have dl := ofOpd_den hE hl
     refine ⟨_, h, (by simp [svLt]), fun w => ?_⟩
     simp [execOp, ho, Instr.sliceAt, Instr.slice, run_underlying' hd, dx.1, dl.1, den, Instr.sliceBounds, bound _ _ _ _ _ hb.1 hb.2]
    ·exact absurd h.symm hne
   ·rename_i l m
    split at h
    ·rename_i k l' k' m' hl hm
     obtain ⟨hb, h⟩ := O.chk_ne h hne
     simp only [decide_eq_true_eq] at hb
     have dl := ofOpd_den hE hl
     have dm := ofOpd_den hE hm
     refine ⟨_, h, (by simp [svLt]), fun w => ?_⟩
     have hm' : l' ≤ ((m'.toNat : Nat) : Int) := by omega
     simp [execOp, ho, Instr.sliceAt, Instr.slice, run_underlying' hd, dx.1, dl.1, dm.1, den, Instr.sliceBounds, bound _ _ _ _ _ (show 0 ≤ m' by omega) hb.2.2, bound _ _ _ _ _ hb.1 hm']
    ·exact absurd h.symm hne
  ·rename_i el v ht hx
   split at h
   ·rename_i s k hs hk
    by_cases hc : Nat.beq k.size s.ls.length = true
    ·rw [hc, ifb_true] at h
     have hsz := Nat.eq_of_beq_eq_true hc
     have dx := ofOpd_den hE hx
     obtain ⟨hS, hjl⟩ := slOf_ok (nx := nx) hF hs
     have hjl := hjl dx.2
     obtain ⟨d, hd, hdk, -⟩ := (tyOk hT ht).desc
     cases d <;> simp [descChk] at hdk
     subst hdk
     obtain ⟨ei, hei, hes, -⟩ := (tyOk hT hk).info
     have hsize : ∀ w, (sizeOf el).run P w = .ok s.ls.length w := fun w => by rw [run_sizeOf' hei, hes, hsz]
     have cut1 : s.ok = true → ∀ l m : Int, 0 ≤ l → l ≤ m → m ≤ s.n → ∀ (lv hv : Option Value) w,
       ((lv = none ∧ l = 0) ∨ ∃ kl, lv = some (.int kl l)) → ((hv = none ∧ m = s.n) ∨ ∃ km, hv = some (.int km m)) →
       (Instr.sliceAt t (den ν v) lv hv none).run P w = .ok (cutV s.ls.length (bif lv.isSome then s.ch ++ [l] else s.ch) (m - l) (ν s.j)) w := by
      intro hok l m h0 h1 h2 lv hv w hl hh
      obtain ⟨p1, p2, p3⟩ := Sl.ok_spec hok
      have p4 := sumI_nonneg p1
      have bnd : ∀ (a : Option Addr) (n c : Nat), n = s.n.toNat → s.n ≤ (c : Int) → (Instr.sliceAt t (.slice a n c) lv hv none).run P w = .ok (.slice (if c = l.toNat then a else a.map (·.add (l.toNat * s.ls.length))) (m.toNat - l.toNat) (c - l.toNat)) w := by
       intro a n c hn hcc
       have hb1 : ∀ kk cd, (Instr.sliceBound (.int kk m) c cd).run P w = .ok m.toNat w := fun kk cd => bound_run w kk m c cd (by omega) (by omega)
       have hb2 : ∀ kk cd, (Instr.sliceBound (.int kk l) m.toNat cd).run P w = .ok l.toNat w := fun kk cd => bound_run w kk l m.toNat cd h0 (by omega)
       subst hn
       rcases hl with ⟨rfl, rfl⟩ | ⟨kl, rfl⟩ <;> rcases hh with ⟨rfl, rfl⟩ | ⟨km, rfl⟩ <;>
        simp [Instr.sliceAt, Instr.slice, run_underlying' hd, Instr.sliceBounds, hb1, hb2, hsize]
      rcases hS.shape hok with ⟨e1, e2, e3, _⟩ | ⟨ad, cap, e1, e2, e3, _⟩
      ·have hl0 : l = 0 := by omega
       have hm0 : m = 0 := by omega
       rw [e1, e2, bnd none 0 0 (by omega) (by omega)]
       subst hl0; subst hm0
       simp [cutV]
      ·rw [e2, bnd _ _ _ rfl (by omega), e1]
       have hcap : (chop s.ls.length s.ch (ad, cap)).2 = cap - (sumI s.ch).toNat := chop_cap _ _ _ p1
       rcases hl with ⟨rfl, rfl⟩ | ⟨kl, rfl⟩
       ·simp only [Option.isSome_none, cond_false, cutV, hcap]
        congr 2
        ·split
         ·rfl
         ·simp [Addr.add]
        ·simp
       ·simp only [Option.isSome_some, cond_true, cutV, chop_snoc, hcap]
        congr 2
        ·split <;> rfl
        ·omega
     split at h
     ·obtain ⟨hok, h⟩ := O.chk_ne h hne
      have p2 := (Sl.ok_spec hok).2.1
      refine ⟨_, h, (by simpa [svLt] using hjl), fun w => ?_⟩
      have := cut1 hok 0 s.n (Int.le_refl _) p2 (Int.le_refl _) none none w (.inl ⟨rfl, rfl⟩) (.inl ⟨rfl, rfl⟩)
      simp only [execOp, ho, Option.map_none, dx.1, this, Sem.run_bind, Result.andThen_ok, Sem.run_pure, Option.isSome_none, cond_false, Int.sub_zero, den]
     ·rename_i l
      split at h
      ·rename_i kk l' hl
       obtain ⟨hb, h⟩ := O.chk_ne h hne
       simp only [Bool.and_eq_true, decide_eq_true_eq] at hb
       have dl := ofOpd_den hE hl
       refine ⟨_, h, (by simpa [svLt] using hjl), fun w => ?_⟩
       have := cut1 hb.2 l' s.n hb.1.1 hb.1.2 (Int.le_refl _) (some (.int kk l')) none w (.inr ⟨_, rfl⟩) (.inl ⟨rfl, rfl⟩)
       simp only [execOp, ho, Option.map_none, Option.map_some, dx.1, dl.1, den, this, Sem.run_bind, Result.andThen_ok, Sem.run_pure, Option.isSome_some, cond_true]
      ·exact absurd h.symm hne
     ·rename_i m
      split at h
      ·rename_i kk m' hm
       obtain ⟨hb, h⟩ := O.chk_ne h hne
       simp only [Bool.and_eq_true, decide_eq_true_eq] at hb
       have dm := ofOpd_den hE hm
       refine ⟨_, h, (by simpa [svLt] using hjl), fun w => ?_⟩
       have := cut1 hb.2 0 m' (Int.le_refl _) hb.1.1 hb.1.2 none (some (.int kk m')) w (.inl ⟨rfl, rfl⟩) (.inr ⟨_, rfl⟩)
       simp only [execOp, ho, Option.map_none, Option.map_some, dx.1, dm.1, den, this, Sem.run_bind, Result.andThen_ok, Sem.run_pure, Option.isSome_none, cond_false, Int.sub_zero]
      ·exact absurd h.symm hne
     ·rename_i l m
      split at h
      ·rename_i kk l' kk' m' hl hm
       obtain ⟨hb, h⟩ := O.chk_ne h hne
       simp only [Bool.and_eq_true, decide_eq_true_eq] at hb
       have dl := ofOpd_den hE hl
       have dm := ofOpd_den hE hm
       refine ⟨_, h, (by simpa [svLt] using hjl), fun w => ?_⟩
       have := cut1 hb.2 l' m' hb.1.1 hb.1.2.1 hb.1.2.2 (some (.int kk l')) (some (.int kk' m')) w (.inr ⟨_, rfl⟩) (.inr ⟨_, rfl⟩)
       simp only [execOp, ho, Option.map_none, Option.map_some, dx.1, dl.1, dm.1, den, this, Sem.run_bind, Result.andThen_ok, Sem.run_pure, Option.isSome_some, cond_true]
      ·exact absurd h.symm hne
    ·rw [Bool.not_eq_true] at hc; rw [hc] at h; exact absurd h.symm hne
   ·rename_i k hs hk
    split at h
    ·rename_i j l
     split at h
     ·rename_i own' t' γ' p' f xs kk l' hj hl
      by_cases hc : Nat.beq k.size f.sz = true
      ·rw [hc, ifb_true] at h
       have hsz := Nat.eq_of_beq_eq_true hc
       obtain ⟨hb, h⟩ := O.chk_ne h hne
       simp only [decide_eq_true_eq] at hb
       have dx := ofOpd_den hE hx
       have dl := ofOpd_den hE hl
       obtain ⟨d, hd, hdk, -⟩ := (tyOk hT ht).desc
       cases d <;> simp [descChk] at hdk
       subst hdk
       obtain ⟨ei, hei, hes, -⟩ := (tyOk hT hk).info
       have hsize : ∀ w, (sizeOf el).run P w = .ok f.sz w := fun w => by rw [run_sizeOf' hei, hes, hsz]
       refine ⟨_, h, (by simpa [svLt] using dx.2), fun w => ?_⟩
       rcases hF.2.1 j own' t' γ' p' f xs hj with ⟨e1, e2⟩ | ⟨ad, cap, e1, e3, -⟩
       ·have hl0 : l' = 0 := by omega
        subst hl0
        have hb2 : ∀ kk cd, (Instr.sliceBound (.int kk (0 : Int)) 0 cd).run P w = .ok (0 : Int).toNat w := fun kk cd => bound_run w kk 0 0 cd (by omega) (by omega)
        simp [execOp, ho, dx.1, dl.1, den, e1, hdr, cutV, Instr.sliceAt, Instr.slice, run_underlying' hd, Instr.sliceBounds, hb2, hsize]
       ·have hb2 : ∀ cd, (Instr.sliceBound (.int kk l') xs.length cd).run P w = .ok l'.toNat w := fun cd => bound_run w kk l' xs.length cd hb.1 hb.2
        simp [execOp, ho, dx.1, dl.1, den, e1, hdr, cutV, chop, Instr.sliceAt, Instr.slice, run_underlying' hd, Instr.sliceBounds, hb2, hsize]
        refine ⟨?_, by omega⟩
        split <;> rfl
      ·rw [Bool.not_eq_true] at hc; rw [hc] at h; exact absurd h.symm hne
     ·exact absurd h.symm hne
    ·exact absurd h.symm hne
   ·exact absurd h.symm hne
  ·exact absurd h.symm hne
 case h_16 t x ho =>   -- makeInterface
  split at h
  ·exact absurd h.symm hne
  ·rename_i k v _ ht hx
   have dx := ofOpd_den hE hx
   obtain ⟨d, hd, hk, -⟩ := (tyOk hT ht).desc
   refine ⟨(.iface t v), h, (by simpa [svLt] using dx.2), fun w => ?_⟩
   simp only [execOp, ho, Instr.makeInterface, Sem.run_bind, run_underlying' hd, Result.andThen_ok, dx.1, den]
   cases d <;> first | rfl | (cases k <;> simp_all [descChk])
  ·exact absurd h.symm hne
 case h_17 x t t' ho =>   -- typeAssert
  split at h
  ·exact absurd h.symm hne
  ·rename_i k _ ht hx
   have tk := tyOk hT ht
   obtain ⟨d, hd, hdk, -⟩ := tk.desc
   obtain ⟨i, hi, hs, _, y, hy, hz⟩ := tk.info
   have dx := ofOpd_den hE hx
   refine ⟨_, h, (by simp [svLt, belowL, z _ tk.zlt]), fun w => ?_⟩
   simp only [execOp, ho, dx.1, den, Instr.typeAssert, Sem.run_bind, run_underlying' hd, Result.andThen_ok, denL, hz ν]
   cases d <;> first
    | (simp only [if_true, Sem.run_bind, run_zeroValue' hi hy, Result.andThen_ok, Sem.run_pure]; done)
    | (cases k <;> simp_all [descChk])
  ·rename_i k d' v _ ht hx
   have tk := tyOk hT ht
   obtain ⟨d, hd, hdk, -⟩ := tk.desc
   obtain ⟨i, hi, hs, _, y, hy, hz⟩ := tk.info
   have dx := ofOpd_den hE hx
   have hvl : svLt nx v = true := by simpa [svLt] using dx.2
   by_cases hq : d' = t'
   ·subst hq
    rw [Nat.beq_refl, ifb_true] at h
    refine ⟨_, h, (by simp [svLt, belowL, hvl]), fun w => ?_⟩
    simp only [execOp, ho, dx.1, den, Instr.typeAssert, Sem.run_bind, run_underlying' hd, Result.andThen_ok, denL]
    cases d <;> first
     | (simp only [if_true, Sem.run_pure, Result.andThen_ok]; done)
     | (cases k <;> simp_all [descChk])
   ·rw [show Nat.beq d' t' = false from Bool.eq_false_iff.2 fun e => hq (Nat.eq_of_beq_eq_true e), ifb_false] at h
    refine ⟨_, h, (by simp [svLt, belowL, z _ tk.zlt]), fun w => ?_⟩
    simp only [execOp, ho, dx.1, den, Instr.typeAssert, Sem.run_bind, run_underlying' hd, Result.andThen_ok, denL, hz ν]
    cases d <;> first
     | (simp only [if_true, hq, if_false, Sem.run_bind, run_zeroValue' hi hy, Result.andThen_ok, Sem.run_pure]; done)
     | (cases k <;> simp_all [descChk])
  ·exact absurd h.symm hne
 case h_18 c ho =>   -- call of a builtin
  split at h
  ·rename_i args hargs
   have da := ofOpds_den hE hargs
   split at h
   ·rename_i b hb
    obtain ⟨v, hk, hv, hrun⟩ := evBuiltin_run hT hF (P := P) h hne da.2 o.type (c.args.map fun | .const _ => true | _ => false)
    refine ⟨v, hk, hv, fun w => ?_⟩
    simp only [execOp, ho, resolve, hb, Sem.run_bind, Sem.run_pure, Result.andThen_ok, invoke]
    have e : (Array.map a.eval c.args) = (denL ν args).toArray := by
     rw [← da.1]; apply Array.ext'; simp
    rw [e]
    exact hrun w
   ·exact absurd h.symm hne
  ·exact absurd h.symm hne
 case h_19 => exact absurd h.symm hne
end Go.Aq
end
section
namespace Go.Aq
open Go.RowKit (Below)
set_option linter.unusedVariables false
section
variable {P : Program} {ν : Nat → Value} {w : World}
theorem run_loadVarC {b B off : Nat} {vs : List SV} {t : TypeId} {k : TK} {v : SV} (ht : TyOk P t k) (h : ∀ i u, (denL ν vs)[i]? = some u → w.cell? ⟨b, B + i, none⟩ = some u) (hv : partOf k.isAgg off k.size vs = some v) :
  (loadVar t ⟨b, B + off, none⟩).run P w = .ok (den ν v) w := by
 obtain ⟨d, hd, hk, -⟩ := ht.desc
 obtain ⟨i, hi, hs, -⟩ := ht.info
 have ha := aggD_of hk
 simp only [loadVar, Sem.run_bind, run_isAgg' hd, Result.andThen_ok, ha]
 unfold partOf at hv
 cases hg : k.isAgg with
 | true =>
  rw [hg] at hv
  simp only at hv
  by_cases hle : Nat.ble (off + k.size) vs.length = true
  ·rw [hle] at hv
   simp only [cond_true, Option.some.injEq] at hv
   have hle := Nat.le_of_ble_eq_true hle
   subst hv
   have hl : (denL ν ((vs.drop off).take k.size)).length = k.size := by simp [denL_length]; omega
   have hc := run_loadCells_list (P := P) w ⟨b, B + off, none⟩ (denL ν ((vs.drop off).take k.size)) (fun j x hx => by
    rw [add_plain, Nat.add_assoc]
    refine h _ _ ?_
    rw [denL_eq, List.getElem?_map, List.getElem?_take] at hx
    rw [denL_eq, List.getElem?_map]
    split at hx
    ·rw [List.getElem?_drop] at hx; exact hx
    ·cases hx)
   rw [hl] at hc
   simp [run_sizeOf' hi, hs, hc, den]
  ·rw [Bool.not_eq_true] at hle
   rw [hle] at hv
   cases hv
 | false =>
  rw [hg] at hv
  simp only at hv
  have : w.cell? ⟨b, B + off, none⟩ = some (den ν v) := h off _ (by rw [denL_eq, List.getElem?_map, hv]; rfl)
  simp [this]
theorem run_loadVarP {b B off : Nat} {vs : List SV} {t : TypeId} {k : TK} {v : SV} (ht : TyOk P t k) (h : ∀ i c, vs[i]? = some c → plainC c = true → w.cell? ⟨b, B + i, none⟩ = some (den ν c)) (hv : partOf k.isAgg off k.size vs = some v) (hp : plainV v = true) (hag : k.isAgg = false → ∀ cs, v ≠ .agg cs) :
  (loadVar t ⟨b, B + off, none⟩).run P w = .ok (den ν v) w := by
 obtain ⟨d, hd, hk, -⟩ := ht.desc
 obtain ⟨i, hi, hs, -⟩ := ht.info
 have ha := aggD_of hk
 simp only [loadVar, Sem.run_bind, run_isAgg' hd, Result.andThen_ok, ha]
 unfold partOf at hv
 cases hg : k.isAgg with
 | true =>
  rw [hg] at hv
  simp only at hv
  by_cases hle : Nat.ble (off + k.size) vs.length = true
  ·rw [hle] at hv
   simp only [cond_true, Option.some.injEq] at hv
   have hle := Nat.le_of_ble_eq_true hle
   subst hv
   have hl : (denL ν ((vs.drop off).take k.size)).length = k.size := by simp [denL_length]; omega
   have hc := run_loadCells_list (P := P) w ⟨b, B + off, none⟩ (denL ν ((vs.drop off).take k.size)) (fun j x hx => by
    rw [add_plain, Nat.add_assoc]
    rw [denL_eq, List.getElem?_map] at hx
    cases hc : ((vs.drop off).take k.size)[j]? with
    | none => rw [hc] at hx; cases hx
    | some c =>
     rw [hc] at hx
     simp only [Option.map_some, Option.some.injEq] at hx
     subst hx
     have hpc : plainC c = true := List.all_eq_true.1 hp c (List.mem_of_getElem? hc)
     refine h _ c ?_ hpc
     rw [List.getElem?_take] at hc
     split at hc
     ·rwa [List.getElem?_drop] at hc
     ·cases hc)
   rw [hl] at hc
   simp [run_sizeOf' hi, hs, hc, den]
  ·rw [Bool.not_eq_true] at hle
   rw [hle] at hv
   cases hv
 | false =>
  rw [hg] at hv
  simp only at hv
  have hpc : plainC v = true := by
   cases v with
   | agg cs => exact absurd rfl (hag hg cs)
   | _ => exact hp
  have : w.cell? ⟨b, B + off, none⟩ = some (den ν v) := h off v hv hpc
  simp [this]
end
mutual
theorem giveS_plain {w : World} {α : Nat → Value} {Av : Nat → Prop} {γ : List Nat} (ν : Nat → Value) : ∀ (s : Sh) (x : s.T) (vs : List Value) (F : List Nat) (nx : Nat), repS w α Av s x vs F → (giveS γ s x nx).1.length = s.sz ∧ ∀ (i : Nat) (c : SV), (giveS γ s x nx).1[i]? = some c → plainC c = true → vs[i]? = some (den ν c)
 | .leaf l, x, vs, F, nx, h => by
  refine ⟨rfl, fun i c hc hp => ?_⟩
  have hc : [l.enc x][i]? = some c := hc
  rw [h.1]
  cases i with
  | zero => simp at hc; subst hc; simp [den_congr (n := 0) (ν := ν) (ν' := ν0) (fun j hj => absurd hj (Nat.not_lt_zero j)) _ (lf_enc_lt 0 l x)]
  | succ i => simp at hc
 | .row own t ls, xs, vs, F, nx, h => ⟨rfl, fun i c hc hp => by
   have hc : [SV.osl nx][i]? = some c := hc
   cases i with
   | zero => simp at hc; subst hc; cases hp
   | succ i => simp at hc⟩
 | .map t ka va kl vl, xs, vs, F, nx, h => ⟨rfl, fun i c hc hp => by
   have hc : [SV.mp nx][i]? = some c := hc
   cases i with
   | zero => simp at hc; subst hc; cases hp
   | succ i => simp at hc⟩
 | .tab own t f, xs, vs, F, nx, h => ⟨rfl, fun i c hc hp => by
   have hc : [SV.osl (Nat.succ nx)][i]? = some c := hc
   cases i with
   | zero => simp at hc; subst hc; cases hp
   | succ i => simp at hc⟩
 | .box t f, x, vs, F, nx, h => ⟨rfl, fun i c hc hp => by
   have hc : [SV.ptr (nx + (giveF γ f x nx).2.length) 0][i]? = some c := hc
   cases i with
   | zero => simp at hc; subst hc; cases hp
   | succ i => simp at hc⟩
 | .agg f, x, vs, F, nx, h => giveF_plain ν f x vs F nx h
theorem giveF_plain {w : World} {α : Nat → Value} {Av : Nat → Prop} {γ : List Nat} (ν : Nat → Value) : ∀ (f : Shs) (x : f.T) (vs : List Value) (F : List Nat) (nx : Nat), repF w α Av f x vs F → (giveF γ f x nx).1.length = f.sz ∧ ∀ (i : Nat) (c : SV), (giveF γ f x nx).1[i]? = some c → plainC c = true → vs[i]? = some (den ν c)
 | .one s ps, x, vs, F, nx, h => by
  obtain ⟨us, rfl, h⟩ := h
  obtain ⟨h1, h2⟩ := giveS_plain ν s x us F nx h
  have hl := repS_len s x us F h
  refine ⟨by show ((giveS γ s x nx).1 ++ ps.map (pinV γ)).length = _; rw [List.length_append, h1, List.length_map]; rfl, fun i c hc hp => ?_⟩
  have hc : ((giveS γ s x nx).1 ++ ps.map (pinV γ))[i]? = some c := hc
  rw [List.getElem?_append] at hc ⊢
  split at hc
  ·rename_i hi
   rw [if_pos (by omega)]
   exact h2 i c hc hp
  ·rw [List.getElem?_map] at hc
   cases hq : ps[i - (giveS γ s x nx).1.length]? with
   | none => rw [hq] at hc; cases hc
   | some p => rw [hq] at hc; simp at hc; subst hc; cases p <;> cases hp
 | .cons s r, x, vs, F, nx, h => by
  obtain ⟨v1, v2, F1, F2, rfl, _, h1, h2⟩ := h
  obtain ⟨a1, a2⟩ := giveS_plain ν s x.1 v1 F1 nx h1
  obtain ⟨b1, b2⟩ := giveF_plain ν r x.2 v2 F2 (nx + (giveS γ s x.1 nx).2.length) h2
  have hl := repS_len s x.1 v1 F1 h1
  refine ⟨by show ((giveS γ s x.1 nx).1 ++ _).length = _; rw [List.length_append, a1, b1]; rfl, fun i c hc hp => ?_⟩
  have hc : ((giveS γ s x.1 nx).1 ++ (giveF γ r x.2 (nx + (giveS γ s x.1 nx).2.length)).1)[i]? = some c := hc
  rw [List.getElem?_append] at hc ⊢
  split at hc
  ·rw [if_pos (by omega)]
   exact a2 i c hc hp
  ·rw [if_neg (by omega)]
   rw [show i - v1.length = i - (giveS γ s x.1 nx).1.length by omega]
   exact b2 _ c hc hp
 | .pin p r, x, vs, F, nx, h => by
  obtain ⟨us, rfl, h⟩ := h
  obtain ⟨h1, h2⟩ := giveF_plain ν r x us F nx h
  refine ⟨by show (pinV γ p :: (giveF γ r x nx).1).length = _; rw [List.length_cons, h1]; rfl, fun i c hc hp => ?_⟩
  have hc : (pinV γ p :: (giveF γ r x nx).1)[i]? = some c := hc
  cases i with
  | zero => simp at hc; subst hc; cases p <;> cases hp
  | succ i => simp at hc; simpa using h2 i c hc hp
 | .pins ps, x, vs, F, nx, h => by
  refine ⟨by show (ps.map (pinV γ)).length = _; rw [List.length_map]; rfl, fun i c hc hp => ?_⟩
  have hc : (ps.map (pinV γ))[i]? = some c := hc
  rw [List.getElem?_map] at hc
  cases hq : ps[i]? with
  | none => rw [hq] at hc; cases hc
  | some p => rw [hq] at hc; simp at hc; subst hc; cases p <;> cases hp
end
theorem ColIs.reads {w : World} {Av : Nat → Prop} {own : Bool} {t : TypeId} {n len : Nat} {v : Value} {us : List Value} {F : List Nat} (h : ColIs w Av own t n len v us F) :
  (v = .slice none 0 0 ∧ len = 0 ∧ us = []) ∨ ∃ a cap, v = .slice (some a) len cap ∧ len ≤ cap ∧ (∀ i u, us[i]? = some u → w.cell? (a.add i) = some u) ∧ (len ≠ 0 → a.spot = none) := by
 rcases h with ⟨e, hl, e2, _⟩ | ⟨a, cap, e, hc, h1, h2⟩
 ·exact .inl ⟨e, hl, e2⟩
 ·refine .inr ⟨a, cap, e, hc, ?_, fun hn => ?_⟩
  ·cases own with
   | false => exact (h1 rfl).2.1
   | true =>
    obtain ⟨_, hsp, _, cur, fz, h3, h4, _, h5⟩ := h2 rfl
    obtain ⟨b, o, sp⟩ := a
    simp only at hsp h3 h4 h5
    subst hsp
    intro i u hu
    rw [add_plain, cell_of_row w b (o + i) cur t fz h3]
    rw [← h5, List.getElem?_take] at hu
    split at hu
    ·rw [List.getElem?_drop] at hu; simpa using hu
    ·cases hu
  ·cases own with
   | true => exact (h2 rfl).2.1
   | false => exact ((h1 rfl).2.2 hn).1
theorem flat_elem (ls : List Lf) (xs : List (LT ls)) (i : Nat) (h : i < xs.length) (k : Nat) (u : Value) (hu : (cellsV ls (xs.getD i (dfltL ls)))[k]? = some u) : (flat ls xs)[i * ls.length + k]? = some u := by
 rw [← flat_at ls xs i h, List.getElem?_take] at hu
 split at hu
 ·rwa [List.getElem?_drop] at hu
 ·cases hu
theorem flat_u8 (xs : List Int) : flat [.int .u8] xs = xs.map (Value.int .u8) := by
 induction xs with
 | nil => rfl
 | cons x xs ih => simp only [flat, ih, List.map_cons]; rfl
theorem strOf_fold (ns : List Int) : ∀ s : ByteArray, ns.foldl (fun r n => r.push (UInt8.ofNat n.toNat)) s = ⟨s.data ++ (ns.map fun n => UInt8.ofNat n.toNat).toArray⟩ := by
 induction ns with
 | nil => intro s; simp
 | cons n ns ih =>
  intro s
  rw [List.foldl_cons, ih]
  congr 1
  apply Array.ext'
  simp [ByteArray.push]
theorem run_bytes {P : Program} {w : World} {v : Value} {xs : List Int} (h : Reads w v [.int .u8] xs) : (Conv.bytesToString v).run P w = .ok (.string (strOf xs)) w := by
 rcases h with ⟨rfl, rfl⟩ | ⟨a, cap, rfl, -, hc⟩
 ·simp [Conv.bytesToString, strOf]; rfl
 ·have hc' : ∀ (i : Nat) (u : Value), (xs.map (Value.int .u8))[i]? = some u → w.cell? (a.add i) = some u := by
   intro i u hu
   rw [← flat_u8] at hu
   exact hc i u hu
  have hl := run_loadCells_list (P := P) w a (xs.map (Value.int .u8)) hc'
  rw [List.length_map] at hl
  refine Eq.trans (run_bytesToString w a (List.length (α := Int) xs) cap xs hl) ?_
  rw [strOf_fold]
  congr 3
  apply Array.ext'
  simp [ByteArray.empty, ByteArray.emptyWithCapacity]
  rfl
theorem plainC_lt {n : Nat} {v : SV} (h : plainC v = true) : svLt n v = true := by cases v <;> first | rfl | cases h
theorem plainV_lt {n : Nat} (v : SV) (h : plainV v = true) : svLt n v = true := by
 cases v with
 | agg cs =>
  simp only [svLt]
  rw [belowL_iff]
  exact fun c hc => plainC_lt (List.all_eq_true.1 h c hc)
 | _ => exact plainC_lt h
mutual
theorem giveS_leafs {w : World} {α : Nat → Value} {Av : Nat → Prop} {γ : List Nat} : ∀ (s : Sh) (x : s.T) (vs : List Value) (F : List Nat) (nx : Nat), repS w α Av s x vs F → ∀ (i : Nat) (cs : List SV), (giveS γ s x nx).1[i]? ≠ some (.agg cs)
 | .leaf l, x, vs, F, nx, h, i, cs, e => by
  have e : [l.enc x][i]? = some (.agg cs) := e
  cases i with
  | zero => cases l <;> simp [Lf.enc] at e
  | succ i => simp at e
 | .row own t ls, xs, vs, F, nx, h, i, cs, e => by
  have e : [SV.osl nx][i]? = some (.agg cs) := e
  cases i <;> simp at e
 | .map t ka va kl vl, xs, vs, F, nx, h, i, cs, e => by
  have e : [SV.mp nx][i]? = some (.agg cs) := e
  cases i <;> simp at e
 | .tab own t f, xs, vs, F, nx, h, i, cs, e => by
  have e : [SV.osl (Nat.succ nx)][i]? = some (.agg cs) := e
  cases i <;> simp at e
 | .box t f, x, vs, F, nx, h, i, cs, e => by
  have e : [SV.ptr (nx + (giveF γ f x nx).2.length) 0][i]? = some (.agg cs) := e
  cases i <;> simp at e
 | .agg f, x, vs, F, nx, h, i, cs, e => giveF_leafs f x vs F nx h i cs e
theorem giveF_leafs {w : World} {α : Nat → Value} {Av : Nat → Prop} {γ : List Nat} : ∀ (f : Shs) (x : f.T) (vs : List Value) (F : List Nat) (nx : Nat), repF w α Av f x vs F → ∀ (i : Nat) (cs : List SV), (giveF γ f x nx).1[i]? ≠ some (.agg cs)
 | .one s ps, x, vs, F, nx, h, i, cs, e => by
  obtain ⟨us, _, h⟩ := h
  have e : ((giveS γ s x nx).1 ++ ps.map (pinV γ))[i]? = some (.agg cs) := e
  rw [List.getElem?_append] at e
  split at e
  ·exact giveS_leafs s x us F nx h i cs e
  ·rw [List.getElem?_map] at e
   cases hq : ps[i - (giveS γ s x nx).1.length]? with
   | none => rw [hq] at e; cases e
   | some p => rw [hq] at e; cases p <;> simp [pinV] at e
 | .cons s r, x, vs, F, nx, h, i, cs, e => by
  obtain ⟨v1, v2, F1, F2, _, _, h1, h2⟩ := h
  have e : ((giveS γ s x.1 nx).1 ++ (giveF γ r x.2 (nx + (giveS γ s x.1 nx).2.length)).1)[i]? = some (.agg cs) := e
  rw [List.getElem?_append] at e
  split at e
  ·exact giveS_leafs s x.1 v1 F1 nx h1 i cs e
  ·exact giveF_leafs r x.2 v2 F2 _ h2 _ cs e
 | .pin p r, x, vs, F, nx, h, i, cs, e => by
  obtain ⟨us, _, h⟩ := h
  have e : (pinV γ p :: (giveF γ r x nx).1)[i]? = some (.agg cs) := e
  cases i with
  | zero => cases p <;> simp [pinV] at e
  | succ i => simp at e; exact giveF_leafs r x us F nx h i cs e
 | .pins ps, x, vs, F, nx, h, i, cs, e => by
  have e : (ps.map (pinV γ))[i]? = some (.agg cs) := e
  rw [List.getElem?_map] at e
  cases hq : ps[i]? with
  | none => rw [hq] at e; cases e
  | some p => rw [hq] at e; cases p <;> simp [pinV] at e
end
theorem evLoad_run {P : Program} {tab : Tab} (hT : tabChk P tab = true) {T : Type} {ν : Nat → Value} {fr : Fr} {st : St} {K : Nat → SV → O T}
  {a : Act} (hE : ∀ x v, ofOpd fr.env x = some v → (∀ j ∈ namesOf v, ∃ o, lkp j st.H = some o) → a.eval x = den ν v) {S : Bl} {w0 w : World} (hR : RelW S w0 ν st w) (o : Oper) (ho : isLoad tab o.op = true) {res : O T} (h : evLoad tab o.op fr.env st.H K = res) (hne : res ≠ .no) :
  ∃ j v o', K j v = res ∧ svLt st.nx v = true ∧ lkp j st.H = some o' ∧ ∀ w', (∀ b, b < w.heap.size → b ∈ mineL ν j o' ∨ b ∈ seenL ν j o' → w'.heap[b]? = w.heap[b]?) → (execOp a.eval o).run P w' = .ok (.value (den ν v)) w' := by
 unfold evLoad at h
 split at h
 ·rename_i t x hop
  split at h
  ·rename_i k j off hk hx
   split at h
   ·rename_i T' vs hj
    split at h
    ·rename_i v hv
     have hd := hE _ _ hx (fun i hi => by simp [namesOf] at hi; subst hi; exact ⟨_, hj⟩)
     have hs := hR.sat j _ hj
     have hs' := hs
     obtain ⟨b, hb, hc⟩ := hs
     have hlt : belowL st.nx vs = true := (hR.lt j _ hj).2
     refine ⟨j, v, _, h, partOf_lt hlt hv, hj, fun w' hw => ?_⟩
     have hw := hw b (hoSat_lt hs' b (.inl (by simp [mineL, hb, blk]))) (.inl (by simp [mineL, hb, blk]))
     have := run_loadVar (P := P) (w := w') (tyOk hT hk) (hw.trans hc) hv
     simp only [execOp, hop, Instr.loadAt, hd, den, hb, blk, Instr.sureAddr, Sem.run_bind, Sem.run_pure, Result.andThen_ok, this]
    ·exact absurd h.symm hne
   ·exact absurd h.symm hne
  ·rename_i k j sz i off hk hx
   split at h
   ·rename_i own t' ls xs hj
    by_cases hb : Nat.beq sz ls.length = true
    ·rw [hb, ifb_true] at h
     have hb := Nat.eq_of_beq_eq_true hb
     subst hb
     obtain ⟨hi, h⟩ := O.chk_ne h hne
     simp only [decide_eq_true_eq] at hi
     split at h
     ·rename_i v hv
      have hd := hE _ _ hx (fun i hi => by simp [namesOf] at hi; subst hi; exact ⟨_, hj⟩)
      have hs := hR.sat j _ hj
      refine ⟨j, v, _, h, partOf_lt (encL_lt _ _ _) hv, hj, fun w' hw => ?_⟩
      have hs2 := hs.2.congr (w' := w') (fun b hb => hw b (hoSat_lt hs b (.inl hb)) (.inl hb)) (fun b hb => hw b (hoSat_lt hs b (.inr hb)) (.inr hb))
      rcases hs2.reads with ⟨_, e⟩ | ⟨ad, cap, e, -, hc⟩
      ·rw [e] at hi; simp at hi; omega
      ·have hsp : ad.spot = none := by
        rcases hs2.rowVal hs.1 with ⟨e', _⟩ | ⟨ad', cap', e', _, h3⟩
        ·rw [e] at e'; cases e'
        ·rw [e] at e'; cases e'; exact h3 (by omega)
       obtain ⟨b, o, sp⟩ := ad
       simp only at hsp
       subst hsp
       have := run_loadVarC (P := P) (w := w') (ν := ν) (b := b) (B := o + i.toNat * ls.length) (tyOk hT hk) (vs := encL ls (gt (dfltL ls) xs i)) (fun m u hu => by
        rw [cellsV_any] at hu
        have := hc _ _ (flat_elem ls xs i.toNat (by omega) m u hu)
        rw [add_plain] at this
        rw [Nat.add_assoc]; exact this) hv
       simp only [execOp, hop, Instr.loadAt, hd, den, e, blk, offs, Instr.sureAddr, Sem.run_bind, Sem.run_pure, Result.andThen_ok, this]
     ·exact absurd h.symm hne
    ·rw [Bool.not_eq_true] at hb; rw [hb] at h; exact absurd h.symm hne
   ·rename_i own t' γ p f xs hj
    by_cases hb : Nat.beq sz f.sz = true
    ·rw [hb, ifb_true] at h
     have hb := Nat.eq_of_beq_eq_true hb
     subst hb
     obtain ⟨hi, h⟩ := O.chk_ne h hne
     simp only [decide_eq_true_eq] at hi
     split at h
     ·rename_i v hv
      by_cases hp : plainV v = true
      ·rw [hp, ifb_true] at h
       have hd := hE _ _ hx (fun i hi => by simp [namesOf] at hi; subst hi; exact ⟨_, hj⟩)
       have hs := hR.sat j _ hj
       refine ⟨j, v, _, h, plainV_lt _ hp, hj, fun w' hw => ?_⟩
       have hs2 := hoSat_congr (w' := w') (ν' := ν) (n := st.nx) (fun _ _ => rfl) (hR.lt j _ hj).1 (fun b hb => hw b (hoSat_lt hs b hb) hb) (hR.lt j _ hj).2 hs
       obtain ⟨_, _, v', us, F0, F1, ev, _, _, hcol, helt⟩ := hs2
       cases ev
       obtain ⟨va, vi, vb, Fa, Fi, Fb, e1, _, e3, e4, _, hri, _⟩ := helt.at (dfltF f) (i := i.toNat) (by omega)
       rcases hcol.reads with ⟨_, e, _⟩ | ⟨ad, cap, e, _, hc, hsp⟩
       ·omega
       ·have hsp := hsp (by omega)
        obtain ⟨b, o, sp⟩ := ad
        simp only at hsp
        subst hsp
        have := run_loadVarP (P := P) (w := w') (ν := ν) (b := b) (B := o + i.toNat * f.sz) (tyOk hT hk) (vs := (giveF γ f (gt (dfltF f) xs i) 0).1) (fun m c hc' hpc => by
         have h1 := (giveF_plain ν f _ vi Fi 0 hri).2 m c hc' hpc
         have h2 := hc (i.toNat * f.sz + m) (den ν c) (by
          have hm : m < vi.length := (List.getElem?_eq_some_iff.1 h1).1
          rw [e1, List.getElem?_append_right (by omega), e3, Nat.add_sub_cancel_left, List.getElem?_append_left hm]
          exact h1)
         rw [add_plain] at h2
         rw [Nat.add_assoc]; exact h2) hv hp (fun hg cs hcs => by
          subst hcs
          unfold partOf at hv
          rw [hg] at hv
          exact giveF_leafs f _ vi Fi 0 hri off cs hv)
        simp only [execOp, hop, Instr.loadAt, hd, den, e, blk, offs, Instr.sureAddr, Sem.run_bind, Sem.run_pure, Result.andThen_ok, this]
      ·rw [Bool.not_eq_true] at hp; rw [hp] at h; exact absurd h.symm hne
     ·exact absurd h.symm hne
    ·rw [Bool.not_eq_true] at hb; rw [hb] at h; exact absurd h.symm hne
   ·exact absurd h.symm hne
  ·exact absurd h.symm hne
 ·rename_i s d x hop
  split at h
  ·exact absurd h.symm hne
  ·rename_i v hnn hx
   rw [hop] at ho
   simp only [isLoad, isConvBytes] at ho
   split at ho
   ·rename_i e hs hd
    split at ho
    ·rename_i he
     obtain ⟨j, o', ls, t, xs, hk, hls, hj, hwhich, hrd⟩ := evList_reads hR h hne
     have hd' := hE _ _ hx (fun i hi => by rcases hwhich with rfl | ⟨sz, ch, n, rfl⟩ <;> (simp [namesOf] at hi; subst hi; exact ⟨_, hj⟩))
     obtain ⟨ds, hds, hks, -⟩ := (tyOk hT hs).desc
     obtain ⟨dd, hdd, hkd, -⟩ := (tyOk hT hd).desc
     obtain ⟨de, hde, hke, -⟩ := (tyOk hT he).desc
     cases ds <;> simp [descChk] at hks
     cases dd <;> simp [descChk] at hkd
     cases de <;> simp [descChk] at hke
     subst hks; subst hke
     split at hk
     ·rename_i xs
      refine ⟨j, .str (strOf xs), o', ?_, rfl, hj, fun w' hw => ?_⟩
      ·rcases hwhich with rfl | ⟨sz, ch, n, rfl⟩ <;> exact hk
      ·have hb := run_bytes (P := P) (hrd w' hw)
       have hsl : ∃ a n c, den ν v = .slice a n c := by
        rcases hrd w' hw with ⟨e, _⟩ | ⟨a, c, e, _, _⟩
        ·exact ⟨_, _, _, e⟩
        ·exact ⟨_, _, _, e⟩
       obtain ⟨a', n', c', e'⟩ := hsl
       rw [e'] at hb
       simp only [execOp, hop, hd', e', Sem.run_bind, run_convert_bytes_string w' s d _ a' n' c' hds hde hdd, hb, Result.andThen_ok, Sem.run_pure, den]
     ·exact absurd hk.symm hne
    ·cases ho
   ·cases ho
  ·exact absurd h.symm hne
 ·rename_i t x i ok hop
  split at h
  ·rename_i m' k' hx hi
   split at h
   ·rename_i m hm
    split at h
    ·rename_i key hkey
     obtain ⟨rfl, hj, hok⟩ := mpOf_spec hm
     obtain ⟨b, hb, hd, hlt, hsat⟩ := hR.mapAt hm
     have dx := hE _ _ hx (fun i hi => by simp [namesOf] at hi; subst hi; exact ⟨_, hj⟩)
     have di := hE _ _ hi (fun i hi => by rw [decO_of hkey, encO_names] at hi; cases hi)
     have hrun : ∀ w', (∀ b, b < w.heap.size → b ∈ mineL ν m.j (.map t m.ka m.va m.kl m.vl m.es) ∨ b ∈ seenL ν m.j (.map t m.ka m.va m.kl m.vl m.es) → w'.heap[b]? = w.heap[b]?) →
       (execOp a.eval o).run P w' = .ok (.value (match ok with
        | true => .tuple #[oneV m.va m.vl (mget (dfltL m.vl) m.es key), .bool (mhas m.es key)]
        | false => oneV m.va m.vl (mget (dfltL m.vl) m.es key))) w' := by
      intro w' hw
      have hl := lookup_run (P := P) hT hok (hsat.congr (hw b hlt (.inl (by simp [mineL, hb, blk])))) key ok
      simp only [execOp, hop, dx, di, hd, decO_den hkey ν, Sem.run_bind, hl, Result.andThen_ok, Sem.run_pure]
      cases ok <;> rfl
     cases ok with
     | true =>
      refine ⟨m.j, _, _, h, ?_, hj, fun w' hw => ?_⟩
      ·simp only [svLt, belowL, encO_lt, Bool.and_self]
      ·rw [hrun w' hw]
       simp only [den, denL, encO_den]
     | false =>
      refine ⟨m.j, _, _, h, encO_lt _ _ _ _, hj, fun w' hw => ?_⟩
      rw [hrun w' hw, encO_den]
    ·exact absurd h.symm hne
   ·exact absurd h.symm hne
  ·exact absurd h.symm hne
 ·rename_i c hop
  split at h
  ·rename_i t v hcal hts hargs
   split at h
   ·rename_i m hm
    obtain ⟨rfl, hj, hok⟩ := mpOf_spec hm
    obtain ⟨b, hb, hd, hlt, hsat⟩ := hR.mapAt hm
    refine ⟨m.j, _, _, h, rfl, hj, fun w' hw => ?_⟩
    obtain ⟨ms, clock, hms, hes, _⟩ := hsat.congr (hw b hlt (.inl (by simp [mineL, hb, blk])))
    have hsz : ms.size = m.es.length := by have := congrArg List.length hes; simpa using this
    obtain ⟨xs, hxs, hxe⟩ : ∃ x, c.args.toList = [x] ∧ ofOpd fr.env x = some (.mp m.j) := by
     cases hc : c.args.toList with
     | nil => rw [hc] at hargs; simp [ofOpds] at hargs
     | cons x xs =>
      rw [hc] at hargs
      simp only [ofOpds] at hargs
      split at hargs
      ·rename_i v' hv'
       split at hargs
       ·rename_i vs' hvs'
        cases hargs
        cases xs with
        | nil => exact ⟨x, rfl, hv'⟩
        | cons y ys => simp only [ofOpds] at hvs'; split at hvs' <;> (try split at hvs') <;> cases hvs'
       ·cases hargs
      ·cases hargs
    have dx := hE _ _ hxe (fun i hi => by simp [namesOf] at hi; subst hi; exact ⟨_, hj⟩)
    obtain ⟨k, e, hu, _⟩ := mapOk_spec hT hok
    have e1 : Array.map a.eval c.args = #[.map (some b)] := by
     rw [args1 hxs]; simp [dx, hd]
    simp only [execOp, hop, resolve, hcal, Sem.run_bind, Sem.run_pure, Result.andThen_ok, invoke, e1]
    simp [builtin, Builtin.len_, args1 hts, run_underlying' hu, MapKept.run_getObj_map hms, goInt, hsz, den]
   ·exact absurd h.symm hne
  ·exact absurd h.symm hne
 ·exact absurd h.symm hne
def OwnC (w : World) (v : Value) (t : TypeId) (n len : Nat) (us : List Value) : Prop :=
 us.length = len * n ∧ ((v = .slice none 0 0 ∧ len = 0) ∨ ∃ b o cap cur fz, v = .slice (some ⟨b, o, none⟩) len cap ∧ len ≤ cap ∧ cap ≤ maxLen ∧ w.heap[b]? = some (.cells cur t fz) ∧ o + cap * n ≤ cur.size ∧ Thawed cur.size fz ∧ (cur.toList.drop o).take (len * n) = us)
def ReadC (w : World) (v : Value) (n len : Nat) (us : List Value) : Prop :=
 us.length = len * n ∧ ((v = .slice none 0 0 ∧ len = 0) ∨ ∃ a cap, v = .slice (some a) len cap ∧ len ≤ cap ∧ ∀ i u, us[i]? = some u → w.cell? (a.add i) = some u)
theorem run_append_cells {P : Program} (w : World) {t e : TypeId} {i : TypeInfo} {z : Value} {n : Nat} (ht : P.underlying t = some (.slice e)) (hi : P.info? e = some i) (hz : i.zero = some z) (hsz : i.size = n) (hzs : z.cells.size = n) (hby : i.bytes ≤ 65536) (ty : TypeId)
  {v u : Value} {lx ly : Nat} {xs ys : List Value} (hv : OwnC w v e n lx xs) (hu : ReadC w u n ly ys) (hone : ∀ x ∈ ys, x.oneCell' = true) (hlen : lx + ly ≤ 1073741824) :
  ∃ v' w', (Builtin.append_ #[t, t] ty #[v, u]).run P w = .ok v' w' ∧ Ext w w' ∧ OwnC w' v' e n (lx + ly) (xs ++ ys) ∧
   (∀ b, b < w.heap.size → b ∉ rowMine true v → w'.heap[b]? = w.heap[b]?) ∧
   (∀ b ∈ rowMine true v', b ∈ rowMine true v ∨ b = w.heap.size) := by
 have hm : lx + ly ≤ maxLen := by simp only [maxLen]; omega
 have hbytes : (lx + ly) * i.bytes ≤ 140737488355328 := Nat.le_trans (Nat.mul_le_mul hlen hby) (by decide)
 obtain ⟨hx, hv⟩ := hv
 obtain ⟨hy, hu⟩ := hu
 have hxy : (xs ++ ys).length = (lx + ly) * n := by rw [List.length_append, hx, hy, Nat.add_mul]
 have grown : ∀ (old : Nat), old < lx + ly → ∀ (cs : Array Value), cs.size = (grownCap w (lx + ly) old e) * n → cs.toList.take ((lx + ly) * n) = xs ++ ys →
   OwnC (w.drew.alloc (.cells cs e)) (.slice (some ⟨w.heap.size, 0, none⟩) (lx + ly) (grownCap w (lx + ly) old e)) e n (lx + ly) (xs ++ ys) := by
  intro old ho cs h1 h2
  exact ⟨hxy, .inr ⟨_, 0, _, cs, (0, 0), rfl, grownCap_ge w _ old e, grownCap_le_maxLen w _ old e hm, heap_alloc_new w.drew _, by rw [h1]; omega, thawed_zero _, by simpa using h2⟩⟩
 have szg : ∀ (old : Nat), (xs ++ ys).length + (grownCap w (lx + ly) old e - (lx + ly)) * n = grownCap w (lx + ly) old e * n := by
  intro old
  have := grownCap_ge w (lx + ly) old e
  rw [hxy, ← Nat.add_mul]
  congr 1; omega
 have taken : ∀ rest : List Value, ((xs ++ ys) ++ rest).take ((lx + ly) * n) = xs ++ ys := by
  intro rest
  rw [← hxy]; exact List.take_left
 rcases hv with ⟨rfl, rfl⟩ | ⟨b, o, cap, cur, fz, rfl, hc1, hc2, hc3, hc4, hc5, hc6⟩
 ·have hx0 : xs = [] := List.length_eq_zero_iff.1 (by rw [hx]; simp)
  subst hx0
  rcases hu with ⟨rfl, rfl⟩ | ⟨a, c, rfl, -, hrd⟩
  ·have hy0 : ys = [] := List.length_eq_zero_iff.1 (by rw [hy]; simp)
   subst hy0
   refine ⟨.slice none 0 0, w, ?_, ⟨rfl, rfl, rfl, Nat.le_refl _⟩, ⟨by simp, .inl ⟨rfl, rfl⟩⟩, fun _ _ _ => rfl, fun b hb => by simp [rowMine] at hb⟩
   simp [Builtin.append_, run_underlying ht, sizeOf, typeInfo, hi, Builtin.lenOf, Builtin.firstCells]
  ·by_cases hpos : 0 < ly
   ·have hr := run_append_nil (P := P) w t ty e i z ht hi hz a ly c ys (by rw [hy, hsz]) hrd hpos (by omega) (by simp at hbytes; omega)
    have hg := grown 0 (by omega) (ys.toArray ++ Builtin.zeroCells z.cells (grownCap w ly 0 e - ly)) (by
     have := szg 0
     simp only [Nat.zero_add, List.nil_append] at this
     simp only [Array.size_append, List.size_toArray, size_zeroCells, hzs, Nat.zero_add]
     exact this) (by
     have := taken (Builtin.zeroCells z.cells (grownCap w ly 0 e - ly)).toList
     simpa using this)
    simp only [Nat.zero_add] at hg
    refine ⟨_, _, hr, ⟨rfl, rfl, rfl, by simp⟩, by simpa using hg, fun b hb _ => heap_alloc_old w.drew _ b hb, fun b hb => .inr (by simpa [rowMine] using hb)⟩
   ·obtain rfl : ly = 0 := by omega
    have hy0 : ys = [] := List.length_eq_zero_iff.1 (by rw [hy]; simp)
    subst hy0
    refine ⟨.slice none 0 0, w, ?_, ⟨rfl, rfl, rfl, Nat.le_refl _⟩, ⟨by simp, .inl ⟨rfl, rfl⟩⟩, fun _ _ _ => rfl, fun b hb => by simp [rowMine] at hb⟩
    simp [Builtin.append_, run_underlying ht, sizeOf, typeInfo, hi, Builtin.lenOf, Builtin.firstCells, loadCells, loadCellsFrom]
 ·-- a row that is there
  have holds : ∀ j u, xs[j]? = some u → w.cell? ((⟨b, o, none⟩ : Addr).add j) = some u := by
   intro j u hu
   rw [add_plain, cell_of_row w b (o + j) cur e fz hc3]
   rw [← hc6, List.getElem?_take] at hu
   split at hu
   ·rw [List.getElem?_drop] at hu; simpa using hu
   ·cases hu
  have self : OwnC w (.slice (some ⟨b, o, none⟩) lx cap) e n lx xs := ⟨hx, .inr ⟨b, o, cap, cur, fz, rfl, hc1, hc2, hc3, hc4, hc5, hc6⟩⟩
  rcases hu with ⟨rfl, rfl⟩ | ⟨a, c, rfl, -, hrd⟩
  ·have hy0 : ys = [] := List.length_eq_zero_iff.1 (by rw [hy]; simp)
   subst hy0
   refine ⟨.slice (some ⟨b, o, none⟩) lx cap, w, ?_, ⟨rfl, rfl, rfl, Nat.le_refl _⟩, by simpa using self, fun _ _ _ => rfl, fun b' hb => .inl hb⟩
   simp [Builtin.append_, run_underlying ht, sizeOf, typeInfo, hi, Builtin.lenOf, Builtin.firstCells, hc1, storeCells]
  ·by_cases hroom : lx + ly ≤ cap
   ·-- in place
    have hfit1 : (lx + ly) * n ≤ cap * n := Nat.mul_le_mul_right _ hroom
    rw [Nat.add_mul] at hfit1
    have hfit : o + lx * n + ys.length ≤ cur.size := by rw [hy]; omega
    have hf := run_firstCells_some (P := P) w i.size ly a ly c ys (by rw [hy, hsz]) hrd
    have hst := run_storeCells_thaw P b (o + lx * n) e fz ys 0 cur w hc3 hc5 (by simpa using hfit) hone
    simp only [Nat.add_zero] at hst
    rw [hsz] at hf
    refine ⟨.slice (some ⟨b, o, none⟩) (lx + ly) cap, w.setRow b (cur.toList.take (o + lx * n) ++ ys ++ cur.toList.drop (o + lx * n + ys.length)).toArray, ?_, ⟨rfl, rfl, rfl, by simp⟩, ⟨hxy, .inr ⟨b, o, cap, _, fz, rfl, hroom, hc2, setRow_heap w b _ _ e fz hc3, ?_, ?_, ?_⟩⟩, fun b' hb hne => setRow_other w b b' _ (fun e => hne (by simp [rowMine, e])), fun b' hb => .inl hb⟩
    ·simp [Builtin.append_, run_underlying ht, sizeOf, typeInfo, hi, hsz, Builtin.lenOf, hroom, hf, add_plain, hst]
    ·simp only [List.size_toArray, List.length_append, List.length_take, List.length_drop, Array.length_toList]; omega
    ·have : (cur.toList.take (o + lx * n) ++ ys ++ cur.toList.drop (o + lx * n + ys.length)).toArray.size = cur.size := by
      simp only [List.size_toArray, List.length_append, List.length_take, List.length_drop, Array.length_toList]; omega
     rw [this]; exact hc5
    ·have e1 : (cur.toList.take (o + lx * n) ++ ys ++ cur.toList.drop (o + lx * n + ys.length)).drop o = xs ++ ys ++ cur.toList.drop (o + lx * n + ys.length) := by
      have h2 : cur.toList.take (o + lx * n) = cur.toList.take o ++ xs := by rw [← hc6, List.take_add]
      rw [h2, List.append_assoc, List.append_assoc, List.drop_left' (by rw [List.length_take, Array.length_toList]; omega), ← List.append_assoc]
     show ((cur.toList.take (o + lx * n) ++ ys ++ cur.toList.drop (o + lx * n + ys.length)).drop o).take ((lx + ly) * n) = xs ++ ys
     rw [e1]; exact taken _
   ·have hr := run_append_grow (P := P) w t ty e i z ht hi hz ⟨b, o, none⟩ lx cap xs (by rw [hx, hsz]) holds a ly c ys (by rw [hy, hsz]) hrd (by omega) (by omega) (growslice_fits (by omega) hbytes)
    have hg := grown cap (by omega) (xs.toArray ++ ys.toArray ++ Builtin.zeroCells z.cells (grownCap w (lx + ly) cap e - (lx + ly))) (by
     have := szg cap
     simp only [Array.size_append, List.size_toArray, size_zeroCells, hzs, List.length_append] at this ⊢
     exact this) (by
     have := taken (Builtin.zeroCells z.cells (grownCap w (lx + ly) cap e - (lx + ly))).toList
     simpa [List.append_assoc] using this)
    exact ⟨_, _, hr, ⟨rfl, rfl, rfl, by simp⟩, hg, fun b hb _ => heap_alloc_old w.drew _ b hb, fun b' hb => .inr (by simpa [rowMine] using hb)⟩
def OwnV (w : World) (v : Value) (t : TypeId) (ls : List Lf) (xs : List (LT ls)) : Prop := OwnC w v t ls.length xs.length (flat ls xs)
theorem OwnV.sat {w : World} {v : Value} {t : TypeId} {ls : List Lf} {xs : List (LT ls)} (h : OwnV w v t ls xs) : RowSat w v true t ls xs := by
 rcases h.2 with ⟨h1, h2⟩ | ⟨b, o, cap, cur, fz, e, h1, h2, h3, h4, h5, h6⟩
 ·exact .inl ⟨h1, List.length_eq_zero_iff.1 h2⟩
 ·exact .inr ⟨_, cap, e, h1, (fun h => by cases h), fun _ => ⟨rfl, h2, cur, fz, h3, h4, h5, h6⟩⟩
theorem run_append_any {P : Program} (w : World) {t e : TypeId} {i : TypeInfo} {z : Value} {ls : List Lf} (ht : P.underlying t = some (.slice e)) (hi : P.info? e = some i) (hz : i.zero = some z) (hsz : i.size = ls.length) (hzs : z.cells.size = ls.length) (hby : i.bytes ≤ 65536) (ty : TypeId)
  {v u : Value} {xs ys : List (LT ls)} (hv : OwnV w v e ls xs) (hu : Reads w u ls ys) (hlen : xs.length + ys.length ≤ 1073741824) :
  ∃ v' w', (Builtin.append_ #[t, t] ty #[v, u]).run P w = .ok v' w' ∧ Ext w w' ∧ OwnV w' v' e ls (xs ++ ys) ∧
   (∀ b, b < w.heap.size → b ∉ rowMine true v → w'.heap[b]? = w.heap[b]?) ∧
   (∀ b ∈ rowMine true v', b ∈ rowMine true v ∨ b = w.heap.size) := by
 obtain ⟨v', w', h1, h2, h3, h4, h5⟩ := run_append_cells w ht hi hz hsz hzs hby ty hv (u := u) (ly := ys.length) (ys := flat ls ys) ⟨flat_length ls ys, by
  rcases hu with ⟨e, rfl⟩ | ⟨a, c, e, hc, hr⟩
  ·exact .inl ⟨e, rfl⟩
  ·exact .inr ⟨a, c, e, hc, hr⟩⟩ (flat_one ls ys) hlen
 refine ⟨v', w', h1, h2, ?_, h4, h5⟩
 unfold OwnV
 rw [List.length_append, flat_append]
 exact h3
end Go.Aq
end
section
namespace Go.Aq
open Go.RowKit (Below)
set_option linter.unusedVariables false
structure Free (S : Bl) (w0 w : World) (ν : Nat → Value) (st : St) (Av : Nat → Prop) (F : List Nat) : Prop where
 nodup : F.Nodup
 mine : ∀ b ∈ F, S b ∨ w0.heap.size ≤ b
 apart : ∀ b ∈ F, ∀ j o, lkp j st.H = some o → b ∉ mineL ν j o ∧ b ∉ seenL ν j o
 av : ∀ b, Av b → (w0.heap.size ≤ b ∨ S b ∨ S.frz b) ∧ b ∉ F ∧ b < w.heap.size ∧ ∀ j o, lkp j st.H = some o → b ∉ mineL ν j o
def Gam (γ : List Nat) (n : Nat) (α : Nat → Value) (ν : Nat → Value) (nx : Nat) : Prop := n = γ.length ∧ ∀ k, k < n → nth γ k < nx ∧ αOf ν γ k = α k
theorem Gam.mono {γ : List Nat} {n : Nat} {α ν ν' : Nat → Value} {nx nx' : Nat} (h : Gam γ n α ν nx) (hx : nx ≤ nx') (hv : ∀ j, j < nx → ν j = ν' j) : Gam γ n α ν' nx' :=
 ⟨h.1, fun k hk => ⟨Nat.lt_of_lt_of_le (h.2 k hk).1 hx, by rw [← (h.2 k hk).2]; simp only [αOf, den]; rw [hv _ (h.2 k hk).1]⟩⟩
theorem pinV_den {γ : List Nat} {n : Nat} {α ν : Nat → Value} {nx : Nat} (h : Gam γ n α ν nx) {p : Pin} (hp : p.lt n = true) : den ν (pinV γ p) = pinD α p ∧ svLt nx (pinV γ p) = true := by
 cases p with
 | ref k =>
  obtain ⟨h1, h2⟩ := h.2 k (Nat.le_of_ble_eq_true hp)
  refine ⟨h2, ?_⟩
  ·simp only [pinV, svLt]; exact Nat.ble_eq_true_of_le h1
 | nil => exact ⟨by simp only [pinV, den, pinD], rfl⟩
theorem pinsV_den {γ : List Nat} {n : Nat} {α ν : Nat → Value} {nx : Nat} (h : Gam γ n α ν nx) : ∀ {ps : List Pin}, ps.all (Pin.lt n) = true → denL ν (ps.map (pinV γ)) = ps.map (pinD α) ∧ belowL nx (ps.map (pinV γ)) = true
 | [], _ => ⟨rfl, rfl⟩
 | p :: ps, hp => by
  simp only [List.all_cons, Bool.and_eq_true] at hp
  obtain ⟨a, b⟩ := pinV_den h hp.1
  obtain ⟨c, d⟩ := pinsV_den h hp.2
  exact ⟨by simp only [List.map_cons, denL, a, c], by simp only [List.map_cons, belowL, b, d, Bool.and_self]⟩
theorem ltNs_of {n : Nat} : ∀ {js : List Nat}, (∀ k, k < js.length → nth js k < n) → ltNs n js = true
 | [], _ => rfl
 | j :: js, h => by
  simp only [ltNs, Bool.and_eq_true]
  exact ⟨Nat.ble_eq_true_of_le (h 0 (by simp)), ltNs_of fun k hk => h (k + 1) (by simpa using hk)⟩
theorem Gam.lt {γ : List Nat} {n : Nat} {α ν : Nat → Value} {nx : Nat} (h : Gam γ n α ν nx) : ltNs nx γ = true := ltNs_of fun k hk => (h.2 k (by rw [h.1]; exact hk)).1
theorem Gam.alpha {γ : List Nat} {n : Nat} {α ν : Nat → Value} {nx : Nat} (h : Gam γ n α ν nx) : ∀ k, k < n → α k = αOf ν γ k := by
 intro k hk
 exact (h.2 k hk).2.symm
def Given (S : Bl) (w0 : World) (w : World) (ν : Nat → Value) (st : St) (Av : Nat → Prop) (F : List Nat) (os : List HO) (ν' : Nat → Value) : Prop :=
 RelW S w0 ν' (st.adds os) w ∧ (∀ j, j < st.nx → ν j = ν' j) ∧
  (∀ j o b, lkp j (st.adds os).H = some o → (b ∈ mineL ν' j o → (∃ o', lkp j st.H = some o' ∧ b ∈ mineL ν j o') ∨ b ∈ F) ∧ (b ∈ seenL ν' j o → (∃ o', lkp j st.H = some o' ∧ b ∈ seenL ν j o') ∨ Av b))
theorem Given.refl {S : Bl} {w0 w : World} {ν : Nat → Value} {st : St} (hR : RelW S w0 ν st w) (Av : Nat → Prop) (F : List Nat) : Given S w0 w ν st Av F [] ν := ⟨hR, fun _ _ => rfl, fun j o b hj => ⟨fun hb => .inl ⟨o, hj, hb⟩, fun hb => .inl ⟨o, hj, hb⟩⟩⟩
theorem Given.trans {S : Bl} {w0 w : World} {ν ν1 ν2 : Nat → Value} {st : St} {Av : Nat → Prop} {F1 F2 : List Nat} {o1 o2 : List HO} (h : Given S w0 w ν st Av F1 o1 ν1) (k : Given S w0 w ν1 (st.adds o1) Av F2 o2 ν2) : Given S w0 w ν st Av (F1 ++ F2) (o1 ++ o2) ν2 := by
 refine ⟨by rw [adds_append]; exact k.1, fun j hj => (h.2.1 j hj).trans (k.2.1 j (by rw [adds_nx]; omega)), ?_⟩
 intro j o b hj
 rw [adds_append] at hj
 refine ⟨fun hb => ?_, fun hb => ?_⟩
 ·rcases (k.2.2 j o b hj).1 hb with ⟨o', ho', hm⟩ | hm
  ·rcases (h.2.2 j o' b ho').1 hm with h | h
   ·exact .inl h
   ·exact .inr (by simp [h])
  ·exact .inr (by simp [hm])
 ·rcases (k.2.2 j o b hj).2 hb with ⟨o', ho', hm⟩ | hm
  ·exact (h.2.2 j o' b ho').2 hm
  ·exact .inr hm
theorem Free.left {S : Bl} {w0 w : World} {ν : Nat → Value} {st : St} {Av : Nat → Prop} {F1 F2 : List Nat} (h : Free S w0 w ν st Av (F1 ++ F2)) : Free S w0 w ν st Av F1 :=
 ⟨(List.nodup_append.1 h.nodup).1, fun b hb => h.mine b (by simp [hb]), fun b hb => h.apart b (by simp [hb]), fun b hb => ⟨(h.av b hb).1, fun hb' => (h.av b hb).2.1 (by simp [hb']), (h.av b hb).2.2⟩⟩
theorem Free.right {S : Bl} {w0 w : World} {ν ν1 : Nat → Value} {st : St} {Av : Nat → Prop} {F1 F2 : List Nat} {o1 : List HO} (h : Free S w0 w ν st Av (F1 ++ F2)) (g : Given S w0 w ν st Av F1 o1 ν1) : Free S w0 w ν1 (st.adds o1) Av F2 := by
 have hnd := List.nodup_append.1 h.nodup
 refine ⟨hnd.2.1, fun b hb => h.mine b (by simp [hb]), fun b hb j o hj => ⟨fun hb' => ?_, fun hb' => ?_⟩, fun b hb => ⟨(h.av b hb).1, fun hb' => (h.av b hb).2.1 (by simp [hb']), (h.av b hb).2.2.1, fun j o hj hb' => ?_⟩⟩
 ·rcases (g.2.2 j o b hj).1 hb' with ⟨o', ho', hm⟩ | hm
  ·exact (h.apart b (by simp [hb]) j o' ho').1 hm
  ·exact hnd.2.2 b hm b hb rfl
 ·rcases (g.2.2 j o b hj).2 hb' with ⟨o', ho', hm⟩ | hm
  ·exact (h.apart b (by simp [hb]) j o' ho').2 hm
  ·exact (h.av b hm).2.1 (by simp [hb])
 ·rcases (g.2.2 j o b hj).1 hb' with ⟨o', ho', hm⟩ | hm
  ·exact (h.av b hb).2.2.2 j o' ho' hm
  ·exact (h.av b hb).2.1 (by simp [hm])
theorem Given.one {S : Bl} {w0 w : World} {ν : Nat → Value} {st : St} {Av : Nat → Prop} {F : List Nat} (hR : RelW S w0 ν st w) (hF : Free S w0 w ν st Av F) (v : Value) (o : HO) (ho : hoLt (Nat.succ st.nx) o = true) (hs : hoSat (upd ν st.nx v) w st.nx o)
  (hm : mineL (upd ν st.nx v) st.nx o = F) (hn : ∀ b ∈ seenL (upd ν st.nx v) st.nx o, Av b) : Given S w0 w ν st Av F [o] (upd ν st.nx v) := by
 have hR' : RelW S w0 (upd ν st.nx v) (st.add o) w := by
  refine hR.new ⟨rfl, rfl, rfl, Nat.le_refl _⟩ v o st.H st.dirty (fun _ _ h => h) (fun _ _ _ _ _ => rfl) (fun _ _ _ => rfl) ho hs (by rw [hm]; exact hF.nodup) ?_ ?_ ?_
  ·intro j o' b hj hb
   rw [hm] at hb
   exact hF.apart b hb j o' hj
  ·intro b hb
   rw [hm] at hb
   exact hF.mine b hb
  ·intro b hb
   have := hF.av b (hn b hb)
   exact ⟨this.1, this.2.2.2, by rw [hm]; exact this.2.1⟩
 refine ⟨hR', fun j hj => upd_old hj, ?_⟩
 intro j q b hj
 have hj' : lkp j ((st.nx, o) :: st.H) = some q := hj
 clear hj
 rw [lkp_cons] at hj'
 by_cases e : st.nx = j
 ·rw [if_pos e] at hj'
  subst e
  cases hj'
  exact ⟨fun hb => .inr (by rw [← hm]; exact hb), fun hb => .inr (hn b hb)⟩
 ·rw [if_neg e] at hj'
  have hl := hR.lt j q hj'
  rw [← mineL_congr (ν := ν) (fun i hi => upd_old hi) hl.1 hl.2, ← seenL_congr (ν := ν) (fun i hi => upd_old hi) hl.1 hl.2]
  exact ⟨fun hb => .inl ⟨q, hj', hb⟩, fun hb => .inl ⟨q, hj', hb⟩⟩
theorem Given.ghost {S : Bl} {w0 w : World} {ν : Nat → Value} {st : St} (hR : RelW S w0 ν st w) (Av : Nat → Prop) (v : Value) : Given S w0 w ν st Av [] [.ghost] (upd ν st.nx v) := by
 have hR' : RelW S w0 (upd ν st.nx v) (st.add .ghost) w :=
  hR.new ⟨rfl, rfl, rfl, Nat.le_refl _⟩ v .ghost st.H st.dirty (fun _ _ h => h) (fun _ _ _ _ _ => rfl) (fun _ _ _ => rfl) rfl trivial List.nodup_nil (fun j o' b hj hb => (by cases hb)) (fun b hb => (by cases hb)) (fun b hb => (by cases hb))
 refine ⟨hR', fun j hj => upd_old hj, ?_⟩
 intro j q b hj
 have hj' : lkp j ((st.nx, .ghost) :: st.H) = some q := hj
 clear hj
 rw [lkp_cons] at hj'
 by_cases e : st.nx = j
 ·rw [if_pos e] at hj'
  cases hj'
  exact ⟨fun hb => (by cases hb), fun hb => (by cases hb)⟩
 ·rw [if_neg e] at hj'
  have hl := hR.lt j q hj'
  rw [← mineL_congr (ν := ν) (fun i hi => upd_old hi) hl.1 hl.2, ← seenL_congr (ν := ν) (fun i hi => upd_old hi) hl.1 hl.2]
  exact ⟨fun hb => .inl ⟨q, hj', hb⟩, fun hb => .inl ⟨q, hj', hb⟩⟩
mutual
theorem Sh.lt_mono {m n : Nat} (h : m ≤ n) : ∀ s : Sh, s.lt m = true → s.lt n = true
 | .leaf _, _ => rfl
 | .row _ _ _, _ => rfl
 | .map _ _ _ _ _, _ => rfl
 | .tab _ _ f, hl => Shs.lt_mono h f hl
 | .box _ f, hl => Shs.lt_mono h f hl
 | .agg f, hl => Shs.lt_mono h f hl
theorem Shs.lt_mono {m n : Nat} (h : m ≤ n) : ∀ f : Shs, f.lt m = true → f.lt n = true
 | .one s ps, hl => by
  simp only [Shs.lt, Bool.and_eq_true] at *
  exact ⟨Sh.lt_mono h s hl.1, List.all_eq_true.2 fun p hp => by
   have := List.all_eq_true.1 hl.2 p hp
   cases p with
   | ref k => exact blt_mono h this
   | nil => rfl⟩
 | .cons s r, hl => by
  simp only [Shs.lt, Bool.and_eq_true] at *
  exact ⟨Sh.lt_mono h s hl.1, Shs.lt_mono h r hl.2⟩
 | .pin p r, hl => by
  simp only [Shs.lt, Bool.and_eq_true] at *
  refine ⟨?_, Shs.lt_mono h r hl.2⟩
  cases p with
  | ref k => exact blt_mono h hl.1
  | nil => rfl
 | .pins ps, hl => List.all_eq_true.2 fun p hp => by
   have := List.all_eq_true.1 hl p hp
   cases p with
   | ref k => exact blt_mono h this
   | nil => rfl
end
section
variable {S : Bl} {w0 : World} {w : World} {α : Nat → Value} {Av : Nat → Prop} {γ : List Nat} {n : Nat}
mutual
theorem giveS_sound : ∀ (s : Sh) (x : s.T) (vs : List Value) (F : List Nat) (ν : Nat → Value) (st : St), RelW S w0 ν st w → repS w α Av s x vs F → Free S w0 w ν st Av F → Gam γ n α ν st.nx → s.lt n = true →
  ∃ ν', Given S w0 w ν st Av F (giveS γ s x st.nx).2 ν' ∧ denL ν' (giveS γ s x st.nx).1 = vs ∧ belowL (st.nx + (giveS γ s x st.nx).2.length) (giveS γ s x st.nx).1 = true
 | .leaf l, x, vs, F, ν, st, hR, hr, hF, hG, hl => by
  obtain ⟨rfl, rfl⟩ := hr
  refine ⟨ν, Given.refl hR _ _, ?_, ?_⟩
  ·show denL ν [l.enc x] = _
   simp only [denL]
   rw [den_congr (n := 0) (ν := ν) (ν' := ν0) (fun j hj => absurd hj (Nat.not_lt_zero j)) _ (lf_enc_lt 0 l x)]
  ·exact Bool.and_eq_true_iff.2 ⟨lf_enc_lt _ l x, rfl⟩
 | .row own t ls, xs, vs, F, ν, st, hR, hr, hF, hG, hl => by
  obtain ⟨v, rfl, hls, hsat, rfl, hav⟩ := hr
  refine ⟨_, Given.one hR hF v (.row own t ls xs) rfl ⟨hls, by rw [upd_new]; exact hsat⟩ (by simp [mineL, upd_new]) (fun b hb => hav b (by simpa [seenL, upd_new] using hb)), ?_, ?_⟩
  ·show denL _ [.osl st.nx] = _
   simp only [denL, den, upd_new]
   rw [(hsat.rowVal hls).hdr]
  ·show belowL _ [.osl st.nx] = true
   simp [belowL, svLt, giveS]
 | .map t ka va kl vl, es, vs, F, ν, st, hR, hr, hF, hG, hl => by
  obtain ⟨b, rfl, hsat, rfl⟩ := hr
  refine ⟨_, Given.one hR hF (.map (some b)) (.map t ka va kl vl es) rfl ⟨b, upd_new, hsat⟩ (by simp [mineL, upd_new, blk]) (fun b hb => by cases hb), ?_, ?_⟩
  ·show denL _ [.mp st.nx] = _
   simp only [denL, den, upd_new]
   rfl
  ·show belowL _ [.mp st.nx] = true
   simp [belowL, svLt, giveS]
 | .tab own t f, xs, vs, F, ν, st, hR, hr, hF, hG, hl => by
  obtain ⟨G, hGa, hr⟩ := repS_list (.tab own t f) xs vs F hr
  obtain ⟨v, us, F0, F1, rfl, hF01, hsz, hcol, helt⟩ := hr
  have g1 := Given.ghost hR Av (mkG F G)
  have hF2 : Free S w0 w (upd ν st.nx (mkG F G)) (st.adds [.ghost]) Av F := Free.right (F1 := []) hF g1
  have hnx : (st.adds [.ghost]).nx = Nat.succ st.nx := rfl
  have hp : upd (upd ν st.nx (mkG F G)) (Nat.succ st.nx) v st.nx = mkG F G := by simp [upd]
  have hlt : f.lt γ.length = true := by rw [← hG.1]; exact hl
  have hG2 := hG.mono (ν' := upd (upd ν st.nx (mkG F G)) (Nat.succ st.nx) v) (Nat.le_refl _) (fun j hj => by rw [← upd_old (by omega), ← upd_old hj])
  have hgo : f.lt (gOf γ f).length = true ∧ ltNs (Nat.succ (Nat.succ st.nx)) (gOf γ f) = true ∧ repS w (αOf (upd (upd ν st.nx (mkG F G)) (Nat.succ st.nx) v) (gOf γ f)) (· ∈ G) (.tab own t f) xs [v] F := by
   unfold gOf
   split
   ·rename_i h0
    exact ⟨h0, rfl, repS_alpha (n := 0) (fun k hk => absurd hk (Nat.not_lt_zero k)) (.tab own t f) xs _ _ h0 ⟨v, us, F0, F1, rfl, hF01, hsz, hcol, helt⟩⟩
   ·exact ⟨hlt, ltNs_mono (by show st.nx ≤ Nat.succ (Nat.succ st.nx); omega) γ hG.lt, repS_alpha (n := n) hG2.alpha (.tab own t f) xs _ _ hl ⟨v, us, F0, F1, rfl, hF01, hsz, hcol, helt⟩⟩
  have g2 := Given.one g1.1 hF2 v (.tab own t (gOf γ f) st.nx f xs) (by
    simp only [hoLt, Bool.and_eq_true]
    exact ⟨Nat.ble_eq_true_of_le (by show st.nx + 1 ≤ Nat.succ (Nat.succ st.nx); omega), hgo.2.1⟩) (by
    show f.lt (gOf γ f).length = true ∧ (∀ b ∈ ghG (upd (upd ν st.nx (mkG F G)) (Nat.succ st.nx) v st.nx), b < w.heap.size) ∧ repS w (αOf (upd (upd ν st.nx (mkG F G)) (Nat.succ st.nx) v) (gOf γ f)) (· ∈ ghG (upd (upd ν st.nx (mkG F G)) (Nat.succ st.nx) v st.nx)) (.tab own t f) xs [upd (upd ν st.nx (mkG F G)) (Nat.succ st.nx) v (Nat.succ st.nx)] (ghF (upd (upd ν st.nx (mkG F G)) (Nat.succ st.nx) v st.nx))
    rw [hp, ghF_mk, ghG_mk, upd_new]
    exact ⟨hgo.1, fun b hb => (hF.av b (hGa b hb)).2.2.1, hgo.2.2⟩)
   (by show ghF (upd (upd ν st.nx (mkG F G)) (Nat.succ st.nx) v st.nx) = F; rw [hp, ghF_mk])
   (by
    show ∀ b ∈ ghG (upd (upd ν st.nx (mkG F G)) (Nat.succ st.nx) v st.nx), Av b
    rw [hp, ghG_mk]; exact hGa)
  refine ⟨_, g1.trans g2, ?_, ?_⟩
  ·show denL (upd (upd ν st.nx (mkG F G)) (Nat.succ st.nx) v) [.osl (Nat.succ st.nx)] = _
   simp only [denL, den, upd_new, hcol.hdr]
  ·show belowL (st.nx + 2) [.osl (Nat.succ st.nx)] = true
   simp [belowL, svLt]
 | .box t f, x, vs, F, ν, st, hR, hr, hF, hG, hl => by
  obtain ⟨b, cs, F', rfl, hc, hrep, rfl⟩ := hr
  obtain ⟨ν1, g1, h2, h3⟩ := giveF_sound f x cs F' ν st hR hrep hF.left hG hl
  have hF2 := hF.right g1
  have hnx : (st.adds (giveF γ f x st.nx).2).nx = st.nx + (giveF γ f x st.nx).2.length := adds_nx _ _
  have hold : ∀ j, j < (st.adds (giveF γ f x st.nx).2).nx → ν1 j = upd ν1 (st.adds (giveF γ f x st.nx).2).nx (.pointer (some ⟨b, 0, none⟩)) j := fun j hj => upd_old hj
  have g2 := Given.one g1.1 hF2 (.pointer (some ⟨b, 0, none⟩)) (.cells t (giveF γ f x st.nx).1) (by
    simp only [hoLt, hnx]
    exact belowL_mono (Nat.le_succ _) _ h3) ⟨b, upd_new, by
     rw [← denL_congr hold _ (by rw [hnx]; exact h3), h2]; exact hc⟩ (by simp [mineL, upd_new, blk]) (fun b hb => by cases hb)
  refine ⟨_, g1.trans g2, ?_, ?_⟩
  ·show denL _ [.ptr (st.nx + (giveF γ f x st.nx).2.length) 0] = _
   rw [← hnx]
   simp only [denL, den, upd_new]
   rfl
  ·show belowL (st.nx + ((giveF γ f x st.nx).2 ++ [HO.cells t (giveF γ f x st.nx).1]).length) [.ptr (st.nx + (giveF γ f x st.nx).2.length) 0] = true
   simp [belowL, svLt]
 | .agg f, x, vs, F, ν, st, hR, hr, hF, hG, hl => giveF_sound f x vs F ν st hR hr hF hG hl
theorem giveF_sound : ∀ (f : Shs) (x : f.T) (vs : List Value) (F : List Nat) (ν : Nat → Value) (st : St), RelW S w0 ν st w → repF w α Av f x vs F → Free S w0 w ν st Av F → Gam γ n α ν st.nx → f.lt n = true →
  ∃ ν', Given S w0 w ν st Av F (giveF γ f x st.nx).2 ν' ∧ denL ν' (giveF γ f x st.nx).1 = vs ∧ belowL (st.nx + (giveF γ f x st.nx).2.length) (giveF γ f x st.nx).1 = true
 | .one s ps, x, vs, F, ν, st, hR, hr, hF, hG, hl => by
  obtain ⟨us, rfl, hr⟩ := hr
  simp only [Shs.lt, Bool.and_eq_true] at hl
  obtain ⟨ν', g, h2, h3⟩ := giveS_sound s x us F ν st hR hr hF hG hl.1
  have hG' := hG.mono (nx' := st.nx + (giveS γ s x st.nx).2.length) (by omega) g.2.1
  obtain ⟨p1, p2⟩ := pinsV_den hG' hl.2
  refine ⟨ν', g, ?_, ?_⟩
  ·show denL ν' (_ ++ _) = _
   rw [denL_append, h2, p1]
  ·exact belowL_append h3 p2
 | .cons s r, x, vs, F, ν, st, hR, hr, hF, hG, hl => by
  obtain ⟨vs1, vs2, F1, F2, rfl, rfl, h1, h2⟩ := hr
  simp only [Shs.lt, Bool.and_eq_true] at hl
  obtain ⟨ν1, g1, a3, a4⟩ := giveS_sound s x.1 vs1 F1 ν st hR h1 hF.left hG hl.1
  have hG1 : Gam γ n α ν1 (st.adds (giveS γ s x.1 st.nx).2).nx := hG.mono (by rw [adds_nx]; omega) g1.2.1
  obtain ⟨ν2, g2, b3, b4⟩ := giveF_sound r x.2 vs2 F2 ν1 _ g1.1 h2 (hF.right g1) hG1 hl.2
  have g := g1.trans g2
  rw [adds_nx] at b3 b4 g
  refine ⟨ν2, g, ?_, ?_⟩
  ·show denL ν2 (_ ++ _) = _
   have b2 := g2.2.1
   rw [adds_nx] at b2
   rw [denL_append, b3, ← denL_congr b2 _ a4, a3]
  ·show belowL (_ + (_ ++ _ : List HO).length) (_ ++ _) = true
   rw [List.length_append, ← Nat.add_assoc]
   exact belowL_append (belowL_mono (by omega) _ a4) b4
 | .pin p r, x, vs, F, ν, st, hR, hr, hF, hG, hl => by
  obtain ⟨us, rfl, hr⟩ := hr
  simp only [Shs.lt, Bool.and_eq_true] at hl
  obtain ⟨ν', g, h2, h3⟩ := giveF_sound r x us F ν st hR hr hF hG hl.2
  have hG' := hG.mono (nx' := st.nx + (giveF γ r x st.nx).2.length) (by omega) g.2.1
  obtain ⟨p1, p2⟩ := pinV_den hG' hl.1
  exact ⟨ν', g, by simp only [giveF, denL, p1, h2], by simp only [giveF, belowL, p2, Bool.true_and]; exact h3⟩
 | .pins ps, x, vs, F, ν, st, hR, hr, hF, hG, hl => by
  obtain ⟨rfl, rfl⟩ := hr
  obtain ⟨p1, p2⟩ := pinsV_den hG hl
  exact ⟨ν, Given.refl hR _ _, p1, p2⟩
end
end
theorem castL_of {ls ls' : List Lf} {xs : List (LT ls)} {ys : List (LT ls')} (h : castL ls ls' xs = some ys) : ∃ e : ls = ls', ys = e ▸ xs := by
 unfold castL at h
 split at h
 ·rename_i e; cases h; exact ⟨e, rfl⟩
 ·cases h
theorem castM_of {kl vl kl' vl' : List Lf} {es : List (LT kl × LT vl)} {es' : List (LT kl' × LT vl')} (h : castM kl vl kl' vl' es = some es') : ∃ (a : kl = kl') (b : vl = vl'), es' = a ▸ b ▸ es := by
 unfold castM at h
 split at h
 ·split at h
  ·cases h; exact ⟨by assumption, by assumption, rfl⟩
  ·cases h
 ·cases h
theorem castT_of {f f' : Shs} {xs : List f.T} {xs' : List f'.T} (h : castT f f' xs = some xs') : ∃ e : f = f', xs' = e ▸ xs := by
 unfold castT at h
 split at h
 ·rename_i hb
  cases h
  exact ⟨Shs.beq_eq hb, rfl⟩
 ·cases h
theorem eqNs_eq : ∀ {a b : List Nat}, eqNs a b = true → a = b
 | [], [], _ => rfl
 | i :: is, j :: js, h => by
  simp only [eqNs, Bool.and_eq_true] at h
  rw [Nat.eq_of_beq_eq_true h.1, eqNs_eq h.2]
 | [], _ :: _, h => by cases h
 | _ :: _, [], h => by cases h
theorem Reads.sat {w : World} {v : Value} {ls : List Lf} {xs : List (LT ls)} (h : Reads w v ls xs) (t : TypeId) : RowSat w v false t ls xs := by
 rcases h with h | ⟨a, cap, e, hl, hc⟩
 ·exact .inl h
 ·refine .inr ⟨a, cap, e, hl, fun _ => ⟨hc, fun hx hls => ?_⟩, fun h => by cases h⟩
  have hp : 0 < (flat ls xs).length := by
   rw [flat_length]
   exact Nat.mul_pos (List.length_pos_iff.2 hx) (List.length_pos_iff.2 hls)
  have := hc 0 _ (List.getElem?_eq_getElem hp)
  rw [show a.add 0 = a from rfl] at this
  unfold World.cell? at this
  split at this
  ·split at this
   ·cases this
   ·rename_i h; simpa using h
  ·cases this
theorem reads_on {w : World} {v : Value} {ls : List Lf} {xs : List (LT ls)} {C : Nat → Prop} (hls : ls ≠ []) (h : ∀ w', (∀ b, b < w.heap.size → C b → w'.heap[b]? = w.heap[b]?) → Reads w' v ls xs) :
  ∀ b ∈ rowSeen false xs v, C b := by
 intro b hb
 cases xs with
 | nil => simp [rowSeen] at hb
 | cons x xs =>
  apply Classical.byContradiction
  intro hc
  have hr := h { w with heap := w.heap.setIfInBounds b (.cells #[] 0 (0, 0)) } (fun b' hb' hc' => by
   have : b ≠ b' := fun e => hc (e ▸ hc')
   simp [this])
  rcases hr with ⟨e, hx⟩ | ⟨a, cap, e, hl, hcell⟩
  ·cases hx
  ·rw [e] at hb
   simp only [rowSeen, List.mem_singleton] at hb
   subst hb
   have hp : 0 < (flat ls (x :: xs)).length := by
    rw [flat_length]
    exact Nat.mul_pos (by simp) (List.length_pos_iff.2 hls)
   have := hcell 0 _ (List.getElem?_eq_getElem hp)
   rw [show a.add 0 = a from rfl] at this
   unfold World.cell? at this
   split at this
   ·rename_i cs t' fz hcs
    have hcs' : (w.heap.setIfInBounds a.block (.cells #[] 0 (0, 0)))[a.block]? = some (.cells cs t' fz) := by assumption
    by_cases hin : a.block < w.heap.size
    ·simp [hin] at hcs'
     obtain ⟨rfl, _⟩ := hcs'
     simp at this
    ·simp [hin] at hcs'
   ·cases this
mutual
theorem tabOk_S {w : World} {α : Nat → Value} {Av : Nat → Prop} : ∀ (s : Sh), s.tabOk = true → s.lt 0 = true ∧ ∀ (x : s.T) (vs : List Value) (F : List Nat), repS w α Av s x vs F → F = []
 | .leaf _, _ => ⟨rfl, fun _ _ _ h => h.2⟩
 | .row own t ls, hs => ⟨rfl, fun x vs F h => by
   obtain ⟨v, _, _, _, hF, _⟩ := h
   cases own with
   | true => simp [Sh.tabOk] at hs
   | false => rw [hF]; rfl⟩
 | .map _ _ _ _ _, hs => by simp [Sh.tabOk] at hs
 | .tab own t f, hs => by
  simp only [Sh.tabOk, Bool.and_eq_true, Bool.not_eq_true'] at hs
  obtain ⟨⟨h0, h1⟩, _⟩ := hs
  obtain ⟨a, b⟩ := tabOk_F f h1
  refine ⟨a, fun x vs F h => ?_⟩
  obtain ⟨v, us, F0, F1, _, rfl, _, hc, he⟩ := h
  subst h0
  have e1 : F1 = [] := List.eq_nil_iff_forall_not_mem.2 fun c hc => he.mem (Q := fun _ => False) (fun x v F hr c hc => by rw [b x v F hr] at hc; cases hc) c hc
  rcases hc with ⟨_, _, _, e0⟩ | ⟨ad, cap, _, _, h2, _⟩
  ·rw [e0, e1]; rfl
  ·rw [(h2 rfl).1, e1]; rfl
 | .box _ _, hs => by simp [Sh.tabOk] at hs
 | .agg f, hs => tabOk_F f hs
theorem tabOk_F {w : World} {α : Nat → Value} {Av : Nat → Prop} : ∀ (f : Shs), f.tabOk = true → f.lt 0 = true ∧ ∀ (x : f.T) (vs : List Value) (F : List Nat), repF w α Av f x vs F → F = []
 | .one s ps, hs => by
  simp only [Shs.tabOk, Bool.and_eq_true, List.isEmpty_iff] at hs
  obtain ⟨a, b⟩ := tabOk_S (w := w) (α := α) (Av := Av) s hs.1
  refine ⟨by simp only [Shs.lt, a, hs.2, List.all_nil, Bool.and_self], fun x vs F h => ?_⟩
  obtain ⟨us, _, h⟩ := h
  exact b x us F h
 | .cons s r, hs => by
  simp only [Shs.tabOk, Bool.and_eq_true] at hs
  obtain ⟨a, b⟩ := tabOk_S (w := w) (α := α) (Av := Av) s hs.1
  obtain ⟨c, d⟩ := tabOk_F (w := w) (α := α) (Av := Av) r hs.2
  refine ⟨by simp only [Shs.lt, a, c, Bool.and_self], fun x vs F h => ?_⟩
  obtain ⟨_, _, F1, F2, _, rfl, h1, h2⟩ := h
  rw [b x.1 _ F1 h1, d x.2 _ F2 h2]; rfl
 | .pin _ _, hs => by simp [Shs.tabOk] at hs
 | .pins _, hs => by simp [Shs.tabOk] at hs
end
section
variable {β : Type} {S : Bl} {w0 : World} {ν : Nat → Value} {st : St} {w : World}
def Taken (ν : Nat → Value) (H H' : Heap) (F : List Nat) : Prop :=
 (∀ j o, lkp j H' = some o → lkp j H = some o) ∧ F.Nodup ∧ ∀ b ∈ F, ∃ j o, lkp j H = some o ∧ lkp j H' = none ∧ b ∈ mineL ν j o
theorem Taken.refl (ν : Nat → Value) (H : Heap) : Taken ν H H [] := ⟨fun _ _ h => h, List.nodup_nil, fun b hb => by cases hb⟩
theorem Taken.one {H : Heap} (hR : RelW S w0 ν st w) (hs : ∀ j o, lkp j H = some o → lkp j st.H = some o) {j : Nat} {o : HO} (hj : lkp j H = some o) : Taken ν H (del j H) (mineL ν j o) :=
 ⟨fun i o hi => (lkp_del_some hi).2, hR.nd j o (hs j o hj), fun b hb => ⟨j, o, hj, by rw [lkp_del, if_pos rfl], hb⟩⟩
theorem Taken.trans {H H' H'' : Heap} {F F' : List Nat} (hR : RelW S w0 ν st w) (hs : ∀ j o, lkp j H = some o → lkp j st.H = some o) (h : Taken ν H H' F) (k : Taken ν H' H'' F') : Taken ν H H'' (F ++ F') := by
 refine ⟨fun j o hj => h.1 j o (k.1 j o hj), ?_, ?_⟩
 ·rw [List.nodup_append]
  refine ⟨h.2.1, k.2.1, fun b hb b' hb' e => ?_⟩
  subst e
  obtain ⟨j, o, h1, h2, h3⟩ := h.2.2 b hb
  obtain ⟨j', o', k1, k2, k3⟩ := k.2.2 b hb'
  have := hR.inj j j' o o' b (hs _ _ h1) (hs _ _ (h.1 _ _ k1)) h3 k3
  subst this
  rw [h2] at k1; cases k1
 ·intro b hb
  rcases List.mem_append.1 hb with hb | hb
  ·obtain ⟨j, o, h1, h2, h3⟩ := h.2.2 b hb
   refine ⟨j, o, h1, ?_, h3⟩
   cases hq : lkp j H'' with
   | none => rfl
   | some q => rw [k.1 j q hq] at h2; cases h2
  ·obtain ⟨j', o', k1, k2, k3⟩ := k.2.2 b hb
   exact ⟨j', o', h.1 _ _ k1, k2, k3⟩
theorem Taken.perm {H H' : Heap} {F F' : List Nat} (h : Taken ν H H' F) (hp : F.Perm F') : Taken ν H H' F' := ⟨h.1, (hp.nodup_iff).1 h.2.1, fun b hb => h.2.2 b (hp.mem_iff.2 hb)⟩
theorem Taken.sub {H H' : Heap} {F : List Nat} (h : Taken ν H H' F) (hs : ∀ j o, lkp j H = some o → lkp j st.H = some o) : ∀ j o, lkp j H' = some o → lkp j st.H = some o := fun j o hj => hs j o (h.1 j o hj)
def Hangs (fz : Bool) (ν : Nat → Value) (H : Heap) (Av : Nat → Prop) : Prop := ∀ j o b, lkp j H = some o → b ∈ seenL ν j o ∨ (fz = false ∧ b ∈ mineL ν j o) → Av b
theorem Hangs.sub {fz : Bool} {H H' : Heap} {F : List Nat} {Av : Nat → Prop} (h : Hangs fz ν H Av) (t : Taken ν H H' F) : Hangs fz ν H' Av := fun j o b hj hb => h j o b (t.1 j o hj) hb
theorem hdr_row {v : Value} {n : Nat} (h : RowVal v n) : hdr v = v := h.hdr
theorem row_sound {α : Nat → Value} {Av : Nat → Prop} (hR : RelW S w0 ν st w) {res : O β} (hne : res ≠ .no) (fz own : Bool) (t : TypeId) (ls : List Lf) (v : SV) (H : Heap) (K : List (LT ls) → Heap → O β) (hs : ∀ j o, lkp j H = some o → lkp j st.H = some o) (hA : Hangs fz ν H Av) (h : takeRow fz own t ls v H K = res) :
  ∃ x H' F, K x H' = res ∧ repS w α Av (.row own t ls) x [den ν v] F ∧ Taken ν H H' F := by
 unfold takeRow at h
 split at h
 ·by_cases hl : (!ls.isEmpty) = true
  ·rw [hl, ifb_true] at h
   refine ⟨[], H, [], h, ⟨_, rfl, ?_, .inl ⟨rfl, rfl⟩, ?_, ?_⟩, Taken.refl ν H⟩
   ·rintro rfl; simp at hl
   ·cases own <;> rfl
   ·intro b hb; cases own <;> simp [rowSeen] at hb
  ·rw [Bool.not_eq_true] at hl; rw [hl] at h; exact absurd h.symm hne
 ·rename_i hnn
  split at h
  ·split at h
   ·rename_i j
    split at h
    ·rename_i t' ls' xs' hj
     by_cases ht : Nat.beq t t' = true
     ·rw [ht, ifb_true] at h
      obtain rfl := Nat.eq_of_beq_eq_true ht
      split at h
      ·rename_i xs hxs
       obtain ⟨e, hxs⟩ := castL_of hxs
       subst e
       simp only at hxs
       subst hxs
       have hsat := hR.sat j _ (hs j _ hj)
       have hd : den ν (.osl j) = ν j := by simp only [den]; exact hdr_row (hsat.2.rowVal hsat.1)
       exact ⟨xs, del j H, _, h, ⟨ν j, by rw [hd], hsat.1, hsat.2, rfl, fun b hb => by simp [rowSeen] at hb⟩, Taken.one hR hs hj⟩
      ·exact absurd h.symm hne
     ·rw [Bool.not_eq_true] at ht; rw [ht] at h; exact absurd h.symm hne
    ·exact absurd h.symm hne
   ·exact absurd h.symm hne
  ·-- a row that is only read: 'C': the blocks of the row that is looked at
   have look : ∀ (j : Nat) (o : HO) (ls' : List Lf) (xs' : List (LT ls')), (match castL ls' ls xs' with | some xs => K xs H | none => .no) = res → ls' ≠ [] → lkp j H = some o → (fz = true → mineL ν j o = []) →
     (∀ w', (∀ b, b < w.heap.size → b ∈ mineL ν j o ∨ b ∈ seenL ν j o → w'.heap[b]? = w.heap[b]?) → Reads w' (den ν v) ls' xs') →
     ∃ x H' F, K x H' = res ∧ repS w α Av (.row false t ls) x [den ν v] F ∧ Taken ν H H' F := by
    clear h
    intro j o ls' xs' hk hls hj hm hrd
    split at hk
    ·rename_i xs hxs
     obtain ⟨e, hxs⟩ := castL_of hxs
     subst e
     simp only at hxs
     subst hxs
     refine ⟨xs, H, [], hk, ⟨_, rfl, hls, (hrd w fun _ _ _ => rfl).sat t, rfl, fun b hb => ?_⟩, Taken.refl ν H⟩
     rcases reads_on hls (fun w' hw => hrd w' hw) b hb with h | h
     ·cases fz with
      | false => exact hA j o b hj (.inr ⟨rfl, h⟩)
      | true => rw [hm rfl] at h; cases h
     ·exact hA j o b hj (.inl h)
    ·exact absurd hk.symm hne
   split at h
   ·rename_i j
    split at h
    ·rename_i t' ls' xs' hj
     have hsat := hR.sat j _ (hs j _ hj)
     refine look j _ ls' xs' h hsat.1 hj (fun _ => rfl) fun w' hw => ?_
     have := (hsat.2.congr (w' := w') (fun b hb => hw b (hsat.2.mine_lt b hb) (.inl hb)) (fun b hb => hw b (hsat.2.seen_lt hsat.1 b hb) (.inr hb))).reads
     simp only [den]
     rw [(hsat.2.rowVal hsat.1).hdr]
     exact this
    ·exact absurd h.symm hne
   ·rename_i j sz ch m
    split at h
    ·rename_i s hs'
     split at h
     ·rename_i hown
      have he : evList H (.sl j sz ch m) (fun ls' _ xs' => match castL ls' ls xs' with | some xs => K xs H | none => .no) = res := by
       simp only [evList, hs']
       split at h
       ·rename_i xs hxs; simp only [hxs]; exact h
       ·exact absurd h.symm hne
      obtain ⟨j', o', ls', t', xs', hk, hls, hj', hw, hrd⟩ := evList_reads (hR.part hs st.dirty) he hne
      refine look j' o' ls' xs' hk hls hj' (fun _ => ?_) hrd
      obtain ⟨hS, -⟩ := slOf_ok (nx := st.nx) (hR.part hs st.dirty).facts hs'
      have hjj : j' = s.j := by
       rcases hw with e | ⟨_, _, _, e⟩
       ·cases e
       ·cases e
        unfold slOf at hs'
        simp only at hs'
        split at hs'
        ·rename_i own' t' ls' xs' _
         by_cases hb : Nat.beq sz ls'.length = true
         ·rw [hb, cond_true] at hs'; cases hs'; rfl
         ·rw [Bool.not_eq_true] at hb; rw [hb] at hs'; cases hs'
        ·cases hs'
      subst hjj
      have := hS.at_
      rw [hj'] at this
      cases this
      rw [hown]; rfl
     ·exact absurd h.symm hne
    ·exact absurd h.symm hne
   ·exact absurd h.symm hne
   ·obtain ⟨j, o, ls', t', xs', hk, hls, hj, _, hrd⟩ := evList_reads (hR.part hs st.dirty) h hne
    exact look j o ls' xs' hk hls hj (fun h => by cases h) hrd
theorem map_sound {α : Nat → Value} {Av : Nat → Prop} (hR : RelW S w0 ν st w) {res : O β} (hne : res ≠ .no) (t : TypeId) (ka va : Bool) (kl vl : List Lf) (v : SV) (H : Heap) (K : List (LT kl × LT vl) → Heap → O β) (hs : ∀ j o, lkp j H = some o → lkp j st.H = some o) (h : takeMap t ka va kl vl v H K = res) :
  ∃ x H' F, K x H' = res ∧ repS w α Av (.map t ka va kl vl) x [den ν v] F ∧ Taken ν H H' F := by
 unfold takeMap at h
 split at h
 ·rename_i j
  split at h
  ·rename_i t' ka' va' kl' vl' es' hj
   by_cases ht : (Nat.beq t t' && sameB ka ka' && sameB va va') = true
   ·rw [ht, ifb_true] at h
    simp only [Bool.and_eq_true] at ht
    obtain rfl := Nat.eq_of_beq_eq_true ht.1.1
    obtain rfl := sameB_eq ht.1.2
    obtain rfl := sameB_eq ht.2
    split at h
    ·rename_i es hes
     obtain ⟨e1, e2, hes⟩ := castM_of hes
     subst e1; subst e2
     simp only at hes
     subst hes
     obtain ⟨b, hb, hm⟩ := hR.sat j _ (hs j _ hj)
     refine ⟨es, del j H, [b], h, ⟨b, by simp only [den, hb]; rfl, hm, rfl⟩, ?_⟩
     have := Taken.one hR hs hj
     simpa [mineL, hb, blk] using this
    ·exact absurd h.symm hne
   ·rw [Bool.not_eq_true] at ht; rw [ht] at h; exact absurd h.symm hne
  ·exact absurd h.symm hne
 ·exact absurd h.symm hne
def GamT (γ : List Nat) (α ν : Nat → Value) : Prop := ∀ k, k < γ.length → den ν (.ptr (nth γ k) 0) = α k
theorem GamT.alpha {γ : List Nat} {α ν : Nat → Value} (h : GamT γ α ν) : ∀ k, k < γ.length → αOf ν γ k = α k := h
theorem tab_sound {γ : List Nat} {α : Nat → Value} {Av : Nat → Prop} (hR : RelW S w0 ν st w) (hG : GamT γ α ν) {res : O β} (hne : res ≠ .no) (fz own : Bool) (t : TypeId) (f : Shs) (hsz : 1 ≤ f.sz) (v : SV) (H : Heap) (K : List f.T → Heap → O β) (hs : ∀ j o, lkp j H = some o → lkp j st.H = some o) (hA : Hangs fz ν H Av) (h : takeTab γ fz own t f v H K = res) :
  ∃ x H' F, K x H' = res ∧ repS w α Av (.tab own t f) x [den ν v] F ∧ Taken ν H H' F := by
 unfold takeTab at h
 split at h
 ·exact ⟨[], H, [], h, ⟨_, [], [], [], rfl, rfl, hsz, .inl ⟨by simp only [den], rfl, rfl, rfl⟩, ⟨rfl, rfl⟩⟩, Taken.refl ν H⟩
 ·rename_i j
  split at h
  ·rename_i own' t' γ' p f' xs' hj
   split at h
   ·rename_i xs hxs
    obtain ⟨e, hxs⟩ := castT_of hxs
    subst e
    simp only at hxs
    subst hxs
    obtain ⟨hlt, _, hrep⟩ := hR.sat j _ (hs j _ hj)
    have hG' : ∀ b ∈ ghG (ν p), Av b := fun b hb => hA j _ b hj (.inl hb)
    have hd : den ν (.osl j) = ν j := by
     obtain ⟨v, us, F0, F1, e, _, _, hc, _⟩ := hrep
     cases e
     simp only [den]; exact hc.hdr
    split at h
    ·by_cases hc : (own' && Nat.beq t t' && (f'.lt 0 || eqNs γ γ')) = true
     ·rw [hc, ifb_true] at h
      simp only [Bool.and_eq_true] at hc
      obtain ⟨⟨c1, c2⟩, c3⟩ := hc
      subst c1
      obtain rfl := Nat.eq_of_beq_eq_true c2
      refine ⟨xs, del j H, _, h, ?_, Taken.one hR hs hj⟩
      rw [hd]
      rw [Bool.or_eq_true] at c3
      rcases c3 with c3 | c3
      ·exact repS_congr (fun _ _ => rfl) hG' (.tab true t f') xs _ _ (fun _ _ => rfl) (repS_alpha (n := 0) (fun k hk => absurd hk (Nat.not_lt_zero k)) (.tab true t f') xs _ _ c3 hrep)
      ·obtain rfl := eqNs_eq c3
       exact repS_congr (fun _ _ => rfl) hG' (.tab true t f') xs _ _ (fun _ _ => rfl) (repS_alpha hG.alpha (.tab true t f') xs _ _ hlt hrep)
     ·rw [Bool.not_eq_true] at hc; rw [hc] at h; exact absurd h.symm hne
    ·by_cases hc : (!(fz && own') && Nat.beq t t' && f'.tabOk) = true
     ·rw [hc, ifb_true] at h
      simp only [Bool.and_eq_true, Bool.not_eq_true'] at hc
      obtain ⟨⟨c1, c2⟩, c3⟩ := hc
      obtain rfl := Nat.eq_of_beq_eq_true c2
      refine ⟨xs, H, [], h, ?_, Taken.refl ν H⟩
      rw [hd]
      obtain ⟨v, us, F0, F1, e, hF, hsz, hcol, helt⟩ := hrep
      cases e
      have ho := tabOk_F (w := w) (α := αOf ν γ') (Av := (· ∈ ghG (ν p))) f' c3
      have e1 : F1 = [] := List.eq_nil_iff_forall_not_mem.2 fun c hc => helt.mem (Q := fun _ => False) (fun x v F hr c hc => by rw [ho.2 x v F hr] at hc; cases hc) c hc
      subst e1
      have helt' : Elts (repF w α Av f') f'.sz xs us [] := helt.imp fun x v F' _ hr => repF_congr (fun _ _ => rfl) hG' f' x v F' (fun _ _ => rfl) (repF_alpha (n := 0) (fun k hk => absurd hk (Nat.not_lt_zero k)) f' x v F' ho.1 hr)
      refine ⟨_, us, [], [], rfl, rfl, hsz, ?_, helt'⟩
      rcases hcol.reads with ⟨a1, a2, a3⟩ | ⟨a, cap, a1, a2, a3, a4⟩
      ·exact .inl ⟨a1, a2, a3, rfl⟩
      ·refine .inr ⟨a, cap, a1, a2, fun _ => ⟨rfl, a3, fun hl => ⟨a4 hl, ?_⟩⟩, fun h => by cases h⟩
       rcases hcol with ⟨b1, _⟩ | ⟨a', cap', b1, _, b2, b3⟩
       ·rw [a1] at b1; cases b1
       ·rw [a1] at b1
        cases b1
        cases own' with
        | false => exact hG' _ ((b2 rfl).2.2 hl).2
        | true =>
         have hfz : fz = false := by simpa using c1
         refine hA j _ _ hj (.inr ⟨hfz, ?_⟩)
         show a.block ∈ ghF (ν p)
         rw [hF, (b3 rfl).1]; simp
     ·rw [Bool.not_eq_true] at hc; rw [hc] at h; exact absurd h.symm hne
   ·exact absurd h.symm hne
  ·exact absurd h.symm hne
 ·exact absurd h.symm hne
theorem leaf_sound {α : Nat → Value} {Av : Nat → Prop} {res : O β} (hne : res ≠ .no) (l : Lf) (v : SV) (H : Heap) (K : l.T → Heap → O β) (h : (match l.dec v with | some x => K x H | none => .no) = res) :
  ∃ x H' F, K x H' = res ∧ repS w α Av (.leaf l) x [den ν v] F ∧ Taken ν H H' F := by
 split at h
 ·rename_i x hx
  refine ⟨x, H, [], h, ⟨?_, rfl⟩, Taken.refl ν H⟩
  rw [lf_dec hx]
  rw [den_congr (n := 0) (ν := ν) (ν' := ν0) (fun j hj => absurd hj (Nat.not_lt_zero j)) _ (lf_enc_lt 0 l x)]
 ·exact absurd h.symm hne
theorem pin_sound {γ : List Nat} {α : Nat → Value} (hG : GamT γ α ν) {p : Pin} {v : SV} (h : pinOk γ p v = true) : den ν v = pinD α p := by
 unfold pinOk at h
 split at h
 ·rename_i k j
  simp only [Bool.and_eq_true] at h
  rw [Nat.eq_of_beq_eq_true h.2]
  exact hG k (Nat.le_of_ble_eq_true h.1)
 ·simp [den, pinD]
 ·cases h
theorem pins_sound {γ : List Nat} {α : Nat → Value} (hG : GamT γ α ν) : ∀ {ps : List Pin} {vs : List SV}, pinsOk γ ps vs = true → denL ν vs = ps.map (pinD α)
 | [], [], _ => rfl
 | p :: ps, v :: vs, h => by
  simp only [pinsOk, Bool.and_eq_true] at h
  simp only [denL, List.map_cons, pin_sound hG h.1, pins_sound hG h.2]
 | [], _ :: _, h => by cases h
 | _ :: _, [], h => by cases h
mutual
theorem takeS_sound {γ : List Nat} {fz : Bool} {α : Nat → Value} {Av : Nat → Prop} (hR : RelW S w0 ν st w) (hG : GamT γ α ν) {res : O β} (hne : res ≠ .no) : ∀ (s : Sh) (cs : List SV) (H : Heap) (K : s.T → Heap → O β), (∀ j o, lkp j H = some o → lkp j st.H = some o) → Hangs fz ν H Av → takeS γ fz s cs H K = res →
  ∃ x H' F, K x H' = res ∧ repS w α Av s x (denL ν cs) F ∧ Taken ν H H' F
 | .leaf l, [v], H, K, hs, hA, h => leaf_sound hne l v H K h
 | .leaf l, [], H, K, hs, hA, h => by unfold takeS at h; exact absurd h.symm hne
 | .leaf l, _ :: _ :: _, H, K, hs, hA, h => by unfold takeS at h; exact absurd h.symm hne
 | .row own t ls, [v], H, K, hs, hA, h => row_sound hR hne fz own t ls v H K hs hA h
 | .row own t ls, [], H, K, hs, hA, h => by unfold takeS at h; exact absurd h.symm hne
 | .row own t ls, _ :: _ :: _, H, K, hs, hA, h => by unfold takeS at h; exact absurd h.symm hne
 | .map t ka va kl vl, [v], H, K, hs, hA, h => map_sound hR hne t ka va kl vl v H K hs h
 | .map t ka va kl vl, [], H, K, hs, hA, h => by unfold takeS at h; exact absurd h.symm hne
 | .map t ka va kl vl, _ :: _ :: _, H, K, hs, hA, h => by unfold takeS at h; exact absurd h.symm hne
 | .tab own t f, [v], H, K, hs, hA, h => by
  unfold takeS at h
  by_cases hsz : Nat.ble 1 f.sz = true
  ·rw [hsz, ifb_true] at h
   exact tab_sound hR hG hne fz own t f (Nat.le_of_ble_eq_true hsz) v H K hs hA h
  ·rw [Bool.not_eq_true] at hsz; rw [hsz] at h; exact absurd h.symm hne
 | .tab own t f, [], H, K, hs, hA, h => by unfold takeS at h; exact absurd h.symm hne
 | .tab own t f, _ :: _ :: _, H, K, hs, hA, h => by unfold takeS at h; exact absurd h.symm hne
 | .box t f, [], H, K, hs, hA, h => by unfold takeS at h; exact absurd h.symm hne
 | .box t f, _ :: _ :: _, H, K, hs, hA, h => by unfold takeS at h; exact absurd h.symm hne
 | .box t f, [v], H, K, hs, hA, h => by
  unfold takeS at h
  split at h
  ·rename_i j
   split at h
   ·rename_i t' vs hj
    by_cases hc : Nat.beq t t' = true
    ·rw [hc, ifb_true] at h
     obtain rfl := Nat.eq_of_beq_eq_true hc
     obtain ⟨b, hb, hcell⟩ := hR.sat j _ (hs j _ hj)
     have t1 := Taken.one hR hs hj
     obtain ⟨x, H', F, h1, h2, h3⟩ := takeF_sound hR hG hne f vs _ K (t1.sub hs) (hA.sub t1) h
     refine ⟨x, H', F ++ [b], h1, ⟨b, denL ν vs, F, ?_, hcell, h2, rfl⟩, ?_⟩
     ·simp only [denL, den, hb]; rfl
     ·have hm : mineL ν j (.cells t vs) = [b] := by simp [mineL, hb, blk]
      rw [hm] at t1
      exact (t1.trans hR hs h3).perm List.perm_append_comm
    ·rw [Bool.not_eq_true] at hc; rw [hc] at h; exact absurd h.symm hne
   ·exact absurd h.symm hne
  ·exact absurd h.symm hne
 | .agg f, cs, H, K, hs, hA, h => by unfold takeS at h; exact takeF_sound hR hG hne f cs H K hs hA h
theorem takeF_sound {γ : List Nat} {fz : Bool} {α : Nat → Value} {Av : Nat → Prop} (hR : RelW S w0 ν st w) (hG : GamT γ α ν) {res : O β} (hne : res ≠ .no) : ∀ (f : Shs) (cs : List SV) (H : Heap) (K : f.T → Heap → O β), (∀ j o, lkp j H = some o → lkp j st.H = some o) → Hangs fz ν H Av → takeF γ fz f cs H K = res →
  ∃ x H' F, K x H' = res ∧ repF w α Av f x (denL ν cs) F ∧ Taken ν H H' F
 | .one s ps, cs, H, K, hs, hA, h => by
  unfold takeF at h
  by_cases hp : pinsOk γ ps (cs.drop s.sz) = true
  ·rw [hp, ifb_true] at h
   obtain ⟨x, H', F, h1, h2, h3⟩ := takeS_sound hR hG hne s _ H K hs hA h
   refine ⟨x, H', F, h1, ⟨_, ?_, h2⟩, h3⟩
   rw [← pins_sound hG hp, ← denL_append, List.take_append_drop]
  ·rw [Bool.not_eq_true] at hp; rw [hp] at h; exact absurd h.symm hne
 | .cons s r, cs, H, K, hs, hA, h => by
  unfold takeF at h
  obtain ⟨x, H1, F1, h1, r1, t1⟩ := takeS_sound hR hG hne s _ H _ hs hA h
  obtain ⟨y, H2, F2, h2, r2, t2⟩ := takeF_sound hR hG hne r _ H1 _ (t1.sub hs) (hA.sub t1) h1
  refine ⟨(x, y), H2, F1 ++ F2, h2, ⟨_, _, F1, F2, ?_, rfl, r1, r2⟩, t1.trans hR hs t2⟩
  rw [← denL_append, List.take_append_drop]
 | .pin p r, [], H, K, hs, hA, h => by unfold takeF at h; exact absurd h.symm hne
 | .pin p r, v :: cs, H, K, hs, hA, h => by
  unfold takeF at h
  by_cases hp : pinOk γ p v = true
  ·rw [hp, ifb_true] at h
   obtain ⟨x, H', F, h1, h2, h3⟩ := takeF_sound hR hG hne r cs H K hs hA h
   exact ⟨x, H', F, h1, ⟨_, by simp only [denL, pin_sound hG hp], h2⟩, h3⟩
  ·rw [Bool.not_eq_true] at hp; rw [hp] at h; exact absurd h.symm hne
 | .pins ps, cs, H, K, hs, hA, h => by
  unfold takeF at h
  by_cases hp : pinsOk γ ps cs = true
  ·rw [hp, ifb_true] at h
   exact ⟨(), H, [], h, ⟨pins_sound hG hp, rfl⟩, Taken.refl ν H⟩
  ·rw [Bool.not_eq_true] at hp; rw [hp] at h; exact absurd h.symm hne
end
end
theorem rowSeen_mine {α : Type} (own : Bool) (xs : List α) (v : Value) : ∀ b ∈ rowSeen own xs v, b ∈ rowMine true v := by
 intro b hb
 cases own with
 | true => simp [rowSeen] at hb
 | false =>
  cases xs with
  | nil => simp [rowSeen] at hb
  | cons x xs => exact hb
theorem tab_view {w : World} {α α' : Nat → Value} {A Av : Nat → Prop} {own : Bool} {t : TypeId} {f : Shs} {xs : List f.T} {v : Value} {F : List Nat} (h : repS w α A (.tab own t f) xs [v] F) (hf : f.tabOk = true) (hA : ∀ b, A b → Av b) (hF : ∀ b ∈ F, Av b) : repS w α' Av (.tab false t f) xs [v] [] := by
 obtain ⟨v', us, F0, F1, e, rfl, hsz, hcol, helt⟩ := h
 cases e
 have ho := tabOk_F (w := w) (α := α) (Av := A) f hf
 have e1 : F1 = [] := List.eq_nil_iff_forall_not_mem.2 fun c hc => helt.mem (Q := fun _ => False) (fun x v F hr c hc => by rw [ho.2 x v F hr] at hc; cases hc) c hc
 subst e1
 have helt' : Elts (repF w α' Av f) f.sz xs us [] := helt.imp fun x v F' _ hr => repF_congr (fun _ _ => rfl) hA f x v F' (fun _ _ => rfl) (repF_alpha (n := 0) (fun k hk => absurd hk (Nat.not_lt_zero k)) f x v F' ho.1 hr)
 refine ⟨_, us, [], [], rfl, rfl, hsz, ?_, helt'⟩
 rcases hcol.reads with ⟨a1, a2, a3⟩ | ⟨a, cap, a1, a2, a3, a4⟩
 ·exact .inl ⟨a1, a2, a3, rfl⟩
 ·refine .inr ⟨a, cap, a1, a2, fun _ => ⟨rfl, a3, fun hl => ⟨a4 hl, ?_⟩⟩, fun h => by cases h⟩
  rcases hcol with ⟨b1, _⟩ | ⟨a', cap', b1, _, b2, b3⟩
  ·rw [a1] at b1; cases b1
  ·rw [a1] at b1
   cases b1
   cases own with
   | false => exact hA _ ((b2 rfl).2.2 hl).2
   | true => exact hF _ (by rw [(b3 rfl).1]; simp)
structure Frz (S : Bl) (w0 w : World) (ν : Nat → Value) (st : St) (ν' : Nat → Value) (st' : St) : Prop where
 rel : RelW S w0 ν' st' w
 nx : st.nx ≤ st'.nx
 dirty : st'.dirty = st.dirty
 agree : ∀ j, j < st.nx → ν j = ν' j
 mine : ∀ j o b, lkp j st'.H = some o → b ∈ mineL ν' j o → ∃ o', lkp j st.H = some o' ∧ b ∈ mineL ν j o'
 seen : ∀ j o b, lkp j st'.H = some o → b ∈ seenL ν' j o → ∃ o', lkp j st.H = some o' ∧ (b ∈ mineL ν j o' ∨ b ∈ seenL ν j o')
 stays : ∀ j o, lkp j st.H = some o → (∀ t ls xs, o ≠ .row true t ls xs) → (∀ t γ p f xs, o ≠ .tab true t γ p f xs) → lkp j st'.H = some o
theorem Frz.refl {S : Bl} {w0 w : World} {ν : Nat → Value} {st : St} (hR : RelW S w0 ν st w) : Frz S w0 w ν st ν st := ⟨hR, Nat.le_refl _, rfl, fun _ _ => rfl, fun j o b hj hb => ⟨o, hj, hb⟩, fun j o b hj hb => ⟨o, hj, .inr hb⟩, fun _ _ h _ _ => h⟩
theorem Frz.trans {S : Bl} {w0 w : World} {ν ν1 ν2 : Nat → Value} {st st1 st2 : St} (h : Frz S w0 w ν st ν1 st1) (k : Frz S w0 w ν1 st1 ν2 st2) : Frz S w0 w ν st ν2 st2 :=
 ⟨k.rel, Nat.le_trans h.nx k.nx, k.dirty.trans h.dirty, fun j hj => (h.agree j hj).trans (k.agree j (Nat.lt_of_lt_of_le hj h.nx)), fun j o b hj hb => by
  obtain ⟨o', ho', hb'⟩ := k.mine j o b hj hb
  exact h.mine j o' b ho' hb', fun j o b hj hb => by
  obtain ⟨o', ho', hb'⟩ := k.seen j o b hj hb
  rcases hb' with hb' | hb'
  ·obtain ⟨o2, h2, h3⟩ := h.mine j o' b ho' hb'
   exact ⟨o2, h2, .inl h3⟩
  ·exact h.seen j o' b ho' hb', fun j o hj h1 h2 => k.stays j o (h.stays j o hj h1 h2) h1 h2⟩
theorem frzRow_sound {S : Bl} {w0 w : World} {ν : Nat → Value} {st : St} (hR : RelW S w0 ν st w) {j : Nat} {t : TypeId} {ls : List Lf} {xs : List (LT ls)} (hj : lkp j st.H = some (.row true t ls xs)) :
  Frz S w0 w ν st ν ⟨st.nx, st.dirty, (j, .row false t ls xs) :: st.H⟩ := by
 have hs := hR.sat j _ hj
 have hm : ∀ b ∈ seenL ν j (.row false t ls xs), b ∈ mineL ν j (.row true t ls xs) := fun b hb => rowSeen_mine false xs (ν j) b hb
 refine ⟨?_, Nat.le_refl _, rfl, fun _ _ => rfl, ?_, ?_, ?_⟩
 ·refine hR.setG (o := .row false t ls xs) (hR.lt j _ hj).1 rfl ⟨hs.1, hs.2.reads.sat t⟩ List.nodup_nil (fun b hb => (by cases hb)) (fun b hb => ?_) (fun b hb => (by cases hb)) ?_ (fun b hb => (by cases hb)) _
  ·rcases hR.mine j _ b hj (hm b hb) with h | h
   ·exact .inr (.inl h)
   ·exact .inl h
  ·intro b hb i q e hq hb'
   exact e (hR.inj i j q _ b hq hj hb' (hm b hb))
 ·intro i o b hi hb
  rw [lkp_cons] at hi
  split at hi
  ·cases hi; cases hb
  ·exact ⟨o, hi, hb⟩
 ·intro i o b hi hb
  rw [lkp_cons] at hi
  split at hi
  ·rename_i e; subst e; cases hi; exact ⟨_, hj, .inl (hm b hb)⟩
  ·exact ⟨o, hi, .inr hb⟩
 ·intro i o hi h1 _
  rw [lkp_cons]
  split
  ·rename_i e; subst e; rw [hj] at hi; cases hi; exact absurd rfl (h1 t ls xs)
  ·exact hi
theorem frzV_sound {S : Bl} {w0 w : World} {ν : Nat → Value} {st : St} (hR : RelW S w0 ν st w) (v : SV) : ∃ ν', Frz S w0 w ν st ν' (frzV v st) := by
 unfold frzV
 split
 ·rename_i j
  split
  ·rename_i t ls xs hj
   exact ⟨ν, frzRow_sound hR hj⟩
  ·rename_i t γ p f xs hj
   by_cases hf : f.tabOk = true
   ·rw [hf]
    have hs := hR.sat j _ hj
    obtain ⟨hlt, hsz, hrep⟩ := hs
    have hl := hR.lt j _ hj
    have g1 := (Given.ghost hR (fun _ => True) (mkG [] (ghF (ν p) ++ ghG (ν p)))).1
    have hold : ∀ i, i < st.nx → ν i = upd ν st.nx (mkG [] (ghF (ν p) ++ ghG (ν p))) i := fun i hi => upd_old hi
    have hne : st.nx ≠ j := fun e => by have := hl.1; omega
    have hlk : ∀ i q, i ≠ j → lkp i ((st.nx, HO.ghost) :: st.H) = some q → (i = st.nx ∧ q = .ghost) ∨ (lkp i st.H = some q ∧ mineL (upd ν st.nx (mkG [] (ghF (ν p) ++ ghG (ν p)))) i q = mineL ν i q) := by
     intro i q e hq
     rw [lkp_cons] at hq
     split at hq
     ·rename_i e'; cases hq; exact .inl ⟨e'.symm, rfl⟩
     ·exact .inr ⟨hq, (mineL_congr hold (hR.lt i q hq).1 (hR.lt i q hq).2).symm⟩
    have hmn : ∀ b ∈ ghF (ν p) ++ ghG (ν p), (w0.heap.size ≤ b ∨ S b ∨ S.frz b) ∧ b < w.heap.size ∧ ∀ i q, i ≠ j → lkp i st.H = some q → b ∉ mineL ν i q := by
     intro b hb
     rcases List.mem_append.1 hb with hb | hb
     ·refine ⟨?_, repS_lt (.tab true t f) xs _ _ hrep b hb, fun i q e hq hb' => e (hR.inj i j q _ b hq hj hb' hb)⟩
      rcases hR.mine j _ b hj hb with h | h
      ·exact .inr (.inl h)
      ·exact .inl h
     ·exact ⟨hR.seen j _ b hj hb, hsz b hb, fun i q e hq hb' => hR.apart i j q _ b hq hj hb' hb⟩
    have hpv : upd ν st.nx (mkG [] (ghF (ν p) ++ ghG (ν p))) st.nx = mkG [] (ghF (ν p) ++ ghG (ν p)) := upd_new
    refine ⟨upd ν st.nx (mkG [] (ghF (ν p) ++ ghG (ν p))), ?_, Nat.le_succ _, rfl, hold, ?_, ?_, ?_⟩
    ·have hl2 : ltNs st.nx γ = true := by
      have := hl.2
      simp only [hoLt, Bool.and_eq_true] at this
      exact this.2
     refine g1.setG (j := j) (o := .tab false t γ st.nx f xs) (by have := hl.1; show j < st.nx + 1; omega) ?_ ?_ ?_ ?_ ?_ ?_ ?_ ?_ st.dirty
     ·simp only [hoLt, Bool.and_eq_true]
      exact ⟨Nat.ble_eq_true_of_le (Nat.le_refl _), ltNs_mono (Nat.le_succ _) γ hl2⟩
     ·show f.lt γ.length = true ∧ (∀ b ∈ ghG (upd ν st.nx (mkG [] (ghF (ν p) ++ ghG (ν p))) st.nx), b < w.heap.size) ∧ repS w _ (· ∈ ghG (upd ν st.nx (mkG [] (ghF (ν p) ++ ghG (ν p))) st.nx)) (.tab false t f) xs [upd ν st.nx (mkG [] (ghF (ν p) ++ ghG (ν p))) j] (ghF (upd ν st.nx (mkG [] (ghF (ν p) ++ ghG (ν p))) st.nx))
      rw [hpv, ghF_mk, ghG_mk, ← hold j hl.1]
      exact ⟨hlt, fun b hb => (hmn b hb).2.1, tab_view hrep hf (fun b hb => List.mem_append.2 (.inr hb)) (fun b hb => List.mem_append.2 (.inl hb))⟩
     ·show (ghF (upd ν st.nx _ st.nx)).Nodup
      rw [hpv, ghF_mk]; exact List.nodup_nil
     ·show ∀ b ∈ ghF (upd ν st.nx _ st.nx), _
      rw [hpv, ghF_mk]; intro b hb; cases hb
     ·show ∀ b ∈ ghG (upd ν st.nx _ st.nx), _
      rw [hpv, ghG_mk]; exact fun b hb => (hmn b hb).1
     ·show ∀ b ∈ ghF (upd ν st.nx _ st.nx), _
      rw [hpv, ghF_mk]; intro b hb; cases hb
     ·show ∀ b ∈ ghG (upd ν st.nx _ st.nx), _
      rw [hpv, ghG_mk]
      intro b hb i q e hq
      rcases hlk i q e hq with ⟨_, rfl⟩ | ⟨h, h'⟩
      ·intro h; cases h
      ·rw [h']; exact (hmn b hb).2.2 i q e h
     ·show ∀ b ∈ ghF (upd ν st.nx _ st.nx), _
      rw [hpv, ghF_mk]; intro b hb; cases hb
    ·intro i o b hi hb
     have hi : lkp i ((j, HO.tab false t γ st.nx f xs) :: (st.nx, HO.ghost) :: st.H) = some o := hi
     rw [lkp_cons] at hi
     split at hi
     ·cases hi
      have hb : b ∈ ghF (upd ν st.nx (mkG [] (ghF (ν p) ++ ghG (ν p))) st.nx) := hb
      rw [hpv, ghF_mk] at hb
      cases hb
     ·rename_i e
      rcases hlk i o (fun e' => e e'.symm) hi with ⟨_, rfl⟩ | ⟨h, h'⟩
      ·cases hb
      ·rw [h'] at hb; exact ⟨o, h, hb⟩
    ·intro i o b hi0 hb
     have hi : lkp i ((j, HO.tab false t γ st.nx f xs) :: (st.nx, HO.ghost) :: st.H) = some o := hi0
     clear hi0
     rw [lkp_cons] at hi
     split at hi
     ·rename_i e
      subst e
      cases hi
      have hb : b ∈ ghG (upd ν st.nx (mkG [] (ghF (ν p) ++ ghG (ν p))) st.nx) := hb
      rw [hpv, ghG_mk] at hb
      exact ⟨_, hj, List.mem_append.1 hb⟩
     ·rw [lkp_cons] at hi
      split at hi
      ·cases hi; cases hb
      ·rw [← seenL_congr hold (hR.lt i o hi).1 (hR.lt i o hi).2] at hb
       exact ⟨o, hi, .inr hb⟩
    ·intro i o hi h1 h2
     show lkp i ((j, HO.tab false t γ st.nx f xs) :: (st.nx, HO.ghost) :: st.H) = some o
     rw [lkp_cons, lkp_cons]
     split
     ·rename_i e; subst e; rw [hj] at hi; cases hi; exact absurd rfl (h2 t γ p f xs)
     ·split
      ·rename_i e; have := (hR.lt i o hi).1; omega
      ·exact hi
   ·rw [Bool.not_eq_true] at hf; rw [hf]; exact ⟨ν, Frz.refl hR⟩
  ·exact ⟨ν, Frz.refl hR⟩
 ·rename_i j _ _ _
  split
  ·rename_i t ls xs hj
   exact ⟨ν, frzRow_sound hR hj⟩
  ·exact ⟨ν, Frz.refl hR⟩
 ·exact ⟨ν, Frz.refl hR⟩
mutual
theorem frzS_sound {S : Bl} {w0 w : World} : ∀ (s : Sh) (cs : List SV) {ν : Nat → Value} {st : St}, RelW S w0 ν st w → ∃ ν', Frz S w0 w ν st ν' (frzS s cs st)
 | .leaf _, cs, ν, st, hR => by unfold frzS; exact ⟨ν, Frz.refl hR⟩
 | .map _ _ _ _ _, cs, ν, st, hR => by unfold frzS; exact ⟨ν, Frz.refl hR⟩
 | .row own _ _, [], ν, st, hR => by unfold frzS; exact ⟨ν, Frz.refl hR⟩
 | .row own _ _, _ :: _ :: _, ν, st, hR => by unfold frzS; exact ⟨ν, Frz.refl hR⟩
 | .row own _ _, [v], ν, st, hR => by
  unfold frzS
  cases own with
  | true => exact ⟨ν, Frz.refl hR⟩
  | false => exact frzV_sound hR v
 | .tab own _ _, [], ν, st, hR => by unfold frzS; exact ⟨ν, Frz.refl hR⟩
 | .tab own _ _, _ :: _ :: _, ν, st, hR => by unfold frzS; exact ⟨ν, Frz.refl hR⟩
 | .tab own _ _, [v], ν, st, hR => by
  unfold frzS
  cases own with
  | true => exact ⟨ν, Frz.refl hR⟩
  | false => exact frzV_sound hR v
 | .box _ f, [], ν, st, hR => by unfold frzS; exact ⟨ν, Frz.refl hR⟩
 | .box _ f, _ :: _ :: _, ν, st, hR => by unfold frzS; exact ⟨ν, Frz.refl hR⟩
 | .box _ f, [v], ν, st, hR => by
  unfold frzS
  split
  ·split
   ·exact frzF_sound f _ hR
   ·exact ⟨ν, Frz.refl hR⟩
  ·exact ⟨ν, Frz.refl hR⟩
 | .agg f, cs, ν, st, hR => by unfold frzS; exact frzF_sound f cs hR
theorem frzF_sound {S : Bl} {w0 w : World} : ∀ (f : Shs) (cs : List SV) {ν : Nat → Value} {st : St}, RelW S w0 ν st w → ∃ ν', Frz S w0 w ν st ν' (frzF f cs st)
 | .one s _, cs, ν, st, hR => by unfold frzF; exact frzS_sound s _ hR
 | .cons s r, cs, ν, st, hR => by
  unfold frzF
  obtain ⟨ν1, h1⟩ := frzS_sound s (cs.take s.sz) hR
  obtain ⟨ν2, h2⟩ := frzF_sound r (cs.drop s.sz) h1.rel
  exact ⟨ν2, h1.trans h2⟩
 | .pin _ r, [], ν, st, hR => by unfold frzF; exact ⟨ν, Frz.refl hR⟩
 | .pin _ r, _ :: cs, ν, st, hR => by unfold frzF; exact frzF_sound r cs hR
 | .pins _, cs, ν, st, hR => by unfold frzF; exact ⟨ν, Frz.refl hR⟩
end
structure Re (S : Bl) (w0 w : World) (ν : Nat → Value) (st : St) (ν' : Nat → Value) (st' : St) : Prop where
 rel : RelW S w0 ν' st' w
 nx : st.nx ≤ st'.nx
 dirty : st'.dirty = st.dirty
 agree : ∀ j, j < st.nx → ν j = ν' j
theorem Re.refl {S : Bl} {w0 w : World} {ν : Nat → Value} {st : St} (hR : RelW S w0 ν st w) : Re S w0 w ν st ν st := ⟨hR, Nat.le_refl _, rfl, fun _ _ => rfl⟩
theorem Re.trans {S : Bl} {w0 w : World} {ν ν1 ν2 : Nat → Value} {st st1 st2 : St} (h : Re S w0 w ν st ν1 st1) (k : Re S w0 w ν1 st1 ν2 st2) : Re S w0 w ν st ν2 st2 :=
 ⟨k.rel, Nat.le_trans h.nx k.nx, k.dirty.trans h.dirty, fun j hj => (h.agree j hj).trans (k.agree j (Nat.lt_of_lt_of_le hj h.nx))⟩
theorem Re.step {S : Bl} {w0 w : World} {ν ν' : Nat → Value} {st st' : St} (h : Re S w0 w ν st ν' st') : Step ν st w ν' st' w :=
 ⟨h.nx, h.agree, fun e => by rw [h.dirty]; exact e, Nat.le_refl _, fun _ _ _ => rfl⟩
theorem Frz.re {S : Bl} {w0 w : World} {ν ν' : Nat → Value} {st st' : St} (h : Frz S w0 w ν st ν' st') : Re S w0 w ν st ν' st' := ⟨h.rel, h.nx, h.dirty, h.agree⟩
theorem RelW.setTab {S : Bl} {w0 w : World} {ν : Nat → Value} {st : St} (hR : RelW S w0 ν st w) {j : Nat} (hj : j < st.nx) {own : Bool} {t : TypeId} {γ : List Nat} {f : Shs} {xs : List f.T} {F G : List Nat} (hγ : ltNs st.nx γ = true) (hl : f.lt γ.length = true)
  (hrep : repS w (αOf ν γ) (· ∈ G) (.tab own t f) xs [ν j] F) (hnd : F.Nodup) (hm : ∀ b ∈ F, S b ∨ w0.heap.size ≤ b) (hs : ∀ b ∈ G, (w0.heap.size ≤ b ∨ S b ∨ S.frz b) ∧ b < w.heap.size)
  (h1 : ∀ b ∈ F, ∀ i q, i ≠ j → lkp i st.H = some q → b ∉ mineL ν i q ∧ b ∉ seenL ν i q) (h2 : ∀ b ∈ G, ∀ i q, i ≠ j → lkp i st.H = some q → b ∉ mineL ν i q) (h3 : ∀ b ∈ F, b ∉ G) (d : Bool) :
  RelW S w0 (upd ν st.nx (mkG F G)) ⟨Nat.succ st.nx, d, (j, .tab own t γ st.nx f xs) :: (st.nx, .ghost) :: st.H⟩ w := by
 have g1 := (Given.ghost hR (fun _ => True) (mkG F G)).1
 have hold : ∀ i, i < st.nx → ν i = upd ν st.nx (mkG F G) i := fun i hi => upd_old hi
 have hpv : upd ν st.nx (mkG F G) st.nx = mkG F G := upd_new
 have hlk : ∀ i q, i ≠ j → lkp i ((st.nx, HO.ghost) :: st.H) = some q → (i = st.nx ∧ q = .ghost) ∨ (lkp i st.H = some q ∧ mineL (upd ν st.nx (mkG F G)) i q = mineL ν i q ∧ seenL (upd ν st.nx (mkG F G)) i q = seenL ν i q) := by
  intro i q e hq
  rw [lkp_cons] at hq
  split at hq
  ·rename_i e'; cases hq; exact .inl ⟨e'.symm, rfl⟩
  ·exact .inr ⟨hq, (mineL_congr hold (hR.lt i q hq).1 (hR.lt i q hq).2).symm, (seenL_congr hold (hR.lt i q hq).1 (hR.lt i q hq).2).symm⟩
 refine g1.setG (j := j) (o := .tab own t γ st.nx f xs) (Nat.lt_succ_of_lt hj) ?_ ?_ ?_ ?_ ?_ ?_ ?_ ?_ d
 ·simp only [hoLt, Bool.and_eq_true]
  exact ⟨Nat.ble_eq_true_of_le (Nat.le_refl _), ltNs_mono (Nat.le_succ _) γ hγ⟩
 ·show f.lt γ.length = true ∧ (∀ b ∈ ghG (upd ν st.nx (mkG F G) st.nx), b < w.heap.size) ∧ repS w (αOf (upd ν st.nx (mkG F G)) γ) (· ∈ ghG (upd ν st.nx (mkG F G) st.nx)) (.tab own t f) xs [upd ν st.nx (mkG F G) j] (ghF (upd ν st.nx (mkG F G) st.nx))
  rw [hpv, ghF_mk, ghG_mk, ← hold j hj]
  exact ⟨hl, fun b hb => (hs b hb).2, repS_alpha (αOf_congr hold hγ) (.tab own t f) xs _ _ hl hrep⟩
 ·show (ghF (upd ν st.nx _ st.nx)).Nodup
  rw [hpv, ghF_mk]; exact hnd
 ·show ∀ b ∈ ghF (upd ν st.nx _ st.nx), _
  rw [hpv, ghF_mk]; exact hm
 ·show ∀ b ∈ ghG (upd ν st.nx _ st.nx), _
  rw [hpv, ghG_mk]; exact fun b hb => (hs b hb).1
 ·show ∀ b ∈ ghF (upd ν st.nx _ st.nx), _
  rw [hpv, ghF_mk]
  intro b hb i q e hq
  rcases hlk i q e hq with ⟨_, rfl⟩ | ⟨h, h', h''⟩
  ·exact ⟨fun h => (by cases h), fun h => (by cases h)⟩
  ·rw [h', h'']; exact h1 b hb i q e h
 ·show ∀ b ∈ ghG (upd ν st.nx _ st.nx), _
  rw [hpv, ghG_mk]
  intro b hb i q e hq
  rcases hlk i q e hq with ⟨_, rfl⟩ | ⟨h, h', _⟩
  ·intro h; cases h
  ·rw [h']; exact h2 b hb i q e h
 ·show ∀ b ∈ ghF (upd ν st.nx _ st.nx), b ∉ ghG (upd ν st.nx _ st.nx)
  rw [hpv, ghF_mk, ghG_mk]; exact h3
theorem foldJ_sound {β : Type} {S : Bl} {w0 w : World} {ν : Nat → Value} {st : St} (hR : RelW S w0 ν st w) {j : Nat} {K : St → O β} {res : O β} (h : foldJ j st K = res) (hne : res ≠ .no) :
  ∃ ν' st', Re S w0 w ν st ν' st' ∧ K st' = res := by
 unfold foldJ at h
 split at h
 ·rename_i t γ p f xs i vs hj
  obtain ⟨ν1, hz⟩ := frzF_sound f vs hR
  generalize hst1 : frzF f vs st = st1 at h hz
  have hj1 : lkp j st1.H = some (.opn t γ p f xs i vs) := hz.stays j _ hj (fun _ _ _ e => by cases e) (fun _ _ _ _ _ e => by cases e)
  have hR1 := hz.rel
  have hl1 := hR1.lt j _ hj1
  obtain ⟨c1, c2, c3, c4, c5, c6, c7, ua, ub, F0, Fa, Fb, k1, k2, k3, k4⟩ := hR1.sat j _ hj1
  have hsub : ∀ i' o, lkp i' (del j st1.H) = some o → lkp i' st1.H = some o := fun i' o hi => (lkp_del_some hi).2
  obtain ⟨x, H', Fi, hk, hrep, htk⟩ := takeF_sound (Av := fun b => ∃ i' o, lkp i' (del j st1.H) = some o ∧ b ∈ seenL ν1 i' o) hR1 (α := αOf ν1 γ) (fun _ _ => rfl) hne f vs (del j st1.H) _ hsub (fun i' o b hi hb => by
   rcases hb with hb | hb
   ·exact ⟨i', o, hi, hb⟩
   ·cases hb.1) h
  obtain ⟨Gi, hGi, hrep⟩ := repF_list f x _ Fi hrep
  have hmine : mineL ν1 j (.opn t γ p f xs i vs) = F0 ++ (Fa ++ Fb) := k1
  have hseen : seenL ν1 j (.opn t γ p f xs i vs) = ghG (ν1 p) := rfl
  have hnd := hR1.nd j _ hj1
  rw [hmine] at hnd
  have hndp := List.nodup_append.1 hnd
  have hnd2 := List.nodup_append.1 hndp.2.1
  have old : ∀ b, b ∈ F0 ∨ b ∈ Fa ∨ b ∈ Fb → b ∈ mineL ν1 j (.opn t γ p f xs i vs) := fun b hb => by rw [hmine]; simpa using hb
  have hFi : ∀ b ∈ Fi, ∃ i' o, i' ≠ j ∧ lkp i' st1.H = some o ∧ lkp i' H' = none ∧ b ∈ mineL ν1 i' o := fun b hb => by
   obtain ⟨i', o, q1, q2, q3⟩ := htk.2.2 b hb
   obtain ⟨e, q1⟩ := lkp_del_some q1
   exact ⟨i', o, fun e' => e e'.symm, q1, q2, q3⟩
  have dis : ∀ b ∈ Fi, b ∉ mineL ν1 j (.opn t γ p f xs i vs) := fun b hb hb' => by
   obtain ⟨i', o, q0, q1, _, q3⟩ := hFi b hb
   exact q0 (hR1.inj i' j o _ b q1 hj1 q3 hb')
  have hR2 : RelW S w0 ν1 ⟨st1.nx, st.dirty, H'⟩ w := hR1.part (fun i' o hi => (lkp_del_some (htk.1 i' o hi)).2) st.dirty
  have hkeep : ∀ i' q, lkp i' H' = some q → i' ≠ j ∧ lkp i' st1.H = some q := fun i' q hq => by
   obtain ⟨e, q1⟩ := lkp_del_some (htk.1 i' q hq)
   exact ⟨fun e' => e e'.symm, q1⟩
  have hin : i.toNat < xs.length := by omega
  have hrepT : repS w (αOf ν1 γ) (· ∈ ghG (ν1 p) ++ Gi) (.tab true t f) (su xs i x) [ν1 j] (F0 ++ (Fa ++ (Fi ++ Fb))) := by
   refine ⟨ν1 j, ua ++ (denL ν1 vs ++ ub), F0, Fa ++ (Fi ++ Fb), rfl, rfl, c7, ?_, ?_⟩
   ·have hlen : (su xs i x).length = xs.length := by simp [su]
    rw [hlen]
    have hul : (ua ++ (denL ν1 vs ++ ub)).length = xs.length * f.sz := by
     have e : (xs.length - (i.toNat + 1)) * f.sz + (i.toNat + 1) * f.sz = xs.length * f.sz := by rw [← Nat.add_mul]; congr 1; omega
     rw [List.length_append, List.length_append, k3.len, k4.len, List.length_take, List.length_drop, Nat.min_eq_left (by omega), denL_eq, List.length_map, c5]
     rw [Nat.add_mul] at e; omega
    exact k2.congr hul (fun _ _ => rfl) (fun _ _ => rfl) (fun b hb => List.mem_append.2 (.inl hb))
   ·have mono : ∀ x v F', repF w (αOf ν1 γ) (· ∈ ghG (ν1 p)) f x v F' → repF w (αOf ν1 γ) (· ∈ ghG (ν1 p) ++ Gi) f x v F' := fun x v F' hr => repF_congr (fun _ _ => rfl) (fun b hb => List.mem_append.2 (.inl hb)) f x v F' (fun _ _ => rfl) hr
    exact Elts.put hin (k3.imp fun x v F' _ hr => mono x v F' hr) (by rw [denL_eq, List.length_map, c5]) (repF_congr (fun _ _ => rfl) (fun b hb => List.mem_append.2 (.inr hb)) f x _ Fi (fun _ _ => rfl) hrep) (k4.imp fun x v F' _ hr => mono x v F' hr)
  have hmem : ∀ b, b ∈ F0 ++ (Fa ++ (Fi ++ Fb)) → (b ∈ mineL ν1 j (.opn t γ p f xs i vs)) ∨ b ∈ Fi := fun b hb => by
   simp only [List.mem_append] at hb
   rcases hb with hb | hb | hb | hb
   ·exact .inl (old b (.inl hb))
   ·exact .inl (old b (.inr (.inl hb)))
   ·exact .inr hb
   ·exact .inl (old b (.inr (.inr hb)))
  have hγ : ltNs st1.nx γ = true := by
   have := hl1.2
   simp only [hoLt, Bool.and_eq_true] at this
   exact this.2.1
  refine ⟨_, _, ⟨hR2.setTab (j := j) hl1.1 hγ c1 hrepT ?_ ?_ ?_ ?_ ?_ ?_ st.dirty, ?_, rfl, ?_⟩, hk⟩
  ·-- each block once
   rw [List.nodup_append]
   refine ⟨hndp.1, ?_, ?_⟩
   ·rw [List.nodup_append]
    refine ⟨hnd2.1, ?_, ?_⟩
    ·rw [List.nodup_append]
     exact ⟨htk.2.1, hnd2.2.1, fun b hb b' hb' e => by subst e; exact dis b hb (old b (.inr (.inr hb')))⟩
    ·intro b hb b' hb' e
     subst e
     rcases List.mem_append.1 hb' with hb' | hb'
     ·exact dis b hb' (old b (.inr (.inl hb)))
     ·exact hnd2.2.2 b hb b hb' rfl
   ·intro b hb b' hb' e
    subst e
    rcases List.mem_append.1 hb' with hb' | hb'
    ·exact hndp.2.2 b hb b (List.mem_append.2 (.inl hb')) rfl
    ·rcases List.mem_append.1 hb' with hb' | hb'
     ·exact dis b hb' (old b (.inl hb))
     ·exact hndp.2.2 b hb b (List.mem_append.2 (.inr hb')) rfl
  ·intro b hb
   rcases hmem b hb with hb | hb
   ·exact hR1.mine j _ b hj1 hb
   ·obtain ⟨i', o, _, q1, _, q3⟩ := hFi b hb
    exact hR1.mine i' o b q1 q3
  ·intro b hb
   rcases List.mem_append.1 hb with hb | hb
   ·exact ⟨hR1.seen j _ b hj1 hb, c2 b hb⟩
   ·obtain ⟨i', o, q1, q2⟩ := hGi b hb
    exact ⟨hR1.seen i' o b (hsub _ _ q1) q2, hoSat_lt (hR1.sat i' o (hsub _ _ q1)) b (.inr q2)⟩
  ·intro b hb i' q e hq
   obtain ⟨_, hq1⟩ := hkeep i' q hq
   rcases hmem b hb with hb | hb
   ·exact ⟨fun hb' => e (hR1.inj i' j q _ b hq1 hj1 hb' hb), fun hb' => hR1.apart j i' _ q b hj1 hq1 hb hb'⟩
   ·obtain ⟨i2, o, _, q1, q2, q3⟩ := hFi b hb
    refine ⟨fun hb' => ?_, fun hb' => hR1.apart i2 i' o q b q1 hq1 q3 hb'⟩
    have := hR1.inj i' i2 q o b hq1 q1 hb' q3
    subst this
    rw [q2] at hq; cases hq
  ·intro b hb i' q e hq hb'
   obtain ⟨_, hq1⟩ := hkeep i' q hq
   rcases List.mem_append.1 hb with hb | hb
   ·exact hR1.apart i' j q _ b hq1 hj1 hb' hb
   ·obtain ⟨i2, o, q1, q2⟩ := hGi b hb
    exact hR1.apart i' i2 q o b hq1 (hsub _ _ q1) hb' q2
  ·intro b hb hb'
   rcases hmem b hb with hb | hb
   ·rcases List.mem_append.1 hb' with hb' | hb'
    ·exact hR1.apart j j _ _ b hj1 hj1 hb hb'
    ·obtain ⟨i2, o, q1, q2⟩ := hGi b hb'
     exact hR1.apart j i2 _ o b hj1 (hsub _ _ q1) hb q2
   ·obtain ⟨i1, o1, _, p1, _, p3⟩ := hFi b hb
    rcases List.mem_append.1 hb' with hb' | hb'
    ·exact hR1.apart i1 j o1 _ b p1 hj1 p3 hb'
    ·obtain ⟨i2, o, q1, q2⟩ := hGi b hb'
     exact hR1.apart i1 i2 o1 o b p1 (hsub _ _ q1) p3 q2
  ·have := hz.nx
   show st.nx ≤ Nat.succ st1.nx
   omega
  ·intro i' hi'
   rw [hz.agree i' hi']
   exact upd_old (by have := hz.nx; show i' < st1.nx; omega)
 ·exact ⟨ν, st, Re.refl hR, h⟩
theorem foldJs_sound {β : Type} {S : Bl} {w0 w : World} {K : St → O β} {res : O β} (hne : res ≠ .no) : ∀ (js : List Nat) {ν : Nat → Value} {st : St}, RelW S w0 ν st w → foldJs js st K = res → ∃ ν' st', Re S w0 w ν st ν' st' ∧ K st' = res
 | [], ν, st, hR, h => ⟨ν, st, Re.refl hR, h⟩
 | j :: js, ν, st, hR, h => by
  obtain ⟨ν1, st1, h1, k1⟩ := foldJ_sound hR h hne
  obtain ⟨ν2, st2, h2, k2⟩ := foldJs_sound hne js h1.rel k1
  exact ⟨ν2, st2, h1.trans h2, k2⟩
mutual
theorem giveS_one {γ : List Nat} : ∀ (s : Sh) (x : s.T) (nx : Nat), (giveS γ s x nx).1.all isLeaf = true
 | .leaf l, x, nx => by have h := lf_leaf l x; show (isLeaf (l.enc x) && true) = true; rw [show isLeaf (l.enc x) = true from h]; rfl
 | .row _ _ _, _, _ => rfl
 | .map _ _ _ _ _, _, _ => rfl
 | .tab _ _ _, _, _ => rfl
 | .box _ _, _, _ => rfl
 | .agg f, x, nx => giveF_one f x nx
theorem giveF_one {γ : List Nat} : ∀ (f : Shs) (x : f.T) (nx : Nat), (giveF γ f x nx).1.all isLeaf = true
 | .one s ps, x, nx => by
  show ((giveS γ s x nx).1 ++ ps.map (pinV γ)).all isLeaf = true
  rw [List.all_append, giveS_one s x nx, Bool.true_and, List.all_map, List.all_eq_true]
  intro p _
  cases p <;> rfl
 | .cons s r, x, nx => by
  show ((giveS γ s x.1 nx).1 ++ (giveF γ r x.2 (nx + (giveS γ s x.1 nx).2.length)).1).all isLeaf = true
  rw [List.all_append, giveS_one s x.1 nx, giveF_one r x.2]; rfl
 | .pin p r, x, nx => by
  show (pinV γ p :: (giveF γ r x nx).1).all isLeaf = true
  rw [List.all_cons, giveF_one r x nx]
  cases p <;> rfl
 | .pins ps, x, nx => by
  show (ps.map (pinV γ)).all isLeaf = true
  rw [List.all_map, List.all_eq_true]
  intro p _
  cases p <;> rfl
end
theorem adds_lkp {os : List HO} : ∀ {st st2 : St} {j : Nat} {o : HO}, st2.nx = st.nx → (∀ i q, lkp i st2.H = some q → ¬ (i ≥ st.nx)) → (∀ i q, i ≠ j → lkp i st.H = some q → lkp i st2.H = some q) → ∀ i q, i ≠ j → lkp i (st.adds os).H = some q → lkp i (st2.adds os).H = some q := by
 induction os with
 | nil => intro st st2 j o e1 e2 e3 i q hi hq; exact e3 i q hi hq
 | cons o' os ih =>
  intro st st2 j o e1 e2 e3 i q hi hq
  simp only [St.adds] at hq ⊢
  refine ih (st := st.add o') (st2 := st2.add o') (j := j) (o := o) (by simp [St.add, e1]) ?_ ?_ i q hi hq
  ·intro i q hq
   simp only [St.add] at hq
   rw [lkp_cons] at hq
   split at hq
   ·rename_i e; show ¬ (i ≥ Nat.succ st.nx); omega
   ·have := e2 i q hq; show ¬ (i ≥ Nat.succ st.nx); omega
  ·intro i q hi hq
   simp only [St.add] at hq ⊢
   rw [lkp_cons] at hq ⊢
   rw [e1]
   split
   ·rename_i e; rw [if_pos e] at hq; exact hq
   ·rename_i e; rw [if_neg e] at hq; exact e3 i q hi hq
theorem openJ_sound {β : Type} {S : Bl} {w0 w : World} {ν : Nat → Value} {st : St} (hR : RelW S w0 ν st w) {j : Nat} {i : Int} {K : St → O β} {res : O β} (h : openJ j i st K = res) (hne : res ≠ .no) :
  ∃ ν' st', Re S w0 w ν st ν' st' ∧ K st' = res ∧ ∃ t γ p p' f xs vs, lkp j st.H = some (.tab true t γ p f xs) ∧ 0 ≤ i ∧ i < (xs.length : Int) ∧ lkp j st'.H = some (.opn t γ p' f xs i vs) := by
 unfold openJ at h
 split at h
 ·rename_i t γ p f xs hj
  obtain ⟨hi, h⟩ := O.chk_ne h hne
  simp only [decide_eq_true_eq] at hi
  have hl := hR.lt j _ hj
  obtain ⟨c1, c2, v, us, F0, F1, ev, hF, c7, hcol, helt⟩ := hR.sat j _ hj
  cases ev
  have hin : i.toNat < xs.length := by omega
  obtain ⟨va, vi, vb, Fa, Fi, Fb, e1, e2, e3, e4, k3, hri, k4⟩ := helt.at (dfltF f) hin
  have hlo := hl.2
  simp only [hoLt, Bool.and_eq_true] at hlo
  have hmine : mineL ν j (.tab true t γ p f xs) = F0 ++ (Fa ++ (Fi ++ Fb)) := by show ghF (ν p) = _; rw [hF, e2]
  have hnd := hR.nd j _ hj
  rw [hmine] at hnd
  have m0 := List.nodup_append.1 hnd
  have m1 := List.nodup_append.1 m0.2.1
  have m2 := List.nodup_append.1 m1.2.1
  have old : ∀ b, b ∈ F0 ∨ b ∈ Fa ∨ b ∈ Fi ∨ b ∈ Fb → b ∈ mineL ν j (.tab true t γ p f xs) := fun b hb => by rw [hmine]; simpa using hb
  have hRd : RelW S w0 ν ⟨st.nx, st.dirty, del j st.H⟩ w := hR.part (fun i' q hq => (lkp_del_some hq).2) st.dirty
  have hFree : Free S w0 w ν ⟨st.nx, st.dirty, del j st.H⟩ (· ∈ ghG (ν p)) Fi := by
   refine ⟨m2.1, fun b hb => hR.mine j _ b hj (old b (.inr (.inr (.inl hb)))), fun b hb i' q hq => ?_, fun b hb => ⟨hR.seen j _ b hj hb, fun hb' => hR.apart j j _ _ b hj hj (old b (.inr (.inr (.inl hb')))) hb, c2 b hb, fun i' q hq hb' => ?_⟩⟩
   ·obtain ⟨e, hq⟩ := lkp_del_some hq
    exact ⟨fun hb' => e (hR.inj j i' _ q b hj hq (old b (.inr (.inr (.inl hb)))) hb'), fun hb' => hR.apart j i' _ q b hj hq (old b (.inr (.inr (.inl hb)))) hb'⟩
   ·obtain ⟨e, hq⟩ := lkp_del_some hq
    exact hR.apart i' j q _ b hq hj hb' hb
  have hG : Gam γ γ.length (αOf ν γ) ν st.nx := ⟨rfl, fun k hk => ⟨ltNs_nth hlo.2 k hk, rfl⟩⟩
  obtain ⟨ν1, g, h2, h3⟩ := giveF_sound (γ := γ) (n := γ.length) (α := αOf ν γ) f _ vi Fi ν ⟨st.nx, st.dirty, del j st.H⟩ hRd hri hFree hG c1
  have hgt : gt (dfltF f) xs i = xs.getD i.toNat (dfltF f) := rfl
  rw [← hgt] at g h2 h3
  generalize hos : (giveF γ f (gt (dfltF f) xs i) st.nx).2 = os at h g h3
  have hone := giveF_one (γ := γ) f (gt (dfltF f) xs i) st.nx
  have hlen : (giveF γ f (gt (dfltF f) xs i) st.nx).1.length = f.sz := (giveF_plain ν f _ vi Fi st.nx hri).1
  generalize hcs : (giveF γ f (gt (dfltF f) xs i) st.nx).1 = cs at h h2 h3 hone hlen
  have hnx1 : ((⟨st.nx, st.dirty, del j st.H⟩ : St).adds os).nx = st.nx + os.length := adds_nx _ _
  have hd1 : ((⟨st.nx, st.dirty, del j st.H⟩ : St).adds os).dirty = st.dirty := adds_dirty _ _
  generalize hst1 : ((⟨st.nx, st.dirty, del j st.H⟩ : St).adds os) = st1 at g hnx1 hd1
  have gg := Given.ghost g.1 (fun _ => True) (mkG (F0 ++ (Fa ++ Fb)) (ghG (ν p)))
  have hold : ∀ i, i < st1.nx → ν1 i = upd ν1 st1.nx (mkG (F0 ++ (Fa ++ Fb)) (ghG (ν p))) i := fun i hi => upd_old hi
  have hpv : upd ν1 st1.nx (mkG (F0 ++ (Fa ++ Fb)) (ghG (ν p))) st1.nx = mkG (F0 ++ (Fa ++ Fb)) (ghG (ν p)) := upd_new
  have hagr : ∀ k, k < st.nx → ν k = upd ν1 st1.nx (mkG (F0 ++ (Fa ++ Fb)) (ghG (ν p))) k := fun k hk => by rw [← hold k (by omega)]; exact g.2.1 k hk
  have hlk : ∀ k q, k ≠ j → lkp k ((st1.nx, HO.ghost) :: st1.H) = some q → ∀ b, (b ∈ mineL (upd ν1 st1.nx (mkG (F0 ++ (Fa ++ Fb)) (ghG (ν p)))) k q → (∃ q', lkp k (del j st.H) = some q' ∨ True) ∧ ((∃ k' q', k' ≠ j ∧ lkp k' st.H = some q' ∧ b ∈ mineL ν k' q') ∨ b ∈ Fi)) ∧ (b ∈ seenL (upd ν1 st1.nx (mkG (F0 ++ (Fa ++ Fb)) (ghG (ν p)))) k q → (∃ k' q', k' ≠ j ∧ lkp k' st.H = some q' ∧ b ∈ seenL ν k' q') ∨ b ∈ ghG (ν p)) := by
   intro k q e hq b
   rw [lkp_cons] at hq
   split at hq
   ·cases hq
    exact ⟨fun h => (by cases h), fun h => (by cases h)⟩
   ·have hl' := g.1.lt k q (by rw [hst1]; exact hq)
    rw [hst1] at hl'
    rw [← mineL_congr hold hl'.1 hl'.2, ← seenL_congr hold hl'.1 hl'.2]
    have hg := g.2.2 k q b (by rw [hst1]; exact hq)
    refine ⟨fun hb => ⟨⟨q, .inr trivial⟩, ?_⟩, fun hb => ?_⟩
    ·rcases hg.1 hb with ⟨q', hq', hb'⟩ | hb'
     ·obtain ⟨e', hq'⟩ := lkp_del_some hq'
      exact .inl ⟨k, q', e, hq', hb'⟩
     ·exact .inr hb'
    ·rcases hg.2 hb with ⟨q', hq', hb'⟩ | hb'
     ·obtain ⟨e', hq'⟩ := lkp_del_some hq'
      exact .inl ⟨k, q', e, hq', hb'⟩
     ·exact .inr hb'
  have hpart : ∀ b ∈ F0 ++ (Fa ++ Fb), b ∈ mineL ν j (.tab true t γ p f xs) ∧ b ∉ Fi := fun b hb => by
   simp only [List.mem_append] at hb
   refine ⟨old b (by rcases hb with h | h | h <;> simp [h]), fun hb' => ?_⟩
   rcases hb with hb | hb | hb
   ·exact m0.2.2 b hb b (by simp [hb']) rfl
   ·exact m1.2.2 b hb b (by simp [hb']) rfl
   ·exact m2.2.2 b hb' b hb rfl
  have key : RelW S w0 (upd ν1 st1.nx (mkG (F0 ++ (Fa ++ Fb)) (ghG (ν p)))) ⟨Nat.succ st1.nx, st.dirty, (j, .opn t γ st1.nx f xs i cs) :: (st1.nx, .ghost) :: st1.H⟩ w := by
   have gg1 := gg.1
   rw [hst1] at gg1
   refine gg1.setG (j := j) (o := .opn t γ st1.nx f xs i cs) ?_ ?_ ?_ ?_ ?_ ?_ ?_ ?_ ?_ st.dirty
   ·show j < Nat.succ st1.nx
    have := hl.1; omega
   ·simp only [hoLt, Bool.and_eq_true]
    refine ⟨Nat.ble_eq_true_of_le (Nat.le_refl _), ltNs_mono (by show st.nx ≤ Nat.succ st1.nx; omega) γ hlo.2, belowL_mono (by show st.nx + os.length ≤ Nat.succ st1.nx; omega) cs h3⟩
   ·show f.lt γ.length = true ∧ (∀ b ∈ ghG (upd ν1 st1.nx (mkG (F0 ++ (Fa ++ Fb)) (ghG (ν p))) st1.nx), b < w.heap.size) ∧ 0 ≤ i ∧ i < (xs.length : Int) ∧ cs.length = f.sz ∧ cs.all isLeaf = true ∧ 1 ≤ f.sz ∧ ∃ ua ub F0' Fa' Fb', ghF (upd ν1 st1.nx (mkG (F0 ++ (Fa ++ Fb)) (ghG (ν p))) st1.nx) = F0' ++ (Fa' ++ Fb') ∧ ColIs w (· ∈ ghG (upd ν1 st1.nx (mkG (F0 ++ (Fa ++ Fb)) (ghG (ν p))) st1.nx)) true t f.sz xs.length (upd ν1 st1.nx (mkG (F0 ++ (Fa ++ Fb)) (ghG (ν p))) j) (ua ++ (denL (upd ν1 st1.nx (mkG (F0 ++ (Fa ++ Fb)) (ghG (ν p)))) cs ++ ub)) F0' ∧ Elts (repF w (αOf (upd ν1 st1.nx (mkG (F0 ++ (Fa ++ Fb)) (ghG (ν p)))) γ) (· ∈ ghG (upd ν1 st1.nx (mkG (F0 ++ (Fa ++ Fb)) (ghG (ν p))) st1.nx)) f) f.sz (xs.take i.toNat) ua Fa' ∧ Elts (repF w (αOf (upd ν1 st1.nx (mkG (F0 ++ (Fa ++ Fb)) (ghG (ν p)))) γ) (· ∈ ghG (upd ν1 st1.nx (mkG (F0 ++ (Fa ++ Fb)) (ghG (ν p))) st1.nx)) f) f.sz (xs.drop (i.toNat + 1)) ub Fb'
    rw [hpv, ghF_mk, ghG_mk, ← hagr j hl.1]
    have conv : ∀ x v F, repF w (αOf ν γ) (· ∈ ghG (ν p)) f x v F → repF w (αOf (upd ν1 st1.nx (mkG (F0 ++ (Fa ++ Fb)) (ghG (ν p)))) γ) (· ∈ ghG (ν p)) f x v F := fun x v F hr => repF_alpha (αOf_congr hagr hlo.2) f x v F c1 hr
    refine ⟨c1, c2, hi.1, hi.2, hlen, hone, c7, va, vb, F0, Fa, Fb, rfl, ?_, k3.imp fun x v F _ hr => conv x v F hr, k4.imp fun x v F _ hr => conv x v F hr⟩
    rw [← denL_congr hold cs (by rw [hnx1]; exact h3), h2, ← e1]
    exact hcol
   ·show (ghF (upd ν1 st1.nx _ st1.nx)).Nodup
    rw [hpv, ghF_mk, List.nodup_append]
    refine ⟨m0.1, ?_, fun b hb b' hb' e => m0.2.2 b hb b' (by rcases List.mem_append.1 hb' with h | h <;> simp [h]) e⟩
    rw [List.nodup_append]
    exact ⟨m1.1, m2.2.1, fun b hb b' hb' e => m1.2.2 b hb b' (by simp [hb']) e⟩
   ·show ∀ b ∈ ghF (upd ν1 st1.nx _ st1.nx), _
    rw [hpv, ghF_mk]
    exact fun b hb => hR.mine j _ b hj (hpart b hb).1
   ·show ∀ b ∈ ghG (upd ν1 st1.nx _ st1.nx), _
    rw [hpv, ghG_mk]
    exact fun b hb => hR.seen j _ b hj hb
   ·show ∀ b ∈ ghF (upd ν1 st1.nx _ st1.nx), _
    rw [hpv, ghF_mk]
    intro b hb k q e hq
    refine ⟨fun hb' => ?_, fun hb' => ?_⟩
    ·rcases ((hlk k q e hq b).1 hb').2 with ⟨k', q', n1, n2, n3⟩ | h
     ·exact n1 (hR.inj k' j q' _ b n2 hj n3 (hpart b hb).1)
     ·exact (hpart b hb).2 h
    ·rcases (hlk k q e hq b).2 hb' with ⟨k', q', n1, n2, n3⟩ | h
     ·exact hR.apart j k' _ q' b hj n2 (hpart b hb).1 n3
     ·exact hR.apart j j _ _ b hj hj (hpart b hb).1 h
   ·show ∀ b ∈ ghG (upd ν1 st1.nx _ st1.nx), _
    rw [hpv, ghG_mk]
    intro b hb k q e hq hb'
    rcases ((hlk k q e hq b).1 hb').2 with ⟨k', q', n1, n2, n3⟩ | h
    ·exact hR.apart k' j q' _ b n2 hj n3 hb
    ·exact hR.apart j j _ _ b hj hj (old b (.inr (.inr (.inl h)))) hb
   ·show ∀ b ∈ ghF (upd ν1 st1.nx _ st1.nx), b ∉ ghG (upd ν1 st1.nx _ st1.nx)
    rw [hpv, ghF_mk, ghG_mk]
    exact fun b hb hb' => hR.apart j j _ _ b hj hj (hpart b hb).1 hb'
  refine ⟨_, _, ⟨key.less (n := Nat.succ (st.nx + os.length)) (fun _ _ => rfl) (by show Nat.succ st1.nx ≤ _; omega) ?_ st.dirty, by show st.nx ≤ Nat.succ (st.nx + os.length); omega, rfl, hagr⟩, h, t, γ, p, _, f, xs, cs, hj, hi.1, hi.2, by rw [lkp_cons, if_pos rfl]⟩
  intro k q hq
  rw [← hnx1] at hq
  rw [lkp_cons] at hq ⊢
  split
  ·rename_i e; rw [if_pos e] at hq; exact hq
  ·rename_i e
   rw [if_neg e] at hq
   rw [lkp_cons] at hq ⊢
   split
   ·rename_i e'; rw [if_pos e'] at hq; exact hq
   ·rename_i e'
    rw [if_neg e'] at hq
    rw [← hst1]
    refine adds_lkp (st := st) (st2 := ⟨st.nx, st.dirty, del j st.H⟩) (j := j) (o := .ghost) rfl (fun i' q' hq' => ?_) (fun i' q' hi' hq' => ?_) k q (fun h => e h.symm) hq
    ·have := (hR.lt i' q' (lkp_del_some hq').2).1; omega
    ·show lkp i' (del j st.H) = some q'
     rw [lkp_del, if_neg (fun h => hi' h.symm)]; exact hq'
 ·exact absurd h.symm hne
end Go.Aq
end
section
namespace Go.Aq
open Go.RowKit (Below)
set_option linter.unusedVariables false
theorem seg_put {α : Type} (c : List α) (o off : Nat) (A X B N : List α) (ho : o ≤ c.length) (h1 : (c.drop o).take (A ++ (X ++ B)).length = A ++ (X ++ B)) (h2 : off + N.length ≤ X.length) :
  ((c.take (o + A.length + off) ++ N ++ c.drop (o + A.length + off + N.length)).drop o).take (A ++ (X ++ B)).length = A ++ ((X.take off ++ (N ++ X.drop (off + N.length))) ++ B) := by
 obtain ⟨R, hd⟩ : ∃ R, c.drop o = (A ++ (X ++ B)) ++ R := by
  refine ⟨(c.drop o).drop (A ++ (X ++ B)).length, ?_⟩
  have := (List.take_append_drop (A ++ (X ++ B)).length (c.drop o)).symm
  rw [h1] at this
  exact this
 obtain ⟨P, lP, hc⟩ : ∃ P : List α, P.length = o ∧ c = P ++ ((A ++ (X ++ B)) ++ R) := ⟨c.take o, by rw [List.length_take]; omega, by rw [← hd, List.take_append_drop]⟩
 subst hc
 clear h1 hd
 subst lP
 have e1 : (P ++ ((A ++ (X ++ B)) ++ R)).take (P.length + A.length + off) = P ++ (A ++ X.take off) := by
  rw [List.take_append, List.take_of_length_le (by omega), show P.length + A.length + off - P.length = A.length + off by omega, List.append_assoc, List.take_append, List.take_of_length_le (by omega), show A.length + off - A.length = off by omega, List.append_assoc, List.take_append, show off - X.length = 0 by omega]
  simp
 have e2 : (P ++ ((A ++ (X ++ B)) ++ R)).drop (P.length + A.length + off + N.length) = X.drop (off + N.length) ++ (B ++ R) := by
  rw [List.drop_append, List.drop_of_length_le (by omega), List.nil_append, show P.length + A.length + off + N.length - P.length = A.length + off + N.length by omega, List.append_assoc, List.drop_append, List.drop_of_length_le (by omega), List.nil_append, show A.length + off + N.length - A.length = off + N.length by omega, List.append_assoc, List.drop_append, show off + N.length - X.length = 0 by omega]
  simp
 rw [e1, e2]
 have e3 : (P ++ (A ++ X.take off) ++ N ++ (X.drop (off + N.length) ++ (B ++ R))).drop P.length = (A ++ ((X.take off ++ (N ++ X.drop (off + N.length))) ++ B)) ++ R := by
  rw [List.append_assoc, List.append_assoc, List.drop_left']
  ·simp only [List.append_assoc]
  ·rfl
 rw [e3, List.take_left']
 simp only [List.length_append, List.length_take, List.length_drop]
 omega
section
variable {S : Bl} {w0 w : World} {ν : Nat → Value} {st : St}
theorem RelW.opnAt (hR : RelW S w0 ν st w) {j : Nat} {t : TypeId} {γ : List Nat} {p : Nat} {f : Shs} {xs : List f.T} {i : Int} {vs : List SV} (hj : lkp j st.H = some (.opn t γ p f xs i vs)) :
  0 ≤ i ∧ i < (xs.length : Int) ∧ vs.length = f.sz ∧ ∃ b o cap cur fz ua ub F1, ν j = .slice (some ⟨b, o, none⟩) xs.length cap ∧ xs.length ≤ cap ∧ w.heap[b]? = some (.cells cur t fz) ∧ o + cap * f.sz ≤ cur.size ∧ Thawed cur.size fz ∧ ua.length = i.toNat * f.sz ∧
   (cur.toList.drop o).take (xs.length * f.sz) = ua ++ (denL ν vs ++ ub) ∧ (ua ++ (denL ν vs ++ ub)).length = xs.length * f.sz ∧ mineL ν j (.opn t γ p f xs i vs) = b :: F1 := by
 obtain ⟨c1, c2, c3, c4, c5, c6, c7, ua, ub, F0, Fa, Fb, k1, k2, k3, k4⟩ := hR.sat j _ hj
 have hul : (ua ++ (denL ν vs ++ ub)).length = xs.length * f.sz := by
  have e : (xs.length - (i.toNat + 1)) * f.sz + (i.toNat + 1) * f.sz = xs.length * f.sz := by rw [← Nat.add_mul]; congr 1; omega
  rw [List.length_append, List.length_append, k3.len, k4.len, List.length_take, List.length_drop, Nat.min_eq_left (by omega), denL_eq, List.length_map, c5]
  rw [Nat.add_mul] at e; omega
 rcases k2 with ⟨_, e, _⟩ | ⟨a, cap, e1, e2, _, e3⟩
 ·omega
 ·obtain ⟨f1, f2, f3, cur, fz, f4, f5, f6, f7⟩ := e3 rfl
  obtain ⟨b, o, sp⟩ := a
  simp only at f1 f2 f4 f5 f7
  subst f2
  refine ⟨c3, c4, c5, b, o, cap, cur, fz, ua, ub, Fa ++ Fb, e1, e2, f4, f5, f6, ?_, f7, hul, ?_⟩
  ·rw [k3.len, List.length_take, Nat.min_eq_left (by omega)]
  ·show ghF (ν p) = _
   rw [k1, f1]; rfl
theorem storeOpn {P : Program} (hR : RelW S w0 ν st w) {j : Nat} {t : TypeId} {γ : List Nat} {p : Nat} {f : Shs} {xs : List f.T} {i : Int} {vs new : List SV} {off : Nat} (hj : lkp j st.H = some (.opn t γ p f xs i vs))
  (hoff : off + new.length ≤ vs.length) (hn : new.all isLeaf = true) (hlt : belowL st.nx new = true) :
  ∃ w', (storeCells ⟨blk (ν j), offs (ν j) + i.toNat * f.sz + off, none⟩ (denL ν new)).run P w = .ok () w' ∧ w.heap.size ≤ w'.heap.size ∧ RelW S w0 ν (st.put j (.opn t γ p f xs i (setPart off new vs))) w' := by
 obtain ⟨h1, h2, h3, b, o, cap, cur, fz, ua, ub, F1, e1, e2, e3, e4, e5, e6, e7, e8, e9⟩ := hR.opnAt hj
 have hln : (denL ν new).length = new.length := denL_length ν new
 have hlv : (denL ν vs).length = vs.length := denL_length ν vs
 have hle : (i.toNat + 1) * f.sz ≤ xs.length * f.sz := Nat.mul_le_mul_right _ (by omega)
 have hle2 : xs.length * f.sz ≤ cap * f.sz := Nat.mul_le_mul_right _ e2
 rw [Nat.add_mul, Nat.one_mul] at hle
 have hst := run_storeCells_thaw P b (o + i.toNat * f.sz + off) t fz (denL ν new) 0 cur w e3 e5 (by omega) (leafL_one ν hn)
 simp only [Nat.add_zero] at hst
 have hb1 : blk (ν j) = b := by rw [e1]; rfl
 have hb2 : offs (ν j) = o := by rw [e1]; rfl
 rw [hb1, hb2]
 refine ⟨_, hst, by simp, ?_⟩
 obtain ⟨c1, c2, c3, c4, c5, c6, c7, ua', ub', F0, Fa, Fb, k1, k2, k3, k4⟩ := hR.sat j _ hj
 have hnd := hR.nd j _ hj
 have hmine : mineL ν j (.opn t γ p f xs i vs) = F0 ++ (Fa ++ Fb) := k1
 have hl := hR.lt j _ hj
 have hlo := hl.2
 simp only [hoLt, Bool.and_eq_true] at hlo
 have hF0 : F0 = [b] ∧ Fa ++ Fb = F1 := by
  rcases k2 with ⟨e, _⟩ | ⟨a, cap', e, _, _, q⟩
  ·rw [e1] at e; cases e
  ·rw [e1] at e
   cases e
   have := (q rfl).1
   rw [hmine, this] at e9
   exact ⟨this, by simpa using e9⟩
 rw [hmine, hF0.1] at hnd
 have hnb : b ∉ Fa ++ Fb := (List.nodup_cons.1 hnd).1
 have hval : (setPart off new vs).length = vs.length := by unfold setPart; simp only [List.length_append, List.length_take, List.length_drop]; omega
 refine hR.turn hj ⟨rfl, rfl, rfl, by simp⟩ rfl (fun b hb => hb) (fun c hc => setRow_other w b c _ (fun e => hc (by rw [e9]; simp [e]))) ?_ ?_
 ·simp only [hoLt, Bool.and_eq_true]
  exact ⟨hlo.1, hlo.2.1, setPart_lt hlt hlo.2.2⟩
 ·-- the same lists of cells around it
  have hua : ua' = ua ∧ ub' = ub := by
   have hcol := k2
   rcases hcol with ⟨e, _⟩ | ⟨a, cap', e, _, _, q⟩
   ·rw [e1] at e; cases e
   ·rw [e1] at e
    cases e
    obtain ⟨_, _, _, cur', fz', q4, _, _, q7⟩ := q rfl
    simp only at q4 q7
    rw [e3] at q4
    cases q4
    rw [e7] at q7
    have l1 : ua.length = ua'.length := by rw [e6, k3.len, List.length_take, Nat.min_eq_left (by omega)]
    obtain ⟨r1, r2⟩ := List.append_inj q7 l1
    exact ⟨r1.symm, (List.append_cancel_left r2).symm⟩
  obtain ⟨rfl, rfl⟩ := hua
  have same : ∀ c, c ≠ b → (w.setRow b (cur.toList.take (o + i.toNat * f.sz + off) ++ denL ν new ++ cur.toList.drop (o + i.toNat * f.sz + off + (denL ν new).length)).toArray).heap[c]? = w.heap[c]? := fun c hc => setRow_other w b c _ hc
  have hseen : ∀ c ∈ ghG (ν p), c ≠ b := fun c hc e => hR.apart j j _ _ b hj hj (by rw [e9]; simp) (by subst e; exact hc)
  refine ⟨c1, fun c hc => by simpa using c2 c hc, c3, c4, by rw [hval]; exact c5, ?_, c7, ua', ub', F0, Fa, Fb, k1, ?_, ?_, ?_⟩
  ·unfold setPart
   simp only [List.all_append, Bool.and_eq_true, hn, true_and]
   exact ⟨List.all_eq_true.2 fun x hx => List.all_eq_true.1 c6 x (List.mem_of_mem_take hx), List.all_eq_true.2 fun x hx => List.all_eq_true.1 c6 x (List.mem_of_mem_drop hx)⟩
  ·refine .inr ⟨⟨b, o, none⟩, cap, e1, e2, (fun h => by cases h), fun _ => ⟨hF0.1, rfl, ?_, (cur.toList.take (o + i.toNat * f.sz + off) ++ denL ν new ++ cur.toList.drop (o + i.toNat * f.sz + off + (denL ν new).length)).toArray, fz, setRow_heap w b _ _ t fz e3, ?_, ?_, ?_⟩⟩
   ·rcases k2 with ⟨e, _⟩ | ⟨a, cap', e, _, _, q⟩
    ·rw [e1] at e; cases e
    ·rw [e1] at e; cases e
     exact (q rfl).2.2.1
   ·simp only [List.size_toArray, List.length_append, List.length_take, List.length_drop, Array.length_toList]; omega
   ·have : (cur.toList.take (o + i.toNat * f.sz + off) ++ denL ν new ++ cur.toList.drop (o + i.toNat * f.sz + off + (denL ν new).length)).toArray.size = cur.size := by
     simp only [List.size_toArray, List.length_append, List.length_take, List.length_drop, Array.length_toList]; omega
    rw [this]; exact e5
   ·have hseg := seg_put cur.toList o off ua' (denL ν vs) ub' (denL ν new) (by simp; omega) (by rw [e8]; exact e7) (by omega)
    rw [e8, e6] at hseg
    have hd : denL ν (setPart off new vs) = (denL ν vs).take off ++ (denL ν new ++ (denL ν vs).drop (off + (denL ν new).length)) := by
     rw [hln]
     unfold setPart
     rw [denL_append, denL_append]
     simp only [denL_eq, List.map_take, List.map_drop]
    rw [hd]
    exact hseg
  ·exact k3.imp fun x v F hF hr => repF_congr (fun c hc => same c (hseen c hc)) (fun _ h => h) f x v F (fun c hc => same c fun e => hnb (by rw [← e]; exact List.mem_append.2 (.inl (hF c hc)))) hr
  ·exact k4.imp fun x v F hF hr => repF_congr (fun c hc => same c (hseen c hc)) (fun _ h => h) f x v F (fun c hc => same c fun e => hnb (by rw [← e]; exact List.mem_append.2 (.inr (hF c hc)))) hr
end
theorem ColIs.ownC {w : World} {Av : Nat → Prop} {t : TypeId} {n len : Nat} {v : Value} {us : List Value} {F : List Nat} (h : ColIs w Av true t n len v us F) (hl : us.length = len * n) : OwnC w v t n len us ∧ F = rowMine true v := by
 rcases h with ⟨e, h1, h2, h3⟩ | ⟨a, cap, e, hc, _, h2⟩
 ·exact ⟨⟨hl, .inl ⟨e, h1⟩⟩, by rw [h3, e]; rfl⟩
 ·obtain ⟨f1, f2, f3, cur, fz, f4, f5, f6, f7⟩ := h2 rfl
  obtain ⟨b, o, sp⟩ := a
  simp only at f1 f2 f4 f5 f7
  subst f2
  exact ⟨⟨hl, .inr ⟨b, o, cap, cur, fz, e, hc, f3, f4, f5, f6, f7⟩⟩, by rw [f1, e]; rfl⟩
theorem OwnC.col {w : World} {Av : Nat → Prop} {t : TypeId} {n len : Nat} {v : Value} {us : List Value} (h : OwnC w v t n len us) : ColIs w Av true t n len v us (rowMine true v) := by
 obtain ⟨hl, h⟩ := h
 rcases h with ⟨rfl, rfl⟩ | ⟨b, o, cap, cur, fz, rfl, h1, h2, h3, h4, h5, h6⟩
 ·exact .inl ⟨rfl, rfl, List.length_eq_zero_iff.1 (by rw [hl]; simp), rfl⟩
 ·exact .inr ⟨_, cap, rfl, h1, (fun h => by cases h), fun _ => ⟨rfl, rfl, h2, cur, fz, h3, h4, h5, h6⟩⟩
theorem ColIs.readC {w : World} {Av : Nat → Prop} {own : Bool} {t : TypeId} {n len : Nat} {v : Value} {us : List Value} {F : List Nat} (h : ColIs w Av own t n len v us F) (hl : us.length = len * n) : ReadC w v n len us := by
 refine ⟨hl, ?_⟩
 rcases h.reads with ⟨e, h1, _⟩ | ⟨a, cap, e, h1, h2, _⟩
 ·exact .inl ⟨e, h1⟩
 ·exact .inr ⟨a, cap, e, h1, h2⟩
structure Base (S : Bl) (w0 w : World) (ν : Nat → Value) (st : St) (t : TypeId) (γ : List Nat) (f : Shs) (xs : List f.T) (v : Value) (F G : List Nat) : Prop where
 rep : repS w (αOf ν γ) (· ∈ G) (.tab true t f) xs [v] F
 free : Free S w0 w ν st (· ∈ G) F
 lt : ltNs st.nx γ = true
 fl : f.lt γ.length = true
section
variable {S : Bl} {w0 w : World} {ν : Nat → Value} {st : St}
theorem Base.nil (t : TypeId) (f : Shs) (h1 : 1 ≤ f.sz) (hl : f.lt 0 = true) : Base S w0 w ν st t [] f [] (.slice none 0 0) [] [] :=
 ⟨⟨_, [], [], [], rfl, rfl, h1, .inl ⟨rfl, rfl, rfl, rfl⟩, ⟨rfl, rfl⟩⟩, ⟨List.nodup_nil, fun b hb => (by cases hb), fun b hb => (by cases hb), fun b hb => (by cases hb)⟩, rfl, hl⟩
theorem RelW.base (hR : RelW S w0 ν st w) {j : Nat} {t : TypeId} {γ : List Nat} {p : Nat} {f : Shs} {xs : List f.T} (hj : lkp j st.H = some (.tab true t γ p f xs)) (d : Bool) : Base S w0 w ν ⟨st.nx, d, del j st.H⟩ t γ f xs (ν j) (ghF (ν p)) (ghG (ν p)) := by
 obtain ⟨h1, h2, h3⟩ := hR.sat j _ hj
 have hl := (hR.lt j _ hj).2
 simp only [hoLt, Bool.and_eq_true] at hl
 refine ⟨h3, ⟨hR.nd j _ hj, fun b hb => hR.mine j _ b hj hb, fun b hb i q hq => ?_, fun b hb => ⟨hR.seen j _ b hj hb, fun hb' => hR.apart j j _ _ b hj hj hb' hb, h2 b hb, fun i q hq hb' => ?_⟩⟩, hl.2, h1⟩
 ·obtain ⟨e, hq⟩ := lkp_del_some hq
  exact ⟨fun hb' => e (hR.inj j i _ q b hj hq hb hb'), fun hb' => hR.apart j i _ q b hj hq hb hb'⟩
 ·obtain ⟨e, hq⟩ := lkp_del_some hq
  exact hR.apart i j q _ b hq hj hb' hb
theorem Base.frz {t : TypeId} {γ : List Nat} {f : Shs} {xs : List f.T} {v : Value} {F G : List Nat} (h : Base S w0 w ν st t γ f xs v F G) {ν' : Nat → Value} {st' : St} (z : Frz S w0 w ν st ν' st') : Base S w0 w ν' st' t γ f xs v F G := by
 refine ⟨repS_alpha (αOf_congr z.agree h.lt) (.tab true t f) xs _ _ h.fl h.rep, ⟨h.free.nodup, h.free.mine, fun b hb i q hq => ⟨fun hb' => ?_, fun hb' => ?_⟩, fun b hb => ⟨(h.free.av b hb).1, (h.free.av b hb).2.1, (h.free.av b hb).2.2.1, fun i q hq hb' => ?_⟩⟩, ltNs_mono z.nx γ h.lt, h.fl⟩
 ·obtain ⟨o', h1, h2⟩ := z.mine i q b hq hb'
  exact (h.free.apart b hb i o' h1).1 h2
 ·obtain ⟨o', h1, h2⟩ := z.seen i q b hq hb'
  rcases h2 with h2 | h2
  ·exact (h.free.apart b hb i o' h1).1 h2
  ·exact (h.free.apart b hb i o' h1).2 h2
 ·obtain ⟨o', h1, h2⟩ := z.mine i q b hq hb'
  exact (h.free.av b hb).2.2.2 i o' h1 h2
theorem Base.part {t : TypeId} {γ : List Nat} {f : Shs} {xs : List f.T} {v : Value} {F G : List Nat} (h : Base S w0 w ν st t γ f xs v F G) {H : Heap} (hs : ∀ j o, lkp j H = some o → lkp j st.H = some o) (d : Bool) : Base S w0 w ν ⟨st.nx, d, H⟩ t γ f xs v F G :=
 ⟨h.rep, ⟨h.free.nodup, h.free.mine, fun b hb i q hq => h.free.apart b hb i q (hs i q hq), fun b hb => ⟨(h.free.av b hb).1, (h.free.av b hb).2.1, (h.free.av b hb).2.2.1, fun i q hq => (h.free.av b hb).2.2.2 i q (hs i q hq)⟩⟩, h.lt, h.fl⟩
structure More (S : Bl) (w0 w : World) (ν : Nat → Value) (st : St) (γ : List Nat) (f : Shs) (ys : List f.T) (us : List Value) (Fi Gi : List Nat) : Prop where
 rep : Elts (repF w (αOf ν γ) (· ∈ Gi) f) f.sz ys us Fi
 free : Free S w0 w ν st (· ∈ Gi) Fi
theorem rowMine_nodup (v : Value) : (rowMine true v).Nodup := by
 unfold rowMine
 simp only
 split <;> simp
theorem app_sound {P : Program} {t e : TypeId} {k : TK} {f : Shs} (ht : P.underlying t = some (.slice e)) (tk : TyOk P e k) (hsz : k.size = f.sz) (ty : TypeId) {γ : List Nat} {xs ys : List f.T} {v u : Value} {us : List Value} {F G Fi Gi : List Nat}
  (hR : RelW S w0 ν st w) (hB : Base S w0 w ν st e γ f xs v F G) (hM : More S w0 w ν st γ f ys us Fi Gi) (hd : ∀ b ∈ Fi, b ∉ F) (hd1 : ∀ b ∈ Fi, b ∉ G) (hd2 : ∀ b ∈ Gi, b ∉ F) (hu : ReadC w u f.sz ys.length us) (hone : ∀ x ∈ us, x.oneCell' = true) (hlen : xs.length + ys.length ≤ 1073741824) :
  ∃ v' w' ν', (Builtin.append_ #[t, t] ty #[v, u]).run P w = .ok v' w' ∧ w.heap.size ≤ w'.heap.size ∧ RelW S w0 ν' ⟨Nat.succ (Nat.succ st.nx), true, (Nat.succ st.nx, .tab true e (gOf γ f) st.nx f (xs ++ ys)) :: (st.nx, .ghost) :: st.H⟩ w' ∧ (∀ j, j < st.nx → ν j = ν' j) ∧ v' = den ν' (.osl (Nat.succ st.nx)) := by
 obtain ⟨i, hi, his, hby, z, hz, hzd⟩ := tk.info
 have hzs : z.cells.size = f.sz := by rw [← hzd ν, cellsOf_den]; simp [denL_length, tk.zlen, hsz]
 obtain ⟨v0, us0, F0, F1, ev, rfl, h1, hcol, helt⟩ := hB.rep
 cases ev
 obtain ⟨hown, hF0⟩ := hcol.ownC helt.len
 obtain ⟨v', w', hr, hext, hown', hsame, hnew⟩ := run_append_cells (P := P) w ht hi hz (by rw [his, hsz]) hzs hby ty hown hu hone hlen
 have hnd := List.nodup_append.1 hB.free.nodup
 have m0 : ∀ b ∈ rowMine true v', b ∈ F0 ∨ b = w.heap.size := fun b hb => by rw [hF0]; exact hnew b hb
 have F1lt : ∀ b ∈ F1, b < w.heap.size := fun b hb => helt.mem (fun x v F hr b hb => repF_lt f x v F hr b hb) b hb
 have Filt : ∀ b ∈ Fi, b < w.heap.size := fun b hb => hM.rep.mem (fun x v F hr b hb => repF_lt f x v F hr b hb) b hb
 have sm : ∀ b, b < w.heap.size → b ∉ F0 → w'.heap[b]? = w.heap[b]? := fun b hb hn => hsame b hb (by rw [← hF0]; exact hn)
 have hRw : RelW S w0 ν ⟨st.nx, true, st.H⟩ w' := by
  refine (hR.part (fun _ _ h => h) true).world hext (fun j o b hj hb => sm b (hoSat_lt (hR.sat j o hj) b hb) fun hb' => ?_) (fun b hb hS => sm b (Nat.lt_of_lt_of_le hb hR.size) fun hb' => ?_)
  ·have := hB.free.apart b (List.mem_append.2 (.inl hb')) j o hj
   exact hb.elim this.1 this.2
  ·rcases hB.free.mine b (List.mem_append.2 (.inl hb')) with h | h
   ·exact hS h
   ·omega
 have hrep : repS w' (αOf ν γ) (· ∈ G ++ Gi) (.tab true e f) (xs ++ ys) [v'] (rowMine true v' ++ (F1 ++ Fi)) := by
  refine ⟨v', us0 ++ us, rowMine true v', F1 ++ Fi, rfl, rfl, h1, ?_, ?_⟩
  ·rw [List.length_append]; exact hown'.col
  ·refine (helt.imp fun x v F hF hr => ?_).append (hM.rep.imp fun x v F hF hr => ?_)
   ·refine repF_congr (fun b hb => sm b (hB.free.av b hb).2.2.1 fun hb' => (hB.free.av b hb).2.1 (List.mem_append.2 (.inl hb'))) (fun b hb => List.mem_append.2 (.inl hb)) f x v F (fun b hb => sm b (F1lt b (hF b hb)) fun hb' => ?_) hr
    exact hnd.2.2 b hb' b (hF b hb) rfl
   ·exact repF_congr (fun b hb => sm b (hM.free.av b hb).2.2.1 fun hb' => hd2 b hb (List.mem_append.2 (.inl hb'))) (fun b hb => List.mem_append.2 (.inr hb)) f x v F (fun b hb => sm b (Filt b (hF b hb)) fun hb' => hd b (hF b hb) (List.mem_append.2 (.inl hb'))) hr
 have hfree : Free S w0 w' ν ⟨st.nx, true, st.H⟩ (· ∈ G ++ Gi) (rowMine true v' ++ (F1 ++ Fi)) := by
  refine ⟨?_, ?_, ?_, ?_⟩
  ·rw [List.nodup_append]
   refine ⟨rowMine_nodup v', ?_, fun b hb b' hb' e => ?_⟩
   ·rw [List.nodup_append]
    exact ⟨hnd.2.1, hM.free.nodup, fun b hb b' hb' e => by subst e; exact hd b hb' (List.mem_append.2 (.inr hb))⟩
   ·subst e
    rcases m0 b hb with h | h
    ·rcases List.mem_append.1 hb' with h' | h'
     ·exact hnd.2.2 b h b h' rfl
     ·exact hd b h' (List.mem_append.2 (.inl h))
    ·rcases List.mem_append.1 hb' with h' | h'
     ·have := F1lt b h'; omega
     ·have := Filt b h'; omega
  ·intro b hb
   rcases List.mem_append.1 hb with hb | hb
   ·rcases m0 b hb with h | h
    ·exact hB.free.mine b (List.mem_append.2 (.inl h))
    ·rw [h]; exact .inr hR.size
   ·rcases List.mem_append.1 hb with hb | hb
    ·exact hB.free.mine b (List.mem_append.2 (.inr hb))
    ·exact hM.free.mine b hb
  ·intro b hb j o hj
   rcases List.mem_append.1 hb with hb | hb
   ·rcases m0 b hb with h | h
    ·exact hB.free.apart b (List.mem_append.2 (.inl h)) j o hj
    ·exact ⟨fun hb' => by have := hoSat_lt (hR.sat j o hj) b (.inl hb'); omega, fun hb' => by have := hoSat_lt (hR.sat j o hj) b (.inr hb'); omega⟩
   ·rcases List.mem_append.1 hb with hb | hb
    ·exact hB.free.apart b (List.mem_append.2 (.inr hb)) j o hj
    ·exact hM.free.apart b hb j o hj
  ·intro b hb
   have hsz' := hext.size
   rcases List.mem_append.1 hb with hb | hb
   ·have := hB.free.av b hb
    refine ⟨this.1, fun hb' => ?_, by omega, this.2.2.2⟩
    rcases List.mem_append.1 hb' with h | h
    ·rcases m0 b h with h | h
     ·exact this.2.1 (List.mem_append.2 (.inl h))
     ·omega
    ·rcases List.mem_append.1 h with h | h
     ·exact this.2.1 (List.mem_append.2 (.inr h))
     ·exact hd1 b h hb
   ·have := hM.free.av b hb
    refine ⟨this.1, fun hb' => ?_, by omega, this.2.2.2⟩
    rcases List.mem_append.1 hb' with h | h
    ·rcases m0 b h with h | h
     ·exact hd2 b hb (List.mem_append.2 (.inl h))
     ·omega
    ·rcases List.mem_append.1 h with h | h
     ·exact hd2 b hb (List.mem_append.2 (.inr h))
     ·exact this.2.1 h
 have hG : Gam γ γ.length (αOf ν γ) ν st.nx := ⟨rfl, fun k hk => ⟨ltNs_nth hB.lt k hk, rfl⟩⟩
 obtain ⟨ν', g, e1, _⟩ := giveS_sound (γ := γ) (n := γ.length) (α := αOf ν γ) (.tab true e f) (xs ++ ys) [v'] _ ν ⟨st.nx, true, st.H⟩ hRw hrep hfree hG hB.fl
 refine ⟨v', w', ν', hr, hext.size, g.1, g.2.1, ?_⟩
 have e1 : denL ν' [.osl (Nat.succ st.nx)] = [v'] := e1
 simp only [denL, List.cons.injEq, and_true] at e1
 exact e1.symm
theorem Free.sub {Av : Nat → Prop} {F F' : List Nat} (h : Free S w0 w ν st Av F) (hs : F'.Sublist F) : Free S w0 w ν st Av F' :=
 ⟨hs.nodup h.nodup, fun b hb => h.mine b (hs.subset hb), fun b hb => h.apart b (hs.subset hb), fun b hb => ⟨(h.av b hb).1, fun c => (h.av b hb).2.1 (hs.subset c), (h.av b hb).2.2⟩⟩
theorem RelW.recutT (hR : RelW S w0 ν st w) {j : Nat} {t : TypeId} {γ : List Nat} {p : Nat} {f : Shs} {xs : List f.T} (hj : lkp j st.H = some (.tab true t γ p f xs)) {ch : List Int} {n : Int} (hp : posI ch = true) (h0 : 0 ≤ n) (h1 : sumI ch + n ≤ (xs.length : Int)) :
  ∃ ν', RelW S w0 ν' ⟨Nat.succ (Nat.succ st.nx), st.dirty, (Nat.succ st.nx, .tab true t (gOf γ f) st.nx f (sub xs (sumI ch) n)) :: (st.nx, .ghost) :: del j st.H⟩ w ∧ (∀ i, i < st.nx → ν i = ν' i) ∧ cutV f.sz ch n (ν j) = den ν' (.osl (Nat.succ st.nx)) := by
 have hB := hR.base hj st.dirty
 have hs := sumI_nonneg hp
 obtain ⟨v0, us, F0, F1, ev, hF, hsz, hcol, helt⟩ := hB.rep
 cases ev
 have hl : (sub xs (sumI ch) n).length = n.toNat := by unfold sub; rw [List.length_take, List.length_drop]; omega
 have hx : xs.take (sumI ch).toNat ++ (sub xs (sumI ch) n ++ (xs.drop (sumI ch).toNat).drop n.toNat) = xs := by
  unfold sub
  rw [List.take_append_drop, List.take_append_drop]
 have helt0 := helt
 rw [← hx] at helt
 obtain ⟨ua, u2, Fa, F2, e1, e2, ea, eb⟩ := helt.split
 obtain ⟨ub, uc, Fb, Fc, e3, e4, ec, ed⟩ := eb.split
 have la := ea.len
 have lb := ec.len
 have l0 : (xs.take (sumI ch).toNat).length = (sumI ch).toNat := by rw [List.length_take]; omega
 rw [l0] at la
 rw [hl] at lb
 have hub : ub = (us.drop ((sumI ch).toNat * f.sz)).take (n.toNat * f.sz) := by
  rw [e1, ← la, List.drop_left, e3, ← lb, List.take_left]
 have hcol' : ∃ F0', F0'.Sublist F0 ∧ ColIs w (· ∈ ghG (ν p)) true t f.sz n.toNat (cutV f.sz ch n (ν j)) ub F0' := by
  rcases hcol with ⟨g1, g2, g3, g4⟩ | ⟨⟨b, o, sp⟩, cap, g1, g2, -, g4⟩
  ·have hn : n.toNat = 0 := by omega
   refine ⟨[], List.nil_sublist _, .inl ⟨by rw [g1]; rfl, hn, ?_, rfl⟩⟩
   rw [hn] at lb
   exact List.length_eq_zero_iff.1 (by rw [lb]; omega)
  ·obtain ⟨f1, f2, f3, cur, fz, f4, f5, f6, f7⟩ := g4 rfl
   simp only at f1 f2 f4 f5 f7
   subst f2
   obtain ⟨k', k1, k2, k5⟩ := chop_some f.sz b o ch 0 cap hp
   rw [Nat.zero_mul, Nat.add_zero] at k2
   have k3 := chop_cap f.sz ch (⟨b, o, none⟩, cap) hp
   have k4 : 0 < n → k' = (sumI ch).toNat := fun hn => by have := k5 (by omega); omega
   refine ⟨F0, List.Sublist.refl _, .inr ⟨⟨b, o + k' * f.sz, none⟩, cap - (sumI ch).toNat, ?_, by omega, (fun h => by cases h), fun _ => ⟨f1, rfl, by omega, cur, fz, f4, ?_, f6, ?_⟩⟩⟩
   ·rw [g1]
    show Value.slice (some (chop f.sz ch (⟨b, o, none⟩, cap)).1) n.toNat (chop f.sz ch (⟨b, o, none⟩, cap)).2 = _
    rw [k2, k3]
   ·have e1 : (k' + (cap - (sumI ch).toNat)) * f.sz ≤ cap * f.sz := Nat.mul_le_mul_right _ (by omega)
    rw [Nat.add_mul] at e1
    show o + k' * f.sz + (cap - (sumI ch).toNat) * f.sz ≤ cur.size
    omega
   ·by_cases hn : 0 < n
    ·rw [hub, k4 hn, ← f7, List.drop_take, List.take_take, List.drop_drop]
     congr 1
     have e1 : ((sumI ch).toNat + n.toNat) * f.sz ≤ xs.length * f.sz := Nat.mul_le_mul_right _ (by omega)
     rw [Nat.add_mul] at e1
     omega
    ·have hn0 : n.toNat = 0 := by omega
     rw [hub, hn0]
     simp
 obtain ⟨F0', hs0, hcol'⟩ := hcol'
 have hsub : (F0' ++ Fb).Sublist (ghF (ν p)) := by
  rw [hF, e2, e4]
  exact hs0.append ((List.sublist_append_left Fb Fc).trans (List.sublist_append_right Fa (Fb ++ Fc)))
 have hrep : repS w (αOf ν γ) (· ∈ ghG (ν p)) (.tab true t f) (sub xs (sumI ch) n) [cutV f.sz ch n (ν j)] (F0' ++ Fb) :=
  ⟨_, ub, F0', Fb, rfl, rfl, hsz, by rw [hl]; exact hcol', ec⟩
 have hG : Gam γ γ.length (αOf ν γ) ν st.nx := ⟨rfl, fun k hk => ⟨ltNs_nth hB.lt k hk, rfl⟩⟩
 obtain ⟨ν', g, e5, _⟩ := giveS_sound (γ := γ) (n := γ.length) (α := αOf ν γ) (.tab true t f) (sub xs (sumI ch) n) [cutV f.sz ch n (ν j)] _ ν ⟨st.nx, st.dirty, del j st.H⟩ (hR.part (fun _ _ h => (lkp_del_some h).2) st.dirty) hrep (hB.free.sub hsub) hG hB.fl
 have e5 : denL ν' [.osl (Nat.succ st.nx)] = [cutV f.sz ch n (ν j)] := e5
 simp only [denL, List.cons.injEq, and_true] at e5
 exact ⟨ν', g.1, g.2.1, e5.symm⟩
mutual
theorem repS_one {w : World} {α : Nat → Value} {Av : Nat → Prop} : ∀ (s : Sh), s.tabOk = true → ∀ (x : s.T) (vs : List Value) (F : List Nat), repS w α Av s x vs F → ∀ v ∈ vs, v.oneCell' = true
 | .leaf l, _, x, vs, F, h, v, hv => by
  rw [h.1, List.mem_singleton] at hv
  subst hv
  exact leaf_one ν0 (lf_leaf l x)
 | .row own t ls, _, x, vs, F, h, v, hv => by
  obtain ⟨v', rfl, _, hs, _⟩ := h
  rw [List.mem_singleton] at hv
  subst hv
  rcases hs with ⟨rfl, _⟩ | ⟨a, cap, rfl, _⟩ <;> rfl
 | .map _ _ _ _ _, hs, _, _, _, _, _, _ => by simp [Sh.tabOk] at hs
 | .tab own t f, _, x, vs, F, h, v, hv => by
  obtain ⟨v', us, F0, F1, rfl, _, _, hc, _⟩ := h
  rw [List.mem_singleton] at hv
  subst hv
  rcases hc with ⟨rfl, _⟩ | ⟨a, cap, rfl, _⟩ <;> rfl
 | .box _ _, hs, _, _, _, _, _, _ => by simp [Sh.tabOk] at hs
 | .agg f, hs, x, vs, F, h, v, hv => repF_one f hs x vs F h v hv
theorem repF_one {w : World} {α : Nat → Value} {Av : Nat → Prop} : ∀ (f : Shs), f.tabOk = true → ∀ (x : f.T) (vs : List Value) (F : List Nat), repF w α Av f x vs F → ∀ v ∈ vs, v.oneCell' = true
 | .one s ps, hs, x, vs, F, h, v, hv => by
  simp only [Shs.tabOk, Bool.and_eq_true, List.isEmpty_iff] at hs
  obtain ⟨us, rfl, h⟩ := h
  rw [hs.2] at hv
  simp at hv
  exact repS_one s hs.1 x us F h v hv
 | .cons s r, hs, x, vs, F, h, v, hv => by
  simp only [Shs.tabOk, Bool.and_eq_true] at hs
  obtain ⟨v1, v2, F1, F2, rfl, _, h1, h2⟩ := h
  rcases List.mem_append.1 hv with hv | hv
  ·exact repS_one s hs.1 x.1 v1 F1 h1 v hv
  ·exact repF_one r hs.2 x.2 v2 F2 h2 v hv
 | .pin _ _, hs, _, _, _, _, _, _ => by simp [Shs.tabOk] at hs
 | .pins _, hs, _, _, _, _, _, _ => by simp [Shs.tabOk] at hs
end
theorem elts_one {w : World} {α : Nat → Value} {Av : Nat → Prop} {f : Shs} (hf : f.tabOk = true) : ∀ {xs : List f.T} {us : List Value} {F : List Nat}, Elts (repF w α Av f) f.sz xs us F → ∀ v ∈ us, v.oneCell' = true
 | [], _, _, h, v, hv => by rw [h.1] at hv; cases hv
 | x :: xs, us, F, h, v, hv => by
  obtain ⟨v1, v2, F1, F2, rfl, _, _, h1, h2⟩ := h
  rcases List.mem_append.1 hv with hv | hv
  ·exact repF_one f hf x v1 F1 h1 v hv
  ·exact elts_one hf h2 v hv
theorem appT_sound {T : Type} {P : Program} {t e : TypeId} {k : TK} {f : Shs} (ht : P.underlying t = some (.slice e)) (tk : TyOk P e k) (hsz : k.size = f.sz) (ty : TypeId) {γ : List Nat} {xs : List f.T} {v : Value} {F G : List Nat}
  (hR : RelW S w0 ν st w) (hB : Base S w0 w ν st e γ f xs v F G) {u : SV} {K : SV → St → O T} {res : O T} (h : appT e γ f xs u st K = res) (hne : res ≠ .no) :
  ∃ v' w' ν' st' r, (Builtin.append_ #[t, t] ty #[v, den ν u]).run P w = .ok v' w' ∧ w.heap.size ≤ w'.heap.size ∧ RelW S w0 ν' st' w' ∧ st.nx ≤ st'.nx ∧ st'.dirty = true ∧ (∀ j, j < st.nx → ν j = ν' j) ∧ v' = den ν' r ∧ svLt st'.nx r = true ∧ K r st' = res := by
 unfold appT at h
 split at h
 ·rename_i ju
  split at h
  ·rename_i T' vs hju
   by_cases hc : (Nat.beq vs.length f.sz && vs.all isLeaf) = true
   ·rw [hc, ifb_true] at h
    simp only [Bool.and_eq_true] at hc
    have hvl := Nat.eq_of_beq_eq_true hc.1
    obtain ⟨ν1, hz⟩ := frzF_sound f vs hR
    generalize hst1 : frzF f vs st = st1 at h hz
    have hB1 := hB.frz hz
    have hR1 := hz.rel
    have hju1 : lkp ju st1.H = some (.cells T' vs) := hz.stays ju _ hju (fun _ _ _ e => by cases e) (fun _ _ _ _ _ e => by cases e)
    have hsub : ∀ i' o, lkp i' (del ju st1.H) = some o → lkp i' st1.H = some o := fun i' o hi => (lkp_del_some hi).2
    obtain ⟨x, H', Fi, hk, hrep, htk⟩ := takeF_sound (Av := fun b => ∃ i' o, lkp i' (del ju st1.H) = some o ∧ b ∈ seenL ν1 i' o) hR1 (α := αOf ν1 γ) (fun _ _ => rfl) hne f vs (del ju st1.H) _ hsub (fun i' o b hi hb => by
     rcases hb with hb | hb
     ·exact ⟨i', o, hi, hb⟩
     ·cases hb.1) h
    obtain ⟨hlen, hk⟩ := O.chk_ne hk hne
    simp only [decide_eq_true_eq] at hlen
    obtain ⟨Gi, hGi, hrep⟩ := repF_list f x _ Fi hrep
    have hsubH : ∀ i' o, lkp i' H' = some o → lkp i' st1.H = some o := fun i' o hi => hsub i' o (htk.1 i' o hi)
    have hlt := (hR.lt ju _ hju).2
    have hden : denL ν1 vs = denL ν vs := (denL_congr hz.agree vs (by simpa only [hoLt] using hlt)).symm
    obtain ⟨b, hb, hcell⟩ := hR.sat ju _ hju
    have hM : More S w0 w ν1 ⟨st1.nx, true, H'⟩ γ f [x] (denL ν1 vs) Fi Gi := by
     refine ⟨⟨denL ν1 vs, [], Fi, [], by simp, by simp, by rw [denL_length, hvl], hrep, ⟨rfl, rfl⟩⟩, ⟨htk.2.1, fun b hb => ?_, fun b hb i' q hq => ?_, fun b hb => ?_⟩⟩
     ·obtain ⟨i1, o1, p1, _, p3⟩ := htk.2.2 b hb
      exact hR1.mine i1 o1 b (hsub _ _ p1) p3
     ·obtain ⟨i1, o1, p1, p2, p3⟩ := htk.2.2 b hb
      refine ⟨fun hb' => ?_, fun hb' => hR1.apart i1 i' o1 q b (hsub _ _ p1) (hsubH _ _ hq) p3 hb'⟩
      have := hR1.inj i1 i' o1 q b (hsub _ _ p1) (hsubH _ _ hq) p3 hb'
      subst this
      rw [p2] at hq; cases hq
     ·obtain ⟨i1, o1, p1, p2⟩ := hGi b hb
      refine ⟨hR1.seen i1 o1 b (hsub _ _ p1) p2, fun hb' => ?_, hoSat_lt (hR1.sat i1 o1 (hsub _ _ p1)) b (.inr p2), fun i' q hq hb' => hR1.apart i' i1 q o1 b (hsubH _ _ hq) (hsub _ _ p1) hb' p2⟩
      obtain ⟨i2, o2, q1, _, q3⟩ := htk.2.2 b hb'
      exact hR1.apart i2 i1 o2 o1 b (hsub _ _ q1) (hsub _ _ p1) q3 p2
    have hd1 : ∀ b ∈ Fi, b ∉ F := fun b hb hb' => by
     obtain ⟨i1, o1, p1, _, p3⟩ := htk.2.2 b hb
     exact (hB1.free.apart b hb' i1 o1 (hsub _ _ p1)).1 p3
    have hd2 : ∀ b ∈ Fi, b ∉ G := fun b hb hb' => by
     obtain ⟨i1, o1, p1, _, p3⟩ := htk.2.2 b hb
     exact (hB1.free.av b hb').2.2.2 i1 o1 (hsub _ _ p1) p3
    have hd3 : ∀ b ∈ Gi, b ∉ F := fun b hb hb' => by
     obtain ⟨i1, o1, p1, p2⟩ := hGi b hb
     exact (hB1.free.apart b hb' i1 o1 (hsub _ _ p1)).2 p2
    have hrd : ReadC w (den ν (.csl ju 1)) f.sz [x].length (denL ν1 vs) := by
     refine ⟨by rw [denL_length, hvl]; simp, .inr ⟨⟨b, 0, none⟩, 1, ?_, Nat.le_refl _, fun i u hu => ?_⟩⟩
     ·simp only [den, hb, blk]; rfl
     ·rw [hden] at hu
      rw [add_plain, cell_of_row w b (0 + i) _ _ _ hcell]
      simpa using hu
    obtain ⟨v', w', ν', a1, a2, a3, a4, a5⟩ := app_sound (P := P) ht tk hsz ty (hR1.part hsubH true) (hB1.part hsubH true) hM hd1 hd2 hd3 hrd (leafL_one ν1 hc.2) hlen
    refine ⟨v', w', ν', _, .osl (Nat.succ st1.nx), a1, a2, a3, ?_, rfl, fun j hj => ?_, a5, ?_, hk⟩
    ·have := hz.nx
     show st.nx ≤ Nat.succ (Nat.succ st1.nx); omega
    ·rw [hz.agree j hj]
     exact a4 j (Nat.lt_of_lt_of_le hj hz.nx)
    ·simp only [svLt]; exact Nat.ble_eq_true_of_le (Nat.le_refl _)
   ·rw [Bool.not_eq_true] at hc; rw [hc] at h; exact absurd h.symm hne
  ·exact absurd h.symm hne
 ·rename_i ju
  split at h
  ·rename_i own' e' γ' p' f' ys' hju
   split at h
   ·rename_i ys hys
    obtain ⟨ecast, hys⟩ := castT_of hys
    subst ecast
    simp only at hys
    subst hys
    by_cases hc : (Nat.beq e e' && f'.tabOk) = true
    ·rw [hc, ifb_true] at h
     simp only [Bool.and_eq_true] at hc
     obtain ⟨c1, c3⟩ := hc
     obtain ⟨hlen, hk⟩ := O.chk_ne h hne
     simp only [decide_eq_true_eq] at hlen
     obtain ⟨k1, k2, v0, us, F0, F1, ev, hF, k3, hcol, helt⟩ := hR.sat ju _ hju
     cases ev
     have ho := tabOk_F (w := w) (α := αOf ν γ') (Av := (· ∈ ghG (ν p'))) f' c3
     have e1 : F1 = [] := List.eq_nil_iff_forall_not_mem.2 fun c hc => helt.mem (Q := fun _ => False) (fun x v F hr c hc => by rw [ho.2 x v F hr] at hc; cases hc) c hc
     subst e1
     have hM : More S w0 w ν st γ f' ys us [] (ghG (ν p')) :=
      ⟨helt.imp fun x v F' _ hr => repF_alpha (n := 0) (fun k hk => absurd hk (Nat.not_lt_zero k)) f' x v F' ho.1 hr, ⟨List.nodup_nil, fun b hb => (by cases hb), fun b hb => (by cases hb), fun b hb => ⟨hR.seen ju _ b hju hb, fun h => (by cases h), k2 b hb, fun i' q hq hb' => hR.apart i' ju q _ b hq hju hb' hb⟩⟩⟩
     have hd3 : ∀ b ∈ ghG (ν p'), b ∉ F := fun b hb hb' => (hB.free.apart b hb' ju _ hju).2 hb
     have hrd : ReadC w (den ν (.osl ju)) f'.sz ys.length us := by
      simp only [den]
      rw [hcol.hdr]
      exact hcol.readC helt.len
     obtain ⟨v', w', ν', a1, a2, a3, a4, a5⟩ := app_sound (P := P) ht tk hsz ty hR hB hM (fun b hb => (by cases hb)) (fun b hb => (by cases hb)) hd3 hrd (elts_one c3 helt) hlen
     refine ⟨v', w', ν', _, .osl (Nat.succ st.nx), a1, a2, a3, ?_, rfl, a4, a5, ?_, hk⟩
     ·show st.nx ≤ Nat.succ (Nat.succ st.nx); omega
     ·simp only [svLt]; exact Nat.ble_eq_true_of_le (Nat.le_refl _)
    ·rw [Bool.not_eq_true] at hc; rw [hc] at h; exact absurd h.symm hne
   ·exact absurd h.symm hne
  ·exact absurd h.symm hne
 ·exact absurd h.symm hne
end
theorem sliceAt_some {P : Program} {w : World} {t e : TypeId} {i : TypeInfo} (hd : P.underlying t = some (.slice e)) (hi : P.info? e = some i) {a : Addr} {n c l m : Nat} (h1 : l ≤ m) (h2 : m ≤ c) (lv hv : Option Value) (hl : (lv = none ∧ l = 0) ∨ ∃ k, lv = some (.int k l)) (hh : (hv = none ∧ m = n) ∨ ∃ k, hv = some (.int k m)) :
  (Instr.sliceAt t (.slice (some a) n c) lv hv none).run P w = .ok (.slice (some (if c = l then a else a.add (l * i.size))) (m - l) (c - l)) w := by
 have hb1 : ∀ kk cd, (Instr.sliceBound (.int kk (m : Int)) c cd).run P w = .ok m w := fun kk cd => by simpa using bound_run w kk (m : Int) c cd (by omega) (by omega)
 have hb2 : ∀ kk cd, (Instr.sliceBound (.int kk (l : Int)) m cd).run P w = .ok l w := fun kk cd => by simpa using bound_run w kk (l : Int) m cd (by omega) (by omega)
 have hs : (sizeOf e).run P w = .ok i.size w := by rw [run_sizeOf' hi]
 rcases hl with ⟨rfl, rfl⟩ | ⟨kl, rfl⟩ <;> rcases hh with ⟨rfl, rfl⟩ | ⟨km, rfl⟩ <;>
  simp [Instr.sliceAt, Instr.slice, run_underlying' hd, Instr.sliceBounds, hb1, hb2, hs] <;> (try split <;> simp_all)
theorem sliceAt_none {P : Program} {w : World} {t e : TypeId} {i : TypeInfo} (hd : P.underlying t = some (.slice e)) (hi : P.info? e = some i) (lv hv : Option Value) (hl : lv = none ∨ ∃ k, lv = some (.int k 0)) (hh : hv = none ∨ ∃ k, hv = some (.int k 0)) :
  (Instr.sliceAt t (.slice none 0 0) lv hv none).run P w = .ok (.slice none 0 0) w := by
 have hb : ∀ kk cd, (Instr.sliceBound (.int kk (0 : Int)) 0 cd).run P w = .ok 0 w := fun kk cd => by simpa using bound_run w kk (0 : Int) 0 cd (by omega) (by omega)
 have hs : (sizeOf e).run P w = .ok i.size w := by rw [run_sizeOf' hi]
 rcases hl with rfl | ⟨kl, rfl⟩ <;> rcases hh with rfl | ⟨km, rfl⟩ <;>
  simp [Instr.sliceAt, Instr.slice, run_underlying' hd, Instr.sliceBounds, hb, hs]
section
variable {S : Bl} {w0 w : World} {ν : Nat → Value} {st : St}
theorem cut_sound {P : Program} {t e : TypeId} {i : TypeInfo} (hd : P.underlying t = some (.slice e)) (hi : P.info? e = some i) (hR : RelW S w0 ν st w) {j : Nat} {own : Bool} {γ : List Nat} {p : Nat} {f : Shs} {xs A B xs' : List f.T} (hj : lkp j st.H = some (.tab own e γ p f xs)) (hsz : i.size = f.sz)
  (hx : xs = A ++ (xs' ++ B)) (hok : (own || f.tabOk) = true) (lv hv : Option Value) (hl : (lv = none ∧ A.length = 0) ∨ ∃ k, lv = some (.int k A.length)) (hh : (hv = none ∧ B.length = 0) ∨ ∃ k, hv = some (.int k ((A ++ xs').length : Nat))) :
  ∃ v' ν', (Instr.sliceAt t (ν j) lv hv none).run P w = .ok v' w ∧ RelW S w0 ν' ⟨Nat.succ (Nat.succ st.nx), st.dirty, (Nat.succ st.nx, .tab own e (gOf γ f) st.nx f xs') :: (st.nx, .ghost) :: keepJ own j st.H⟩ w ∧ (∀ j, j < st.nx → ν j = ν' j) ∧ v' = den ν' (.osl (Nat.succ st.nx)) := by
 have hlj := hR.lt j _ hj
 have hlo := hlj.2
 simp only [hoLt, Bool.and_eq_true] at hlo
 obtain ⟨k1, k2, v0, us, F0, F1, ev, hF, k3, hcol, helt⟩ := hR.sat j _ hj
 cases ev
 subst hx
 obtain ⟨ua, u2, Fa, F2, rfl, rfl, a1, a2⟩ := helt.split
 obtain ⟨um, ub, Fm, Fb, rfl, rfl, a3, a4⟩ := a2.split
 have la := a1.len
 have lm := a3.len
 have lb := a4.len
 obtain ⟨v', hrun, hcol'⟩ : ∃ v', (Instr.sliceAt t (ν j) lv hv none).run P w = .ok v' w ∧ ColIs w (· ∈ ghG (ν p)) own e f.sz xs'.length v' um F0 := by
  rcases hcol with ⟨e1, e2, e3, e4⟩ | ⟨a, cap, e1, e2, e3, e4⟩
  ·simp only [List.length_append] at e2
   have hA : A.length = 0 := by omega
   have hX : xs'.length = 0 := by omega
   refine ⟨.slice none 0 0, ?_, .inl ⟨rfl, hX, ?_, e4⟩⟩
   ·rw [e1]
    refine sliceAt_none hd hi lv hv (hl.imp (fun h => h.1) (fun ⟨k, h⟩ => ⟨k, by rw [h, hA]; rfl⟩)) (hh.imp (fun h => h.1) (fun ⟨k, h⟩ => ⟨k, by rw [h, List.length_append, hA, hX]; rfl⟩))
   ·exact List.length_eq_zero_iff.1 (by rw [lm, hX]; simp)
  ·have hlen : (A ++ (xs' ++ B)).length = A.length + xs'.length + B.length := by simp only [List.length_append]; omega
   have hrun := sliceAt_some (P := P) (w := w) hd hi (a := a) (n := (A ++ (xs' ++ B)).length) (c := cap) (l := A.length) (m := A.length + xs'.length) (by omega) (by omega) lv hv hl (by
    rcases hh with ⟨h1, h2⟩ | ⟨k, h⟩
    ·exact .inl ⟨h1, by omega⟩
    ·exact .inr ⟨k, by rw [h, List.length_append]⟩)
   rw [e1]
   refine ⟨_, hrun, ?_⟩
   rw [hsz, Nat.add_sub_cancel_left]
   refine .inr ⟨_, cap - A.length, rfl, by omega, fun ho => ?_, fun ho => ?_⟩
   ·obtain ⟨q1, q2, q3⟩ := e3 ho
    by_cases hc : cap = A.length
    ·rw [if_pos hc]
     have hX : xs'.length = 0 := by omega
     have hu : um = [] := List.length_eq_zero_iff.1 (by rw [lm, hX]; simp)
     exact ⟨q1, fun i u h => (by rw [hu] at h; simp at h), fun h => absurd hX h⟩
    ·rw [if_neg hc]
     by_cases hn : (A ++ (xs' ++ B)).length = 0
     ·have hX : xs'.length = 0 := by omega
      have hu : um = [] := List.length_eq_zero_iff.1 (by rw [lm, hX]; simp)
      exact ⟨q1, fun i u h => (by rw [hu] at h; simp at h), fun h => absurd hX h⟩
     ·obtain ⟨r1, r2⟩ := q3 hn
      obtain ⟨b, o, sp⟩ := a
      simp only at r1
      subst r1
      refine ⟨q1, fun i u h => ?_, fun _ => ⟨by rw [add_plain], by rw [add_block]; exact r2⟩⟩
      have := q2 (A.length * f.sz + i) u (by
       have hi' : i < um.length := (List.getElem?_eq_some_iff.1 h).1
       rw [List.getElem?_append_right (by omega), la, Nat.add_sub_cancel_left, List.getElem?_append_left hi']
       exact h)
      rw [add_plain] at this
      rw [add_plain, add_plain, Nat.add_assoc]; exact this
   ·obtain ⟨q1, q2, q3, cur, fz, q4, q5, q6, q7⟩ := e4 ho
    obtain ⟨b, o, sp⟩ := a
    simp only at q1 q2 q4 q5 q7
    subst q2
    by_cases hc : cap = A.length
    ·rw [if_pos hc]
     have hX : xs'.length = 0 := by omega
     have hu : um = [] := List.length_eq_zero_iff.1 (by rw [lm, hX]; simp)
     refine ⟨q1, rfl, by omega, cur, fz, q4, ?_, q6, ?_⟩
     ·rw [show cap - A.length = 0 by omega]; simp only [Nat.zero_mul, Nat.add_zero]; omega
     ·rw [hX, hu]; simp
    ·rw [if_neg hc, add_plain]
     refine ⟨q1, rfl, by omega, cur, fz, q4, ?_, q6, ?_⟩
     ·have : A.length * f.sz + (cap - A.length) * f.sz = cap * f.sz := by rw [← Nat.add_mul]; congr 1; omega
      simp only; omega
     ·show (cur.toList.drop (o + A.length * f.sz)).take (xs'.length * f.sz) = um
      have hsp : (cur.toList.drop o).take ((A ++ (xs' ++ B)).length * f.sz) = ua ++ (um ++ ub) := q7
      have h2 := congrArg (fun l => (l.drop (A.length * f.sz)).take (xs'.length * f.sz)) hsp
      rw [← la, List.drop_left' rfl, ← lm, List.take_left' rfl] at h2
      rw [List.drop_take, List.take_take, List.drop_drop] at h2
      rw [la, lm] at h2
      rw [Nat.min_eq_left (by rw [hlen, Nat.add_mul, Nat.add_mul]; omega)] at h2
      exact h2
 have hrep : repS w (αOf ν γ) (· ∈ ghG (ν p)) (.tab own e f) xs' [v'] (F0 ++ Fm) := ⟨v', um, F0, Fm, rfl, rfl, k3, hcol', a3⟩
 have hsub : ∀ b ∈ F0 ++ Fm, b ∈ ghF (ν p) := fun b hb => by
  rw [hF]
  rcases List.mem_append.1 hb with h | h <;> simp [h]
 have hnd : (F0 ++ Fm).Nodup := by
  have h0 := hR.nd j _ hj
  have h0 : (ghF (ν p)).Nodup := h0
  rw [hF] at h0
  have n0 := List.nodup_append.1 h0
  have n1 := List.nodup_append.1 n0.2.1
  have n2 := List.nodup_append.1 n1.2.1
  rw [List.nodup_append]
  exact ⟨n0.1, n2.1, fun a ha b hb e => n0.2.2 a ha b (by simp [hb]) e⟩
 have hG : ∀ st' : St, st'.nx = st.nx → Gam γ γ.length (αOf ν γ) ν st'.nx := fun st' e => ⟨rfl, fun k hk => ⟨by rw [e]; exact ltNs_nth hlo.2 k hk, rfl⟩⟩
 have fin : ∀ H : Heap, (∀ i q, lkp i H = some q → lkp i st.H = some q) → (∀ b ∈ F0 ++ Fm, ∀ i q, lkp i H = some q → b ∉ mineL ν i q ∧ b ∉ seenL ν i q) →
   ∃ ν', RelW S w0 ν' ⟨Nat.succ (Nat.succ st.nx), st.dirty, (Nat.succ st.nx, .tab own e (gOf γ f) st.nx f xs') :: (st.nx, .ghost) :: H⟩ w ∧ (∀ j, j < st.nx → ν j = ν' j) ∧ v' = den ν' (.osl (Nat.succ st.nx)) := by
  intro H hs ha
  obtain ⟨ν', g, e1, _⟩ := giveS_sound (γ := γ) (n := γ.length) (α := αOf ν γ) (.tab own e f) xs' [v'] _ ν ⟨st.nx, st.dirty, H⟩ (hR.part hs st.dirty) hrep
   ⟨hnd, fun b hb => hR.mine j _ b hj (hsub b hb), ha, fun b hb => ⟨hR.seen j _ b hj hb, fun h => hR.apart j j _ _ b hj hj (hsub b h) hb, k2 b hb, fun i q hq hb' => hR.apart i j q _ b (hs i q hq) hj hb' hb⟩⟩ (hG _ rfl) k1
  refine ⟨ν', g.1, g.2.1, ?_⟩
  have e1 : denL ν' [.osl (Nat.succ st.nx)] = [v'] := e1
  simp only [denL, List.cons.injEq, and_true] at e1
  exact e1.symm
 cases own with
 | true =>
  obtain ⟨ν', h1, h2, h3⟩ := fin (del j st.H) (fun i q hq => (lkp_del_some hq).2) (fun b hb i q hq => by
   obtain ⟨e, hq⟩ := lkp_del_some hq
   exact ⟨fun hb' => e (hR.inj j i _ q b hj hq (hsub b hb) hb'), fun hb' => hR.apart j i _ q b hj hq (hsub b hb) hb'⟩)
  exact ⟨v', ν', hrun, h1, h2, h3⟩
 | false =>
  have hf : f.tabOk = true := by simpa using hok
  have ho := tabOk_F (w := w) (α := αOf ν γ) (Av := (· ∈ ghG (ν p))) f hf
  have e1 : Fm = [] := List.eq_nil_iff_forall_not_mem.2 fun c hc => a3.mem (Q := fun _ => False) (fun x v F hr c hc => by rw [ho.2 x v F hr] at hc; cases hc) c hc
  have e0 : F0 = [] := by
   rcases hcol' with ⟨_, _, _, h⟩ | ⟨_, _, _, _, h, _⟩
   ·exact h
   ·exact (h rfl).1
  subst e1; subst e0
  obtain ⟨ν', h1, h2, h3⟩ := fin st.H (fun i q hq => hq) (fun b hb => by cases hb)
  exact ⟨v', ν', hrun, h1, h2, h3⟩
theorem RelW.tabCells (hR : RelW S w0 ν st w) {j : Nat} {own : Bool} {t : TypeId} {γ : List Nat} {p : Nat} {f : Shs} {xs : List f.T} (hj : lkp j st.H = some (.tab own t γ p f xs)) {i : Int} (hi : 0 ≤ i ∧ i < (xs.length : Int)) :
  ∃ vi Fi, repF w (αOf ν γ) (· ∈ ghG (ν p)) f (gt (dfltF f) xs i) vi Fi ∧ ∀ m u, vi[m]? = some u → w.cell? ⟨blk (ν j), offs (ν j) + i.toNat * f.sz + m, none⟩ = some u := by
 obtain ⟨k1, k2, v0, us, F0, F1, ev, hF, k3, hcol, helt⟩ := hR.sat j _ hj
 cases ev
 obtain ⟨va, vi, vb, Fa, Fi, Fb, e1, _, e3, e4, _, hri, _⟩ := helt.at (dfltF f) (i := i.toNat) (by omega)
 refine ⟨vi, Fi, hri, fun m u hu => ?_⟩
 rcases hcol.reads with ⟨_, e, _⟩ | ⟨ad, cap, e, _, hc, hsp⟩
 ·omega
 ·have hsp := hsp (by omega)
  obtain ⟨b, o, sp⟩ := ad
  simp only at hsp
  subst hsp
  have h2 := hc (i.toNat * f.sz + m) u (by
   have hm : m < vi.length := (List.getElem?_eq_some_iff.1 hu).1
   rw [e1, List.getElem?_append_right (by omega), e3, Nat.add_sub_cancel_left, List.getElem?_append_left hm]
   exact hu)
  rw [add_plain] at h2
  rw [e]
  simp only [blk, offs]
  rw [Nat.add_assoc]; exact h2
theorem peek_sound (hR : RelW S w0 ν st w) {j : Nat} {own : Bool} {t : TypeId} {γ : List Nat} {p : Nat} {f : Shs} {xs : List f.T} (hj : lkp j st.H = some (.tab own t γ p f xs)) (hf : f.tabOk = true) {i : Int} (hi : 0 ≤ i ∧ i < (xs.length : Int)) :
  ∃ ν', RelW S w0 ν' (st.adds (giveF γ f (gt (dfltF f) xs i) st.nx).2) w ∧ (∀ j, j < st.nx → ν j = ν' j) ∧ belowL (st.nx + (giveF γ f (gt (dfltF f) xs i) st.nx).2.length) (giveF γ f (gt (dfltF f) xs i) st.nx).1 = true ∧
   ∀ m u, (denL ν' (giveF γ f (gt (dfltF f) xs i) st.nx).1)[m]? = some u → w.cell? ⟨blk (ν j), offs (ν j) + i.toNat * f.sz + m, none⟩ = some u := by
 obtain ⟨vi, Fi, hri, hc⟩ := hR.tabCells hj hi
 have ho := tabOk_F (w := w) (α := αOf ν γ) (Av := (· ∈ ghG (ν p))) f hf
 have e1 := ho.2 _ _ _ hri
 subst e1
 obtain ⟨k1, k2, _⟩ := hR.sat j _ hj
 have hlo := (hR.lt j _ hj).2
 simp only [hoLt, Bool.and_eq_true] at hlo
 obtain ⟨ν', g, h2, h3⟩ := giveF_sound (γ := γ) (n := γ.length) (α := αOf ν γ) f _ vi [] ν st hR hri
  ⟨List.nodup_nil, fun b hb => (by cases hb), fun b hb => (by cases hb), fun b hb => ⟨hR.seen j _ b hj hb, fun h => (by cases h), k2 b hb, fun i' q hq hb' => hR.apart i' j q _ b hq hj hb' hb⟩⟩ ⟨rfl, fun k hk => ⟨ltNs_nth hlo.2 k hk, rfl⟩⟩ k1
 exact ⟨ν', g.1, g.2.1, h3, by rw [h2]; exact hc⟩
theorem RelW.opnCells (hR : RelW S w0 ν st w) {j : Nat} {t : TypeId} {γ : List Nat} {p : Nat} {f : Shs} {xs : List f.T} {i : Int} {vs : List SV} (hj : lkp j st.H = some (.opn t γ p f xs i vs)) :
  ∀ m u, (denL ν vs)[m]? = some u → w.cell? ⟨blk (ν j), offs (ν j) + i.toNat * f.sz + m, none⟩ = some u := by
 obtain ⟨h1, h2, h3, b, o, cap, cur, fz, ua, ub, F1, e1, e2, e3, e4, e5, e6, e7, e8, e9⟩ := hR.opnAt hj
 intro m u hu
 rw [e1]
 simp only [blk, offs]
 have hm : m < (denL ν vs).length := (List.getElem?_eq_some_iff.1 hu).1
 rw [cell_of_row w b _ cur t fz e3]
 have : (ua ++ (denL ν vs ++ ub))[i.toNat * f.sz + m]? = some u := by
  rw [List.getElem?_append_right (by omega), e6, Nat.add_sub_cancel_left, List.getElem?_append_left hm]; exact hu
 rw [← e7, List.getElem?_take] at this
 split at this
 ·rw [List.getElem?_drop] at this
  rw [Nat.add_assoc]; simpa using this
 ·cases this
end
mutual
theorem zeroS_rep {w : World} {α : Nat → Value} {Av : Nat → Prop} (ν : Nat → Value) : ∀ (s : Sh) (cs : List SV), zeroS s cs = true → s.tabOk = true → repS w α Av s (dfltS s) (denL ν cs) []
 | .leaf l, [], h, _ => by simp [zeroS] at h
 | .leaf l, _ :: _ :: _, h, _ => by simp [zeroS] at h
 | .leaf l, [v], h, _ => by
  simp only [zeroS] at h
  split at h
  ·rename_i m hm
   simp only [decide_eq_true_eq] at h
   subst h
   have := lfOf_zero hm
   subst this
   refine ⟨?_, rfl⟩
   simp only [denL]
   rw [den_congr (n := 0) (ν := ν) (ν' := ν0) (fun j hj => absurd hj (Nat.not_lt_zero j)) _ (lf_enc_lt 0 l l.dflt)]
   rfl
  ·cases h
 | .row own t ls, cs, h, hk => by
  cases own with
  | true => simp [Sh.tabOk] at hk
  | false =>
   unfold zeroS at h
   split at h <;> try (cases h; done)
   all_goals first
    | (rename_i e; cases e; done)
    | skip
   all_goals
    simp only [Sh.tabOk, Bool.not_false, Bool.true_and, Bool.not_eq_true', List.isEmpty_eq_false_iff] at hk
    exact ⟨.slice none 0 0, by simp [denL, den], hk, .inl ⟨rfl, rfl⟩, rfl, fun b hb => by simp [rowSeen, dfltS] at hb⟩
 | .map _ _ _ _ _, cs, h, hk => by simp [Sh.tabOk] at hk
 | .tab own t f, cs, h, hk => by
  cases own with
  | true => simp [Sh.tabOk] at hk
  | false =>
   unfold zeroS at h
   split at h <;> try (cases h; done)
   all_goals first
    | (rename_i e; cases e; done)
    | skip
   all_goals
    simp only [Sh.tabOk, Bool.not_false, Bool.true_and, Bool.and_eq_true] at hk
    exact ⟨.slice none 0 0, [], [], [], by simp [denL, den], rfl, Nat.le_of_ble_eq_true hk.2, .inl ⟨rfl, rfl, rfl, rfl⟩, ⟨rfl, rfl⟩⟩
 | .box _ _, cs, h, hk => by simp [Sh.tabOk] at hk
 | .agg f, cs, h, hk => zeroF_rep ν f cs (by unfold zeroS at h; exact h) hk
theorem zeroF_rep {w : World} {α : Nat → Value} {Av : Nat → Prop} (ν : Nat → Value) : ∀ (f : Shs) (cs : List SV), zeroF f cs = true → f.tabOk = true → repF w α Av f (dfltF f) (denL ν cs) []
 | .one s ps, cs, h, hk => by
  unfold zeroF at h
  simp only [Bool.and_eq_true, List.isEmpty_iff] at h
  simp only [Shs.tabOk, Bool.and_eq_true] at hk
  exact ⟨denL ν cs, by rw [h.1]; simp, zeroS_rep ν s cs h.2 hk.1⟩
 | .cons s r, cs, h, hk => by
  unfold zeroF at h
  simp only [Bool.and_eq_true] at h
  simp only [Shs.tabOk, Bool.and_eq_true] at hk
  exact ⟨_, _, [], [], by rw [← denL_append, List.take_append_drop], rfl, zeroS_rep ν s _ h.1 hk.1, zeroF_rep ν r _ h.2 hk.2⟩
 | .pin _ _, cs, h, hk => by simp [Shs.tabOk] at hk
 | .pins _, cs, h, hk => by simp [Shs.tabOk] at hk
end
theorem Elts.replicate {X : Type} {R : X → List Value → List Nat → Prop} {n : Nat} {x : X} {v : List Value} (hv : v.length = n) (h : R x v []) : ∀ m : Nat, Elts R n (List.replicate m x) (List.replicate m v).flatten []
 | 0 => ⟨rfl, rfl⟩
 | m + 1 => ⟨v, (List.replicate m v).flatten, [], [], by simp [List.replicate_succ], rfl, hv, h, Elts.replicate hv h m⟩
theorem newTab {S : Bl} {w0 w : World} {ν : Nat → Value} {st : St} (hR : RelW S w0 ν st w) (e : TypeId) (f : Shs) (h1 : 1 ≤ f.sz) (hl : f.lt 0 = true) (n : Nat) (hn : n ≤ maxLen) (xs : List f.T) (hx : xs.length = n) (us : List Value) (he : ∀ w, Elts (repF w (αOf ν []) (fun _ => False) f) f.sz xs us []) (cur : Array Value) (hcur : cur.toList = us) :
  ∃ ν', RelW S w0 ν' ((st.add .ghost).add (.tab true e [] st.nx f xs)) (w.alloc (.cells cur e)) ∧ (∀ j, j < st.nx → ν j = ν' j) ∧ .slice (some ⟨w.heap.size, 0, none⟩) n n = den ν' (.osl (Nat.succ st.nx)) := by
 have hRw : RelW S w0 ν st (w.alloc (.cells cur e)) := hR.world ⟨rfl, rfl, rfl, by simp⟩ (fun j o b hj hb => heap_alloc_lt w _ b (hoSat_lt (hR.sat j o hj) b hb)) (fun b hb _ => heap_alloc_lt w _ b (Nat.lt_of_lt_of_le hb hR.size))
 have helt := he (w.alloc (.cells cur e))
 have hul := helt.len
 have hh : (w.alloc (.cells cur e)).heap[w.heap.size]? = some (.cells cur e (0, 0)) := by show (w.heap.push _)[_]? = _; simp
 have hsz : cur.size = n * f.sz := by rw [← Array.length_toList, hcur, hul, hx]
 have hrep : repS (w.alloc (.cells cur e)) (αOf ν []) (fun _ => False) (.tab true e f) xs [.slice (some ⟨w.heap.size, 0, none⟩) n n] ([w.heap.size] ++ []) :=
  ⟨_, us, [w.heap.size], [], rfl, rfl, h1, .inr ⟨⟨w.heap.size, 0, none⟩, n, by rw [hx], by omega, (fun h => by cases h), fun _ => ⟨rfl, rfl, hn, cur, (0, 0), hh, by simp only; omega, fun i _ h => by omega, by rw [hx, List.drop_zero, hcur, ← hx, ← hul, List.take_length]⟩⟩, helt⟩
 obtain ⟨ν', g, e1, _⟩ := giveS_sound (γ := []) (n := 0) (α := αOf ν []) (Av := fun _ => False) (.tab true e f) xs _ _ ν st hRw hrep
  ⟨by simp, fun b hb => by simp at hb; rw [hb]; exact .inr hR.size, fun b hb j o hj => by
   simp at hb
   exact ⟨fun hb' => by have := hoSat_lt (hR.sat j o hj) b (.inl hb'); omega, fun hb' => by have := hoSat_lt (hR.sat j o hj) b (.inr hb'); omega⟩, fun b hb => hb.elim⟩ ⟨rfl, fun k hk => absurd hk (Nat.not_lt_zero k)⟩ hl
 have g1 : RelW S w0 ν' ((st.add .ghost).add (.tab true e (gOf [] f) st.nx f xs)) (w.alloc (.cells cur e)) := g.1
 rw [show gOf [] f = [] by unfold gOf; split <;> rfl] at g1
 refine ⟨ν', g1, g.2.1, ?_⟩
 have e1 : denL ν' [.osl (Nat.succ st.nx)] = [.slice (some ⟨w.heap.size, 0, none⟩) n n] := e1
 simp only [denL, List.cons.injEq, and_true] at e1
 exact e1.symm
theorem newZero {S : Bl} {w0 w : World} {ν : Nat → Value} {st : St} (hR : RelW S w0 ν st w) (e : TypeId) (f : Shs) (h1 : 1 ≤ f.sz) (hf : f.tabOk = true) (n : Nat) (hn : n ≤ maxLen) {cs : List SV} (hl : cs.length = f.sz) (hz : zeroF f cs = true) (cur : Array Value) (hcur : cur.toList = (List.replicate n (denL ν cs)).flatten) :
  ∃ ν', RelW S w0 ν' ((st.add .ghost).add (.tab true e [] st.nx f (List.replicate n (dfltF f)))) (w.alloc (.cells cur e)) ∧ (∀ j, j < st.nx → ν j = ν' j) ∧ .slice (some ⟨w.heap.size, 0, none⟩) n n = den ν' (.osl (Nat.succ st.nx)) :=
 newTab hR e f h1 (tabOk_F (w := w) (α := αOf ν []) (Av := fun _ => False) f hf).1 n hn _ (by simp) _ (fun w => Elts.replicate (by rw [denL_length, hl]) (zeroF_rep ν f cs hz hf) n) cur hcur
theorem newNone {S : Bl} {w0 w : World} {ν : Nat → Value} {st : St} (hR : RelW S w0 ν st w) (e : TypeId) (f : Shs) (h1 : 1 ≤ f.sz) (hl : f.lt 0 = true) :
  ∃ ν', RelW S w0 ν' ((st.add .ghost).add (.tab true e [] st.nx f [])) (w.alloc (.cells #[] e)) ∧ (∀ j, j < st.nx → ν j = ν' j) ∧ .slice (some ⟨w.heap.size, 0, none⟩) 0 0 = den ν' (.osl (Nat.succ st.nx)) :=
 newTab hR e f h1 hl 0 (Nat.zero_le _) [] rfl [] (fun _ => ⟨rfl, rfl⟩) #[] rfl
theorem flatten_replicate (v : List Value) (n : Nat) {k : Nat} (hl : v.length = k) (hk : 1 ≤ k) : (List.replicate n v).flatten = (List.range (n * k)).map (fun i => v.toArray[i % v.toArray.size]!) := by
 induction n with
 | zero => simp
 | succ n ih =>
  have hr : List.range ((n + 1) * k) = List.range k ++ (List.range (n * k)).map (k + ·) := by
   rw [Nat.add_mul, Nat.one_mul, Nat.add_comm, List.range_add]
  rw [List.replicate_succ, List.flatten_cons, ih, hr, List.map_append, List.map_map]
  congr 1
  ·apply List.ext_getElem
   ·simp [hl]
   ·intro i h1 h2
    simp at h2
    simp [List.getElem_map, Nat.mod_eq_of_lt (show i < v.length by omega), show i < v.length by omega]
  ·apply List.map_congr_left
   intro i _
   simp [hl]
theorem fillOne {v : Value} {n : Nat} {z : Array Value} (hv : v.cells.size = n) (hz : z.size = n) : Instr.fill (fun i => some (i * n, n)) z [(0, v)] = some v.cells := by
 simp only [Instr.fill]
 rw [if_neg (by simp only [hv, hz, ne_eq, not_true_eq_false, decide_false, Bool.false_or, decide_eq_true_eq]; omega)]
 congr 1
 apply Array.ext'
 rw [← Array.foldl_toList, Array.toList_zipIdx]
 have := zip_set (0 * n) v.cells.toList 0 z (by rw [Array.length_toList]; omega)
 simp only [Nat.zero_mul, Nat.zero_add, Nat.add_zero] at this
 simp only [Nat.zero_mul, Nat.zero_add]
 rw [this, List.take_zero, List.nil_append, List.drop_of_length_le (by rw [Array.length_toList, Array.length_toList]; omega), List.append_nil]
end Go.Aq
end
