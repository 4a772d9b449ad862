/- The evaluator is right: loads, and what acts on rows. -/
import Derived.Test.YtpfddjdkafjjfaaGreatV6
namespace Go.Aq
open Go.RowKit (Below)
set_option linter.unusedVariables false

section
variable {P : Program} {ν : Nat → Value} {w : World}
theorem run_loadVarC {b B off : Nat} {vs : List SV} {t : TypeId} {k : TK} {v : SV} (ht : TyOk P t k) (h : ∀ i u, (denL ν vs)[i]? = some u → w.cell? ⟨b, B + i, none⟩ = some u) (hv : partOf k.isAgg off k.size vs = some v) :
    (loadVar t ⟨b, B + off, none⟩).run P w = .ok (den ν v) w := by
  obtain ⟨d, hd, hk, -⟩ := ht.desc
  obtain ⟨i, hi, hs, -⟩ := ht.info
  have ha := aggD_of hk
  simp only [loadVar, Sem.run_bind, run_isAgg' hd, Result.andThen_ok, ha]
  unfold partOf at hv
  cases hg : k.isAgg with
  | true =>
    rw [hg] at hv
    simp only at hv
    by_cases hle : Nat.ble (off + k.size) vs.length = true
    · rw [hle] at hv
      simp only [cond_true, Option.some.injEq] at hv
      have hle := Nat.le_of_ble_eq_true hle
      subst hv
      have hl : (denL ν ((vs.drop off).take k.size)).length = k.size := by simp [denL_length]; omega
      have hc := run_loadCells_list (P := P) w ⟨b, B + off, none⟩ (denL ν ((vs.drop off).take k.size)) (fun j x hx => by
        rw [add_plain, Nat.add_assoc]
        refine h _ _ ?_
        rw [denL_eq, List.getElem?_map, List.getElem?_take] at hx
        rw [denL_eq, List.getElem?_map]
        split at hx
        · rw [List.getElem?_drop] at hx; exact hx
        · cases hx)
      rw [hl] at hc
      simp [run_sizeOf' hi, hs, hc, den]
    · rw [Bool.not_eq_true] at hle
      rw [hle] at hv
      cases hv
  | false =>
    rw [hg] at hv
    simp only at hv
    have : w.cell? ⟨b, B + off, none⟩ = some (den ν v) := h off _ (by rw [denL_eq, List.getElem?_map, hv]; rfl)
    simp [this]
end

theorem flat_elem (ls : List Lf) (xs : List (LT ls)) (i : Nat) (h : i < xs.length) (k : Nat) (u : Value) (hu : (cellsV ls (xs.getD i (dfltL ls)))[k]? = some u) : (flat ls xs)[i * ls.length + k]? = some u := by
  rw [← flat_at ls xs i h, List.getElem?_take] at hu
  split at hu
  · rwa [List.getElem?_drop] at hu
  · cases hu
theorem flat_u8 (xs : List Int) : flat [.int .u8] xs = xs.map (Value.int .u8) := by
  induction xs with
  | nil => rfl
  | cons x xs ih => simp only [flat, ih, List.map_cons]; rfl
theorem strOf_fold (ns : List Int) : ∀ s : ByteArray, ns.foldl (fun r n => r.push (UInt8.ofNat n.toNat)) s = ⟨s.data ++ (ns.map fun n => UInt8.ofNat n.toNat).toArray⟩ := by
  induction ns with
  | nil => intro s; simp
  | cons n ns ih =>
    intro s
    rw [List.foldl_cons, ih]
    congr 1
    apply Array.ext'
    simp [ByteArray.push]
theorem run_bytes {P : Program} {w : World} {v : Value} {xs : List Int} (h : Reads w v [.int .u8] xs) : (Conv.bytesToString v).run P w = .ok (.string (strOf xs)) w := by
  rcases h with ⟨rfl, rfl⟩ | ⟨a, cap, rfl, -, hc⟩
  · simp [Conv.bytesToString, strOf]; rfl
  · have hc' : ∀ (i : Nat) (u : Value), (xs.map (Value.int .u8))[i]? = some u → w.cell? (a.add i) = some u := by
      intro i u hu
      rw [← flat_u8] at hu
      exact hc i u hu
    have hl := run_loadCells_list (P := P) w a (xs.map (Value.int .u8)) hc'
    rw [List.length_map] at hl
    refine Eq.trans (run_bytesToString w a (List.length (α := Int) xs) cap xs hl) ?_
    rw [strOf_fold]
    congr 3
    apply Array.ext'
    simp [ByteArray.empty, ByteArray.emptyWithCapacity]
    rfl

theorem evLoad_run {P : Program} {tab : Tab} (hT : tabChk P tab = true) {T : Type} {ν : Nat → Value} {fr : Fr} {st : St} {K : Nat → SV → O T}
    {a : Act} (hE : ∀ x v, ofOpd fr.env x = some v → (∀ j ∈ namesOf v, ∃ o, lkp j st.H = some o) → a.eval x = den ν v) {S : Nat → Prop} {w0 w : World} (hR : RelW S w0 ν st w) (o : Oper) (ho : isLoad tab o.op = true) {res : O T} (h : evLoad tab o.op fr.env st.H K = res) (hne : res ≠ .no) :
    ∃ j v o', K j v = res ∧ svLt st.nx v = true ∧ lkp j st.H = some o' ∧ ∀ w', (∀ b, b < w.heap.size → onOf (ν j) o' = some b → w'.heap[b]? = w.heap[b]?) → (execOp a.eval o).run P w' = .ok (.value (den ν v)) w' := by
  unfold evLoad at h
  split at h
  · rename_i t x hop
    split at h
    · rename_i k j off hk hx
      split at h
      · rename_i T' vs hj
        split at h
        · rename_i v hv
          have hd := hE _ _ hx (fun i hi => by simp [namesOf] at hi; subst hi; exact ⟨_, hj⟩)
          have hs := hR.sat j _ hj
          have hs' := hs
          obtain ⟨b, hb, hc⟩ := hs
          have hlt : belowL st.nx vs = true := (hR.lt j _ hj).2
          refine ⟨j, v, _, h, partOf_lt hlt hv, hj, fun w' hw => ?_⟩
          have hw := hw b (hoSat_lt hs' b (by rw [hb]; rfl)) (by rw [hb]; rfl)
          have := run_loadVar (P := P) (w := w') (tyOk hT hk) (hw.trans hc) hv
          simp only [execOp, hop, Instr.loadAt, hd, den, hb, blk, Instr.sureAddr, Sem.run_bind, Sem.run_pure, Result.andThen_ok, this]
        · exact absurd h.symm hne
      · exact absurd h.symm hne
    · rename_i k j sz i off hk hx
      split at h
      · rename_i own t' ls xs hj
        by_cases hb : Nat.beq sz ls.length = true
        · rw [hb, ifb_true] at h
          have hb := Nat.eq_of_beq_eq_true hb
          subst hb
          obtain ⟨hi, h⟩ := O.chk_ne h hne
          simp only [decide_eq_true_eq] at hi
          split at h
          · rename_i v hv
            have hd := hE _ _ hx (fun i hi => by simp [namesOf] at hi; subst hi; exact ⟨_, hj⟩)
            have hs := hR.sat j _ hj
            refine ⟨j, v, _, h, partOf_lt (encL_lt _ _ _) hv, hj, fun w' hw => ?_⟩
            have hs2 := hs.2.congr (w' := w') (fun b hb => hw b (hoSat_lt hs b hb) hb)
            rcases hs2.reads with ⟨_, e⟩ | ⟨ad, cap, e, -, hc⟩
            · rw [e] at hi; simp at hi; omega
            · have hsp : ad.spot = none := by
                rcases hs2.rowVal hs.1 with ⟨e', _⟩ | ⟨ad', cap', e', _, h3⟩
                · rw [e] at e'; cases e'
                · rw [e] at e'; cases e'; exact h3 (by omega)
              obtain ⟨b, o, sp⟩ := ad
              simp only at hsp
              subst hsp
              have := run_loadVarC (P := P) (w := w') (ν := ν) (b := b) (B := o + i.toNat * ls.length) (tyOk hT hk) (vs := encL ls (gt (dfltL ls) xs i)) (fun m u hu => by
                rw [cellsV_any] at hu
                have := hc _ _ (flat_elem ls xs i.toNat (by omega) m u hu)
                rw [add_plain] at this
                rw [Nat.add_assoc]; exact this) hv
              simp only [execOp, hop, Instr.loadAt, hd, den, e, blk, offs, Instr.sureAddr, Sem.run_bind, Sem.run_pure, Result.andThen_ok, this]
          · exact absurd h.symm hne
        · rw [Bool.not_eq_true] at hb; rw [hb] at h; exact absurd h.symm hne
      · exact absurd h.symm hne
    · exact absurd h.symm hne
  · rename_i s d x hop
    split at h
    · exact absurd h.symm hne
    · rename_i v hnn hx
      rw [hop] at ho
      simp only [isLoad, isConvBytes] at ho
      split at ho
      · rename_i e hs hd
        split at ho
        · rename_i he
          obtain ⟨j, o', ls, t, xs, hk, hls, hj, hwhich, hrd⟩ := evList_reads hR h hne
          have hd' := hE _ _ hx (fun i hi => by rcases hwhich with rfl | ⟨sz, ch, n, rfl⟩ <;> (simp [namesOf] at hi; subst hi; exact ⟨_, hj⟩))
          obtain ⟨ds, hds, hks, -⟩ := (tyOk hT hs).desc
          obtain ⟨dd, hdd, hkd, -⟩ := (tyOk hT hd).desc
          obtain ⟨de, hde, hke, -⟩ := (tyOk hT he).desc
          cases ds <;> simp [descChk] at hks
          cases dd <;> simp [descChk] at hkd
          cases de <;> simp [descChk] at hke
          subst hks; subst hke
          split at hk
          · rename_i xs
            refine ⟨j, .str (strOf xs), o', ?_, rfl, hj, fun w' hw => ?_⟩
            · rcases hwhich with rfl | ⟨sz, ch, n, rfl⟩ <;> exact hk
            · have hb := run_bytes (P := P) (hrd w' hw)
              have hsl : ∃ a n c, den ν v = .slice a n c := by
                rcases hrd w' hw with ⟨e, _⟩ | ⟨a, c, e, _, _⟩
                · exact ⟨_, _, _, e⟩
                · exact ⟨_, _, _, e⟩
              obtain ⟨a', n', c', e'⟩ := hsl
              rw [e'] at hb
              simp only [execOp, hop, hd', e', Sem.run_bind, run_convert_bytes_string w' s d _ a' n' c' hds hde hdd, hb, Result.andThen_ok, Sem.run_pure, den]
          · exact absurd hk.symm hne
        · cases ho
      · cases ho
    · exact absurd h.symm hne
  · rename_i t x i ok hop
    split at h
    · rename_i m' k' hx hi
      split at h
      · rename_i m hm
        split at h
        · rename_i key hkey
          obtain ⟨rfl, hj, hok⟩ := mpOf_spec hm
          obtain ⟨b, hb, hd, hlt, hsat⟩ := hR.mapAt hm
          have dx := hE _ _ hx (fun i hi => by simp [namesOf] at hi; subst hi; exact ⟨_, hj⟩)
          have di := hE _ _ hi (fun i hi => by rw [decO_of hkey, encO_names] at hi; cases hi)
          have hrun : ∀ w', (∀ b, b < w.heap.size → onOf (ν m.j) (.map t m.ka m.va m.kl m.vl m.es) = some b → w'.heap[b]? = w.heap[b]?) →
              (execOp a.eval o).run P w' = .ok (.value (match ok with
                | true => .tuple #[oneV m.va m.vl (mget (dfltL m.vl) m.es key), .bool (mhas m.es key)]
                | false => oneV m.va m.vl (mget (dfltL m.vl) m.es key))) w' := by
            intro w' hw
            have hl := lookup_run (P := P) hT hok (hsat.congr (hw b hlt (by rw [hb]; rfl))) key ok
            simp only [execOp, hop, dx, di, hd, decO_den hkey ν, Sem.run_bind, hl, Result.andThen_ok, Sem.run_pure]
            cases ok <;> rfl
          cases ok with
          | true =>
            refine ⟨m.j, _, _, h, ?_, hj, fun w' hw => ?_⟩
            · simp only [svLt, belowL, encO_lt, Bool.and_self]
            · rw [hrun w' hw]
              simp only [den, denL, encO_den]
          | false =>
            refine ⟨m.j, _, _, h, encO_lt _ _ _ _, hj, fun w' hw => ?_⟩
            rw [hrun w' hw, encO_den]
        · exact absurd h.symm hne
      · exact absurd h.symm hne
    · exact absurd h.symm hne
  · rename_i c hop
    split at h
    · rename_i t v hcal hts hargs
      split at h
      · rename_i m hm
        obtain ⟨rfl, hj, hok⟩ := mpOf_spec hm
        obtain ⟨b, hb, hd, hlt, hsat⟩ := hR.mapAt hm
        refine ⟨m.j, _, _, h, rfl, hj, fun w' hw => ?_⟩
        obtain ⟨ms, clock, hms, hes, _⟩ := hsat.congr (hw b hlt (by rw [hb]; rfl))
        have hsz : ms.size = m.es.length := by have := congrArg List.length hes; simpa using this
        obtain ⟨xs, hxs, hxe⟩ : ∃ x, c.args.toList = [x] ∧ ofOpd fr.env x = some (.mp m.j) := by
          cases hc : c.args.toList with
          | nil => rw [hc] at hargs; simp [ofOpds] at hargs
          | cons x xs =>
            rw [hc] at hargs
            simp only [ofOpds] at hargs
            split at hargs
            · rename_i v' hv'
              split at hargs
              · rename_i vs' hvs'
                cases hargs
                cases xs with
                | nil => exact ⟨x, rfl, hv'⟩
                | cons y ys => simp only [ofOpds] at hvs'; split at hvs' <;> (try split at hvs') <;> cases hvs'
              · cases hargs
            · cases hargs
        have dx := hE _ _ hxe (fun i hi => by simp [namesOf] at hi; subst hi; exact ⟨_, hj⟩)
        obtain ⟨k, e, hu, _⟩ := mapOk_spec hT hok
        have e1 : Array.map a.eval c.args = #[.map (some b)] := by
          rw [args1 hxs]; simp [dx, hd]
        simp only [execOp, hop, resolve, hcal, Sem.run_bind, Sem.run_pure, Result.andThen_ok, invoke, e1]
        simp [builtin, Builtin.len_, args1 hts, run_underlying' hu, MapKept.run_getObj_map hms, goInt, hsz, den]
      · exact absurd h.symm hne
    · exact absurd h.symm hne
  · exact absurd h.symm hne

/-! ### Appending -/
/-- What is asked of a row that is appended to. -/
def OwnV (w : World) (v : Value) (t : TypeId) (ls : List Lf) (xs : List (LT ls)) : Prop :=
  (v = .slice none 0 0 ∧ xs = []) ∨ ∃ b cap cur fz, v = .slice (some ⟨b, 0, none⟩) xs.length cap ∧ xs.length ≤ cap ∧ cap ≤ maxLen ∧ w.heap[b]? = some (.cells cur t fz) ∧ cur.size = cap * ls.length ∧ Thawed cur.size fz ∧ cur.toList.take (xs.length * ls.length) = flat ls xs
theorem OwnV.sat {w : World} {v : Value} {t : TypeId} {ls : List Lf} {xs : List (LT ls)} (h : OwnV w v t ls xs) : RowSat w v true t ls xs := by
  rcases h with h | ⟨b, cap, cur, fz, e, h1, h2, h3, h4, h5, h6⟩
  · exact .inl h
  · exact .inr ⟨_, cap, e, h1, (fun h => by cases h), fun _ => ⟨rfl, rfl, h2, cur, fz, h3, h4, h5, h6⟩⟩

theorem run_append_any {P : Program} (w : World) {t e : TypeId} {i : TypeInfo} {z : Value} {ls : List Lf} (ht : P.underlying t = some (.slice e)) (hi : P.info? e = some i) (hz : i.zero = some z) (hsz : i.size = ls.length) (hzs : z.cells.size = ls.length) (hby : i.bytes ≤ 65536) (ty : TypeId)
    {v u : Value} {xs ys : List (LT ls)} (hv : OwnV w v e ls xs) (hu : Reads w u ls ys) (hlen : xs.length + ys.length ≤ 1073741824) :
    ∃ v' w', (Builtin.append_ #[t, t] ty #[v, u]).run P w = .ok v' w' ∧ Ext w w' ∧ OwnV w' v' e ls (xs ++ ys) ∧
      (∀ b, b < w.heap.size → mineOf v (.row true e ls xs) ≠ some b → w'.heap[b]? = w.heap[b]?) ∧
      (∀ b, mineOf v' (.row true e ls (xs ++ ys)) = some b → mineOf v (.row true e ls xs) = some b ∨ b = w.heap.size) := by
  have hm : xs.length + ys.length ≤ maxLen := by simp only [maxLen]; omega
  have hbytes : (xs.length + ys.length) * i.bytes ≤ 140737488355328 := Nat.le_trans (Nat.mul_le_mul hlen hby) (by decide)
  -- a new block
  have grown : ∀ (old : Nat), old < xs.length + ys.length → ∀ (cs : Array Value), cs.size = (grownCap w (xs.length + ys.length) old e) * ls.length → cs.toList.take ((xs ++ ys).length * ls.length) = flat ls (xs ++ ys) →
      OwnV (w.drew.alloc (.cells cs e)) (.slice (some ⟨w.heap.size, 0, none⟩) (xs.length + ys.length) (grownCap w (xs.length + ys.length) old e)) e ls (xs ++ ys) := by
    intro old ho cs h1 h2
    refine .inr ⟨_, _, cs, (0, 0), by rw [List.length_append]; rfl, by rw [List.length_append]; exact grownCap_ge w _ old e, grownCap_le_maxLen w _ old e hm, heap_alloc_new w.drew _, h1, thawed_zero _, h2⟩
  have szg : ∀ (old : Nat), (flat ls (xs ++ ys)).length + (grownCap w (xs.length + ys.length) old e - (xs.length + ys.length)) * ls.length = grownCap w (xs.length + ys.length) old e * ls.length := by
    intro old
    have := grownCap_ge w (xs.length + ys.length) old e
    rw [flat_length, List.length_append, ← Nat.add_mul]
    congr 1; omega
  have taken : ∀ rest : List Value, (flat ls (xs ++ ys) ++ rest).take ((xs ++ ys).length * ls.length) = flat ls (xs ++ ys) := by
    intro rest
    rw [← flat_length]; exact List.take_left
  rcases hv with ⟨rfl, rfl⟩ | ⟨b, cap, cur, fz, rfl, hc1, hc2, hc3, hc4, hc5, hc6⟩
  · rcases hu with ⟨rfl, rfl⟩ | ⟨a, c, rfl, -, hrd⟩
    · refine ⟨.slice none 0 0, w, ?_, ⟨rfl, rfl, rfl, Nat.le_refl _⟩, .inl ⟨rfl, rfl⟩, fun _ _ _ => rfl, fun b hb => by simp [mineOf] at hb⟩
      simp [Builtin.append_, run_underlying ht, sizeOf, typeInfo, hi, Builtin.lenOf, Builtin.firstCells]
    · by_cases hy : ys = []
      · subst hy
        refine ⟨.slice none 0 0, w, ?_, ⟨rfl, rfl, rfl, Nat.le_refl _⟩, .inl ⟨rfl, rfl⟩, fun _ _ _ => rfl, fun b hb => by simp [mineOf] at hb⟩
        simp [Builtin.append_, run_underlying ht, sizeOf, typeInfo, hi, Builtin.lenOf, Builtin.firstCells, loadCells, loadCellsFrom]
      · have hpos : 0 < ys.length := List.length_pos_iff.2 hy
        have hr := run_append_nil (P := P) w t ty e i z ht hi hz a ys.length c (flat ls ys) (by rw [flat_length, hsz]) hrd hpos (by simp at hlen; omega) (by simp at hbytes; omega)
        have hg := grown 0 (by simp; omega) ((flat ls ys).toArray ++ Builtin.zeroCells z.cells (grownCap w ys.length 0 e - ys.length)) (by
          have := szg 0
          simp only [List.length_nil, Nat.zero_add, List.nil_append] at this
          simp only [Array.size_append, List.size_toArray, size_zeroCells, hzs, List.length_nil, Nat.zero_add]
          exact this) (by
          have := taken (Builtin.zeroCells z.cells (grownCap w ys.length 0 e - ys.length)).toList
          simpa using this)
        simp only [List.length_nil, Nat.zero_add] at hg
        refine ⟨_, _, hr, ⟨rfl, rfl, rfl, by simp⟩, hg, fun b hb _ => heap_alloc_old w.drew _ b hb, fun b hb => .inr (by simpa [mineOf] using hb.symm)⟩
  · -- a row that is there
    have holds : ∀ j u, (flat ls xs)[j]? = some u → w.cell? ((⟨b, 0, none⟩ : Addr).add j) = some u := by
      intro j u hu
      have hlt : j < xs.length * ls.length := by
        have := (List.getElem?_eq_some_iff.1 hu).1
        rwa [flat_length] at this
      rw [add_plain, Nat.zero_add, cell_of_row w b j cur e fz hc3]
      rw [← hc6, List.getElem?_take, if_pos hlt] at hu
      simpa using hu
    have self : OwnV w (.slice (some ⟨b, 0, none⟩) xs.length cap) e ls xs := .inr ⟨b, cap, cur, fz, rfl, hc1, hc2, hc3, hc4, hc5, hc6⟩
    rcases hu with ⟨rfl, rfl⟩ | ⟨a, c, rfl, -, hrd⟩
    · refine ⟨.slice (some ⟨b, 0, none⟩) xs.length cap, w, ?_, ⟨rfl, rfl, rfl, Nat.le_refl _⟩, by rw [List.append_nil]; exact self, fun _ _ _ => rfl, fun b' hb => .inl hb⟩
      simp [Builtin.append_, run_underlying ht, sizeOf, typeInfo, hi, Builtin.lenOf, Builtin.firstCells, hc1, storeCells]
    · by_cases hroom : xs.length + ys.length ≤ cap
      · -- in place
        have hfl : (flat ls ys).length = ys.length * ls.length := flat_length ls ys
        have hfit : xs.length * ls.length + (flat ls ys).length ≤ cur.size := by rw [hfl, hc4, ← Nat.add_mul]; exact Nat.mul_le_mul_right _ hroom
        have hf := run_firstCells_some (P := P) w i.size ys.length a ys.length c (flat ls ys) (by rw [hfl, hsz]) hrd
        have hst := run_storeCells_thaw P b (xs.length * ls.length) e fz (flat ls ys) 0 cur w hc3 hc5 (by simpa using hfit) (flat_one ls ys)
        simp only [Nat.add_zero] at hst
        rw [hsz] at hf
        refine ⟨.slice (some ⟨b, 0, none⟩) (xs.length + ys.length) cap, w.setRow b (cur.toList.take (xs.length * ls.length) ++ flat ls ys ++ cur.toList.drop (xs.length * ls.length + (flat ls ys).length)).toArray, ?_, ⟨rfl, rfl, rfl, by simp⟩, .inr ⟨b, cap, _, fz, by rw [List.length_append], by rw [List.length_append]; exact hroom, hc2, setRow_heap w b cur _ e fz hc3, ?_, ?_, ?_⟩, fun b' hb hne => setRow_other w b b' _ (fun e => hne (by simp [mineOf, e])), fun b' hb => .inl hb⟩
        · simp [Builtin.append_, run_underlying ht, sizeOf, typeInfo, hi, hsz, Builtin.lenOf, hroom, hf, Addr.add_lit, hst]
        · simp only [List.size_toArray, List.length_append, List.length_take, List.length_drop, Array.length_toList]; omega
        · have : (cur.toList.take (xs.length * ls.length) ++ flat ls ys ++ cur.toList.drop (xs.length * ls.length + (flat ls ys).length)).toArray.size = cur.size := by
            simp only [List.size_toArray, List.length_append, List.length_take, List.length_drop, Array.length_toList]; omega
          rw [this]; exact hc5
        · rw [hc6, ← flat_append]; exact taken _
      · have hr := run_append_grow (P := P) w t ty e i z ht hi hz ⟨b, 0, none⟩ xs.length cap (flat ls xs) (by rw [flat_length, hsz]) holds a ys.length c (flat ls ys) (by rw [flat_length, hsz]) hrd (by omega) (by omega) (growslice_fits (by omega) hbytes)
        have hg := grown cap (by omega) ((flat ls xs).toArray ++ (flat ls ys).toArray ++ Builtin.zeroCells z.cells (grownCap w (xs.length + ys.length) cap e - (xs.length + ys.length))) (by
          have := szg cap
          simp only [Array.size_append, List.size_toArray, size_zeroCells, hzs, flat_append, List.length_append] at this ⊢
          exact this) (by
          have := taken (Builtin.zeroCells z.cells (grownCap w (xs.length + ys.length) cap e - (xs.length + ys.length))).toList
          rw [flat_append] at this ⊢
          simpa [List.append_assoc] using this)
        exact ⟨_, _, hr, ⟨rfl, rfl, rfl, by simp⟩, hg, fun b hb _ => heap_alloc_old w.drew _ b hb, fun b' hb => .inr (by simpa [mineOf] using hb.symm)⟩
end Go.Aq
