/- The evaluator is right: one operation, whichever it is. -/
import Derived.Test.YtpfddjdkafjjfaaGreatV7
import Derived.Lib.ConvBytes
namespace Go.Aq
open Go.RowKit (Below)
set_option linter.unusedVariables false

theorem flat_replicate (ls : List Lf) (hls : ls ≠ []) (x : LT ls) (n : Nat) : flat ls (List.replicate n x) = (List.range (n * ls.length)).map (fun i => (cellsV ls x).toArray[i % ls.length]!) := by
  have hp : 0 < ls.length := List.length_pos_iff.2 hls
  apply List.ext_getElem?
  intro i
  rw [List.getElem?_map]
  by_cases hi : i < n * ls.length
  · rw [List.getElem?_range hi]
    have hd : i / ls.length < n := by rw [Nat.div_lt_iff_lt_mul hp]; exact hi
    have hm : i % ls.length < (cellsV ls x).length := by rw [cellsV_length]; exact Nat.mod_lt _ hp
    have := flat_elem ls (List.replicate n x) (i / ls.length) (by simpa using hd) (i % ls.length) ((cellsV ls x)[i % ls.length]'hm) (by
      rw [show (List.replicate n x).getD (i / ls.length) (dfltL ls) = x by simp [List.getD_eq_getElem?_getD, List.getElem?_replicate, hd]]
      exact List.getElem?_eq_getElem hm)
    rw [show i / ls.length * ls.length + i % ls.length = i by rw [Nat.mul_comm]; exact Nat.div_add_mod i ls.length] at this
    rw [this]
    simp [hm]
  · rw [List.getElem?_eq_none (by rw [flat_length]; simp; omega), List.getElem?_eq_none (by simp; omega)]
    rfl
theorem toList_made (z : Array Value) (n : Nat) : (madeCells z n).toList = (List.range n).map (fun i => z[i % z.size]!) := by simp [madeCells]

theorem zero_cells {k : TK} {y : Value} (hz : ∀ ν, den ν k.zero = y) {ls : List Lf} (h : k.lfs = some ls) : y.cells = (cellsV ls (dfltL ls)).toArray := by
  rw [← hz ν0, cellsOf_den, lfs_zero h]; rfl

/-- A literal's elements. -/
theorem fillR (ν : Nat → Value) (ls : List Lf) (hls : ls ≠ []) (n : Nat) : ∀ (ps : List (Nat × SV)) (xs xs' : List (LT ls)), xs.length = n → partsL ls n ps xs = some xs' →
    Instr.fill (fun i => some (i * ls.length, ls.length)) (flat ls xs).toArray (ps.map fun p => (p.1, den ν p.2)) = some (flat ls xs').toArray ∧ xs'.length = n
  | [], xs, xs', hl, h => by cases h; exact ⟨rfl, hl⟩
  | (i, v) :: ps, xs, xs', hl, h => by
    simp only [partsL] at h
    split at h
    · rename_i x hx
      by_cases hc : Nat.blt i n = true
      · rw [hc, cond_true] at h
        have hi : i < n := Nat.le_of_ble_eq_true hc
        have hv : (den ν v).cells = (cellsV ls x).toArray := by rw [cellsOf_den, decL_of ls _ x hx, cellsV_any]
        have hs : (den ν v).cells.size = ls.length := by rw [hv]; simp [cellsV_length]
        have hF : (flat ls xs).toArray.size = n * ls.length := by simp [flat_length, hl]
        have hle : (i + 1) * ls.length ≤ n * ls.length := Nat.mul_le_mul_right _ hi
        rw [Nat.add_mul, Nat.one_mul] at hle
        simp only [List.map_cons, Instr.fill]
        rw [if_neg (by simp only [hs, hF, ne_eq, not_true_eq_false, decide_false, Bool.false_or, decide_eq_true_eq]; omega)]
        have hset : ((den ν v).cells.zipIdx.foldl (fun cs (c, j) => cs.setIfInBounds (i * ls.length + j) c) (flat ls xs).toArray) = (flat ls (xs.set i x)).toArray := by
          apply Array.ext'
          rw [← Array.foldl_toList, Array.toList_zipIdx, hv]
          have := zip_set (i * ls.length) (cellsV ls x) 0 (flat ls xs).toArray (by rw [hF, cellsV_length]; omega)
          simp only [Nat.add_zero] at this
          rw [this, flat_set ls xs i (by omega) x, cellsV_length, Nat.add_mul, Nat.one_mul, List.append_assoc]
        rw [hset]
        exact fillR ν ls hls n ps _ xs' (by simpa using hl) h
      · rw [Bool.not_eq_true] at hc; rw [hc] at h; cases h
    · cases h

/-- Likewise, of one cell each. -/
theorem fillC (ν : Nat → Value) (n : Nat) : ∀ (ps : List (Nat × SV)) (xs xs' : List SV), xs.length = n → partsC n ps xs = some xs' →
    Instr.fill (fun i => some (i * 1, 1)) (denL ν xs).toArray (ps.map fun p => (p.1, den ν p.2)) = some (denL ν xs').toArray ∧ xs'.length = n
  | [], xs, xs', hl, h => by cases h; exact ⟨rfl, hl⟩
  | (i, v) :: ps, xs, xs', hl, h => by
    simp only [partsC] at h
    by_cases hc : (isLeaf v && Nat.blt i n) = true
    · rw [hc, cond_true] at h
      simp only [Bool.and_eq_true] at hc
      have hi : i < n := Nat.le_of_ble_eq_true hc.2
      have hv : (den ν v).cells = #[den ν v] := by
        rw [cellsOf_den]
        have : v.cellsOf = [v] := by cases v <;> simp [isLeaf] at hc <;> rfl
        rw [this]; rfl
      simp only [List.map_cons, Instr.fill, hv]
      rw [if_neg (by simp [denL_length, hl]; omega)]
      have hset : (#[den ν v].zipIdx.foldl (fun cs (c, j) => cs.setIfInBounds (i * 1 + j) c) (denL ν xs).toArray) = (denL ν (xs.set i v)).toArray := by
        simp [denL_eq, List.map_set]
      rw [hset]
      exact fillC ν n ps _ xs' (by simpa using hl) h
    · rw [Bool.not_eq_true] at hc; rw [hc] at h; cases h
theorem partsC_lt {m n : Nat} : ∀ {ps : List (Nat × SV)} {xs xs' : List SV}, partsC n ps xs = some xs' → (∀ p ∈ ps, svLt m p.2 = true) → belowL m xs = true → belowL m xs' = true
  | [], xs, xs', h, _, hb => by cases h; exact hb
  | (i, v) :: ps, xs, xs', h, hp, hb => by
    simp only [partsC] at h
    by_cases hc : (isLeaf v && Nat.blt i n) = true
    · rw [hc, cond_true] at h
      refine partsC_lt h (fun p hp' => hp p (by simp [hp'])) ?_
      rw [belowL_iff] at hb ⊢
      intro u hu
      rcases List.mem_or_eq_of_mem_set hu with hu | rfl
      · exact hb u hu
      · exact hp (i, u) (by simp)
    · rw [Bool.not_eq_true] at hc; rw [hc] at h; cases h

theorem castL_of {ls ls' : List Lf} {xs : List (LT ls)} {ys : List (LT ls')} (h : castL ls ls' xs = some ys) : ∃ e : ls = ls', ys = e ▸ xs := by
  unfold castL at h
  split at h
  · rename_i e; cases h; exact ⟨e, rfl⟩
  · cases h

/-- An element's part, laid anew. -/
theorem flat_store (ν : Nat → Value) (ls : List Lf) (xs : List (LT ls)) (i off : Nat) (hi : i < xs.length) (vs : List SV) (y : LT ls) (hoff : off + vs.length ≤ ls.length) (hy : decL ls (setPart off vs (encL ls (xs.getD i (dfltL ls)))) = some y) (rest : List Value) :
    ((flat ls xs ++ rest).take (i * ls.length + off) ++ denL ν vs ++ (flat ls xs ++ rest).drop (i * ls.length + off + (denL ν vs).length)).take (xs.length * ls.length) = flat ls (xs.set i y) := by
  have hlv : (denL ν vs).length = vs.length := denL_length ν vs
  have hcv : cellsV ls y = (cellsV ls (xs.getD i (dfltL ls))).take off ++ denL ν vs ++ (cellsV ls (xs.getD i (dfltL ls))).drop (off + vs.length) := by
    have := decL_of ls _ y hy
    rw [← cellsV_any ls y ν, ← this, setPart_den, cellsV_any, hlv]
  have hF : flat ls xs = (flat ls xs).take (i * ls.length) ++ (cellsV ls (xs.getD i (dfltL ls)) ++ (flat ls xs).drop ((i + 1) * ls.length)) := by
    have h1 := flat_at ls xs i hi
    rw [← h1, Nat.add_mul, Nat.one_mul, ← List.drop_drop, List.take_append_drop, List.take_append_drop]
  have hle : (i + 1) * ls.length ≤ xs.length * ls.length := Nat.mul_le_mul_right _ hi
  have hfl := flat_length ls xs
  rw [flat_set ls xs i hi y, hcv]
  generalize hA : (flat ls xs).take (i * ls.length) = A at *
  generalize hX : cellsV ls (xs.getD i (dfltL ls)) = X at *
  generalize hB : (flat ls xs).drop ((i + 1) * ls.length) = B at *
  have lA : A.length = i * ls.length := by rw [← hA, List.length_take]; rw [Nat.add_mul] at hle; omega
  have lX : X.length = ls.length := by rw [← hX, cellsV_length]
  rw [hF] at hfl ⊢
  simp only [List.length_append] at hfl
  have e1 : (A ++ (X ++ B) ++ rest).take (i * ls.length + off) = A ++ X.take off := by
    rw [List.append_assoc, List.take_append, List.take_of_length_le (l := A) (by omega), List.append_assoc, List.take_append, show i * ls.length + off - A.length = off by omega, show off - X.length = 0 by omega]
    simp
  have e2 : (A ++ (X ++ B) ++ rest).drop (i * ls.length + off + (denL ν vs).length) = X.drop (off + vs.length) ++ B ++ rest := by
    rw [List.append_assoc, List.drop_append, List.drop_of_length_le (l := A) (by omega), List.append_assoc, List.drop_append, show i * ls.length + off + (denL ν vs).length - A.length = off + vs.length by omega, show off + vs.length - X.length = 0 by omega]
    simp
  rw [e1, e2, ← List.append_assoc, List.take_left' (by simp only [List.length_append, List.length_take, List.length_drop]; omega)]
  simp only [List.append_assoc]

/-- What is copied from. -/
def Src (P : Program) (w : World) (u : Value) (ls : List Lf) (ys : List (LT ls)) : Prop :=
  (Builtin.lenOf u).run P w = .ok ys.length w ∧ ∀ k, k ≤ ys.length → (Builtin.firstCells ls.length k u).run P w = .ok (flat ls (ys.take k)).toArray w
theorem Reads.src {P : Program} {w : World} {u : Value} {ls : List Lf} {ys : List (LT ls)} (h : Reads w u ls ys) : Src P w u ls ys := by
  rcases h with ⟨rfl, rfl⟩ | ⟨a, c, rfl, -, hc⟩
  · exact ⟨by simp [Builtin.lenOf], fun k hk => by simp [Builtin.firstCells, flat]⟩
  · refine ⟨by simp [Builtin.lenOf], fun k hk => ?_⟩
    refine run_firstCells_some (P := P) w ls.length k a ys.length c (flat ls (ys.take k)) (by rw [flat_length, List.length_take]; congr 1; omega) fun j v hv => hc j v ?_
    rw [flat_take, List.getElem?_take] at hv
    split at hv
    · exact hv
    · cases hv
theorem str_src {P : Program} {w : World} (b : ByteArray) : Src P w (.string b) [.int .u8] (bytesOf b) := by
  have hl : List.length (α := LT [.int .u8]) (bytesOf b) = b.size := by
    show (bytesOf b).length = b.size
    simp [bytesOf]
  refine ⟨by rw [hl]; simp [Builtin.lenOf], fun k hk => ?_⟩
  rw [hl] at hk
  have e : flat [.int .u8] ((bytesOf b).take k) = ((bytesOf b).take k).map (Value.int .u8) := flat_u8 _
  show _ = Result.ok (flat [.int .u8] ((bytesOf b).take k)).toArray w
  rw [e]
  simp only [Builtin.firstCells, Sem.run_pure]
  congr 1
  apply Array.ext'
  simp [bytesOf, List.map_take]
  rfl
theorem putAt_length {α : Type} (xs : List α) (lo : Int) (ys : List α) (h : lo.toNat + ys.length ≤ xs.length) : (putAt xs lo ys).length = xs.length := by
  simp [putAt]; omega
theorem flat_putAt (ls : List Lf) (xs ys : List (LT ls)) (lo : Int) (h : lo.toNat + ys.length ≤ xs.length) (rest : List Value) :
    ((flat ls xs ++ rest).take (lo.toNat * ls.length) ++ flat ls ys ++ (flat ls xs ++ rest).drop (lo.toNat * ls.length + (flat ls ys).length)).take (xs.length * ls.length) = flat ls (putAt xs lo ys) := by
  have hle : (lo.toNat + ys.length) * ls.length ≤ xs.length * ls.length := Nat.mul_le_mul_right _ h
  rw [Nat.add_mul] at hle
  have hfx := flat_length ls xs
  have hfy := flat_length ls ys
  have e1 : (flat ls xs ++ rest).take (lo.toNat * ls.length) = (flat ls xs).take (lo.toNat * ls.length) := by
    rw [List.take_append, show lo.toNat * ls.length - (flat ls xs).length = 0 by omega]; simp
  have e2 : (flat ls xs ++ rest).drop (lo.toNat * ls.length + (flat ls ys).length) = (flat ls xs).drop (lo.toNat * ls.length + (flat ls ys).length) ++ rest := by
    rw [List.drop_append, show lo.toNat * ls.length + (flat ls ys).length - (flat ls xs).length = 0 by omega]; simp
  rw [e1, e2, ← List.append_assoc, List.take_left' (by simp only [List.length_append, List.length_take, List.length_drop]; omega)]
  rw [putAt, flat_append, flat_append, flat_take, flat_drop, hfy, Nat.add_mul, List.append_assoc]

theorem RelW.same {S : Nat → Prop} {w0 : World} {ν : Nat → Value} {st : St} {w : World} (h : RelW S w0 ν st w) {j : Nat} {o : HO} (hj : lkp j st.H = some o) (hn : seenOf (ν j) o = none) : RelW S w0 ν (st.put j o) w :=
  h.turn hj ⟨rfl, rfl, rfl, Nat.le_refl _⟩ rfl hn (fun _ _ => rfl) (h.lt j o hj).2 (h.sat j o hj) (fun t f xs e => h.tab j t f xs (e ▸ hj))

theorem copy_run {P : Program} {S : Nat → Prop} {w0 : World} {ν : Nat → Value} {st : St} {w : World} (hR : RelW S w0 ν st w) {v : SV} {s : Sl} (hS : SlOk ν st.H st.nx v s) (hok : s.ok = true) (hown : s.own = true) {dT sT ty : TypeId} {i : TypeInfo} {e : TypeId}
    (hd : P.underlying dT = some (.slice e)) (hi : P.info? e = some i) (hsz : i.size = s.ls.length) {u : Value} {ys : List (LT s.ls)} (hu : Src P w u s.ls ys) :
    ∃ w', (Builtin.copy_ #[dT, sT] ty #[den ν v, u]).run P w = .ok (.int .i64 (min (ys.length : Int) s.n)) w' ∧ w.heap.size ≤ w'.heap.size ∧ RelW S w0 ν (st.put s.j (.row true s.t s.ls (putAt s.xs (sumI s.ch) (ys.take s.n.toNat)))) w' := by
  obtain ⟨p1, p2, p3⟩ := Sl.ok_spec hok
  have p4 := sumI_nonneg p1
  have hat : lkp s.j st.H = some (.row true s.t s.ls s.xs) := by rw [← hown]; exact hS.at_
  have hseen : ∀ xs, seenOf (ν s.j) (.row true s.t s.ls xs) = none := fun xs => rfl
  have whole : s.n = 0 → putAt s.xs (sumI s.ch) (ys.take s.n.toNat) = s.xs := by
    intro h; rw [h]; simp [putAt]
  rcases hS.shape hok with ⟨e1, _, e3, _⟩ | ⟨a, cap, e1, e2, _, _, e5⟩
  · refine ⟨w, ?_, Nat.le_refl _, by rw [whole e3]; exact hR.same hat (hseen _)⟩
    have hf := hu.2 0 (Nat.zero_le _)
    have hmin : Nat.min ys.length 0 = 0 := Nat.min_zero _
    simp [Builtin.copy_, run_underlying' hd, e1, hu.1, run_sizeOf' hi, hsz, hmin, hf, goInt, e3]
    omega
  · have hn : (Nat.min ys.length s.n.toNat : Nat) ≤ ys.length := Nat.min_le_left _ _
    have hf := hu.2 _ hn
    have htake : ys.take (Nat.min ys.length s.n.toNat) = ys.take s.n.toNat := by
      show ys.take (min ys.length s.n.toNat) = _
      rcases Nat.le_total ys.length s.n.toNat with h | h
      · rw [Nat.min_eq_left h, List.take_of_length_le (Nat.le_refl _), List.take_of_length_le h]
      · rw [Nat.min_eq_right h]
    rw [htake] at hf
    have hgo : ∀ w', (Builtin.copy_ #[dT, sT] ty #[den ν v, u]).run P w = .ok (goInt (Nat.min ys.length s.n.toNat)) w' → (Builtin.copy_ #[dT, sT] ty #[den ν v, u]).run P w = .ok (.int .i64 (min (ys.length : Int) s.n)) w' := by
      intro w' hr
      rw [hr]
      congr 1
      simp only [goInt]
      congr 1
      show ((Nat.min ys.length s.n.toNat : Nat) : Int) = _
      have : Nat.min ys.length s.n.toNat = min ys.length s.n.toNat := rfl
      omega
    by_cases hpos : 0 < s.n
    · obtain ⟨e6, e7⟩ := e5 hpos
      rcases hR.ownRow hat with ⟨f, _⟩ | ⟨b, cap', cur, fz, f, g1, g2, g3, g4, g5, g6⟩
      · rw [f] at e1; cases e1
      rw [f] at e1
      cases e1
      have hlen : (ys.take s.n.toNat).length ≤ s.n.toNat := by simp; omega
      have hle : ((sumI s.ch).toNat + (ys.take s.n.toNat).length) ≤ s.xs.length := by omega
      have hle2 : ((sumI s.ch).toNat + (ys.take s.n.toNat).length) * s.ls.length ≤ s.xs.length * s.ls.length := Nat.mul_le_mul_right _ hle
      have hle3 : s.xs.length * s.ls.length ≤ cap * s.ls.length := Nat.mul_le_mul_right _ g1
      rw [Nat.add_mul] at hle2
      have hfl := flat_length s.ls (ys.take s.n.toNat)
      have hst := run_storeCells_thaw P b ((sumI s.ch).toNat * s.ls.length) s.t fz (flat s.ls (ys.take s.n.toNat)) 0 cur w g3 g5 (by omega) (flat_one _ _)
      simp only [Nat.add_zero] at hst
      have hcur : cur.toList = flat s.ls s.xs ++ cur.toList.drop (s.xs.length * s.ls.length) := by rw [← g6, List.take_append_drop]
      have hx' := flat_putAt s.ls s.xs (ys.take s.n.toNat) (sumI s.ch) hle (cur.toList.drop (s.xs.length * s.ls.length))
      rw [← hcur] at hx'
      have hset := hR.setElems hat (xs' := putAt s.xs (sumI s.ch) (ys.take s.n.toNat)) (putAt_length _ _ _ hle) f (cur' := (cur.toList.take ((sumI s.ch).toNat * s.ls.length) ++ flat s.ls (ys.take s.n.toNat) ++ cur.toList.drop ((sumI s.ch).toNat * s.ls.length + (flat s.ls (ys.take s.n.toNat)).length)).toArray) g3 (by simp only [List.size_toArray, List.length_append, List.length_take, List.length_drop, Array.length_toList]; omega) hx'
      refine ⟨_, hgo _ ?_, by simp, hset⟩
      have e7' : (chop s.ls.length s.ch (⟨b, 0, none⟩, cap)).1 = ⟨b, (sumI s.ch).toNat * s.ls.length, none⟩ := by simpa using e7
      simp [Builtin.copy_, run_underlying' hd, e2, hu.1, run_sizeOf' hi, hsz, hf, e7', hst]
    · have h0 : s.n = 0 := by omega
      refine ⟨w, hgo _ ?_, Nat.le_refl _, by rw [whole h0]; exact hR.same hat (hseen _)⟩
      have hf0 : (ys.take s.n.toNat) = [] := by rw [h0]; simp
      rw [hf0] at hf
      simp [Builtin.copy_, run_underlying' hd, e2, hu.1, run_sizeOf' hi, hsz, hf, flat, storeCells]

/-- A row under a new name; perhaps an old name falls. -/
theorem RelW.grown {S : Nat → Prop} {w0 : World} {ν : Nat → Value} {st : St} {w w' : World} (h : RelW S w0 ν st w) (he : Ext w w') {v : Value} {t : TypeId} {ls : List Lf} (hls : ls ≠ []) {xs : List (LT ls)} (hv : RowSat w' v true t ls xs)
    (H' : Heap) (d : Bool) (old : Option Nat) (hH : ∀ j o, lkp j H' = some o → lkp j st.H = some o) (hno : ∀ j o b, lkp j H' = some o → mineOf (ν j) o = some b → old = some b → False)
    (hold : ∀ b, old = some b → (S b ∨ w0.heap.size ≤ b) ∧ b < w.heap.size) (hsame : ∀ b, b < w.heap.size → old ≠ some b → w'.heap[b]? = w.heap[b]?)
    (hnew : ∀ b, mineOf v (.row true t ls xs) = some b → old = some b ∨ b = w.heap.size) :
    RelW S w0 (upd ν st.nx v) ⟨Nat.succ st.nx, d, (st.nx, .row true t ls xs) :: H'⟩ w' := by
  refine h.new he v _ H' d hH ?_ ?_ rfl ⟨hls, by rw [upd_new]; exact hv⟩ ?_ ?_ ?_
  · intro j o b hj hb
    refine hsame b (hoSat_lt (h.sat j o (hH j o hj)) b hb) fun e => ?_
    rcases on_cases hb with h1 | h1
    · exact hno j o b hj h1 e
    · have h2 := h.seen j o b (hH j o hj) h1
      rcases (hold b e).1 with h3 | h3
      · exact h2.2 h3
      · omega
  · intro b hb hS
    refine hsame b (Nat.lt_of_lt_of_le hb h.size) fun e => ?_
    rcases (hold b e).1 with h3 | h3
    · exact hS h3
    · omega
  · intro j o b hj hb hb'
    rcases hnew b hb' with h1 | h1
    · exact hno j o b hj hb h1
    · have := hoSat_lt (h.sat j o (hH j o hj)) b (mine_on hb)
      omega
  · intro b hb
    rcases hnew b hb with h1 | h1
    · exact (hold b h1).1
    · rw [h1]; exact .inr h.size
  · intro b hb
    simp [seenOf] at hb

/-- A map, turned. -/
theorem RelW.mapTurn {S : Nat → Prop} {w0 : World} {ν : Nat → Value} {st : St} {w : World} (h : RelW S w0 ν st w) {tab : Tab} {t : TypeId} {v : SV} {m : Mp} (hm : mpOf tab t st.H v = some m) {b : Nat} (hb : ν m.j = .map (some b)) (ob : Obj) (es' : List (LT m.kl × LT m.vl))
    (hs : MapSat { w with heap := w.heap.setIfInBounds b ob } b m.ka m.va m.kl m.vl es') : RelW S w0 ν (st.put m.j (.map t m.ka m.va m.kl m.vl es')) { w with heap := w.heap.setIfInBounds b ob } := by
  obtain ⟨_, hj, _⟩ := mpOf_spec hm
  refine h.turn hj ⟨rfl, rfl, rfl, by simp⟩ rfl rfl (fun c hc => ?_) rfl ⟨b, hb, hs⟩
  have : b ≠ c := fun e => hc (by rw [hb, e]; rfl)
  simp [this]

/-! ### An element of a table: names for its rows -/
theorem RelW.nameT {S : Nat → Prop} {w0 : World} {ν : Nat → Value} {st : St} {w : World} (h : RelW S w0 ν st w) {v : Value} {t : TypeId} {ls : List Lf} {xs : List (LT ls)} (hls : ls ≠ []) (hv : RowSat w0 v false t ls xs)
    (hview : ∀ b, seenOf v (.row false t ls xs) = some b → b < w0.heap.size ∧ ¬ S b) : RelW S w0 (upd ν st.nx v) (st.add (.row false t ls xs)) w := by
  have hv' : RowSat w v false t ls xs := hv.congr fun b hb => by
    have : seenOf v (.row false t ls xs) = some b := by cases xs <;> first | exact hb | (simp [onOf] at hb)
    exact h.frame b (hview b this).1 (hview b this).2
  have hs : hoSat (upd ν st.nx v) w st.nx (.row false t ls xs) := ⟨hls, by rw [upd_new]; exact hv'⟩
  exact h.new ⟨rfl, rfl, rfl, Nat.le_refl _⟩ v _ st.H st.dirty (fun _ _ h => h) (fun _ _ _ _ _ => rfl) (fun _ _ _ => rfl) rfl hs (fun j o b hj hb hb' => by simp [mineOf] at hb') (fun b hb => by simp [mineOf] at hb) hview
mutual
theorem rdS_give {S : Nat → Prop} {w0 w : World} : ∀ (s : Sh) (x : s.T) (vs : List Value) (ν : Nat → Value) (st : St), RelW S w0 ν st w → rdS w0 (fun b => b < w0.heap.size ∧ ¬ S b) s x vs →
    ∃ ν', RelW S w0 ν' (st.adds (giveS [] s x st.nx).2) w ∧ (∀ j, j < st.nx → ν j = ν' j) ∧ denL ν' (giveS [] s x st.nx).1 = vs ∧ belowL (st.nx + (giveS [] s x st.nx).2.length) (giveS [] s x st.nx).1 = true
  | .leaf l, x, vs, ν, st, hR, hr => by
    have hr : vs = [den ν0 (l.enc x)] := hr
    subst hr
    refine ⟨ν, hR, fun _ _ => rfl, ?_, ?_⟩
    · show denL ν [l.enc x] = _
      simp only [denL]
      rw [den_congr (n := 0) (ν := ν) (ν' := ν0) (fun j hj => absurd hj (Nat.not_lt_zero j)) _ (lf_enc_lt 0 l x)]
    · exact Bool.and_eq_true_iff.2 ⟨lf_enc_lt _ l x, rfl⟩
  | .row own t ls, xs, vs, ν, st, hR, hr => by
    obtain ⟨rfl, v, rfl, hls, hsat, hav⟩ := hr
    refine ⟨_, hR.nameT hls hsat hav, fun j hj => upd_old hj, ?_, ?_⟩
    · show denL _ [.osl st.nx] = _
      simp only [denL, den, upd_new]
      rcases hsat with ⟨rfl, _⟩ | ⟨_, _, rfl, _⟩ <;> rfl
    · show belowL _ [.osl st.nx] = true
      simp [belowL, svLt, giveS]
  | .map _ _ _ _ _, _, _, _, _, _, hr => hr.elim
  | .tab _ _, _, _, _, _, _, hr => hr.elim
  | .agg f, x, vs, ν, st, hR, hr => rdF_give f x vs ν st hR hr
theorem rdF_give {S : Nat → Prop} {w0 w : World} : ∀ (f : Shs) (x : f.T) (vs : List Value) (ν : Nat → Value) (st : St), RelW S w0 ν st w → rdF w0 (fun b => b < w0.heap.size ∧ ¬ S b) f x vs →
    ∃ ν', RelW S w0 ν' (st.adds (giveF [] f x st.nx).2) w ∧ (∀ j, j < st.nx → ν j = ν' j) ∧ denL ν' (giveF [] f x st.nx).1 = vs ∧ belowL (st.nx + (giveF [] f x st.nx).2.length) (giveF [] f x st.nx).1 = true
  | .one s ps, x, vs, ν, st, hR, hr => by
    obtain ⟨rfl, hr⟩ := hr
    obtain ⟨ν', g, h1, h2, h3⟩ := rdS_give s x vs ν st hR hr
    refine ⟨ν', g, h1, ?_, ?_⟩
    · show denL ν' (_ ++ []) = _
      rw [List.append_nil]; exact h2
    · show belowL _ (_ ++ []) = true
      rw [List.append_nil]; exact h3
  | .cons s r, x, vs, ν, st, hR, hr => by
    obtain ⟨v1, v2, rfl, h1, h2⟩ := hr
    obtain ⟨ν1, g1, a1, a2, a3⟩ := rdS_give s x.1 v1 ν st hR h1
    obtain ⟨ν2, g2, b1, b2, b3⟩ := rdF_give r x.2 v2 ν1 _ g1 h2
    rw [adds_nx] at b1 b2 b3 g2
    refine ⟨ν2, ?_, fun j hj => (a1 j hj).trans (b1 j (by omega)), ?_, ?_⟩
    · show RelW S w0 ν2 (st.adds (_ ++ _)) w
      rw [adds_append]; exact g2
    · show denL ν2 (_ ++ _) = _
      rw [denL_append, b2, ← denL_congr b1 _ a3, a2]
    · show belowL (_ + (_ ++ _ : List HO).length) (_ ++ _) = true
      rw [List.length_append, ← Nat.add_assoc]
      exact belowL_append (belowL_mono (by omega) _ a3) b3
  | .pin _ _, _, _, _, _, _, hr => hr.elim
  | .pins _, _, _, _, _, _, hr => hr.elim
end

set_option maxHeartbeats 1000000 in
theorem evA_sound {sl : List Nat} {P : Program} {tab : Tab} (hT : tabChk P tab = true) {T : Type} {cal : Cal T} (hC : CalOk P cal) {S : Nat → Prop} {w0 : World} {ν : Nat → Value} {n : Nat} {fr : Fr} {st : St} {K : SV → St → O T} {Kp : PV → St → O T}
    {a : Act} {w : World} (hR : RelW S w0 ν st w) (hE : EnvOk ν n st.nx fr a) (o : Oper) {res : O T} (h : evA tab cal sl o.op fr.env st K Kp = res) (hne : res ≠ .no)
    {next : Act → World → Prop} {Q : Exit → Act → World → Prop}
    (hn : ∀ ν' st' v w', RelW S w0 ν' st' w' → Step ν st w ν' st' w' → svLt st'.nx v = true → K v st' = res → next (a.put o.dst (den ν' v)) w')
    (hp : ∀ ν' st' e w', RelW S w0 ν' st' w' → Step ν st w ν' st' w' → Kp e st' = res → Q (.panic (panOf e)) a w') :
    o.wp P a w next Q := by
  have z : ∀ v, svLt 0 v = true → svLt st.nx v = true := fun v hv => svLt_mono (Nat.zero_le _) v hv
  have hund : ∀ ν', den ν' (.tup []) = undef := fun ν' => by simp [den, denL, undef]
  unfold evA at h
  split at h
  case h_1 t ho =>   -- alloc
    split at h
    · rename_i k hk
      have ht := tyOk hT hk
      obtain ⟨i, hi, hs, _, y, hy, hz⟩ := ht.info
      have hb : belowL st.nx k.zero.cellsOf = true := cellsOf_lt (z _ ht.zlt)
      have hadd := hR.add t k.zero.cellsOf hb
      refine wp_value (v := den (upd ν st.nx (.pointer (some ⟨w.heap.size, 0, none⟩))) (.ptr st.nx 0)) ?_ (hn _ _ _ _ hadd (Step.add _ _ _ _ _ _) (by simp [svLt, St.add]) h)
      simp only [execOp, ho, Instr.alloc, Sem.run_bind, run_zeroValue' hi hy, Result.andThen_ok, newVar, newRow, run_newObj, Sem.run_pure]
      rw [← hz ν, cellsOf_den]
      simp [den, upd, blk]
    · exact absurd h.symm hne

  case h_2 t x ho =>   -- box
    split at h
    · rename_i v hv
      by_cases hl : v.cellsOf.all isLeaf = true
      · rw [hl, ifb_true] at h
        have hd := ofOpd_den hE hv
        have hadd := hR.add t v.cellsOf (cellsOf_lt hd.2)
        refine wp_value (v := den (upd ν st.nx (.pointer (some ⟨w.heap.size, 0, none⟩))) (.ptr st.nx 0)) ?_ (hn _ _ _ _ hadd (Step.add _ _ _ _ _ _) (by simp [svLt, St.add]) h)
        simp only [execOp, ho, Instr.box, Sem.run_bind, Result.andThen_ok, newVar, newRow, run_newObj, Sem.run_pure]
        rw [hd.1, cellsOf_den]
        simp [den, upd, blk]
      · rw [Bool.not_eq_true] at hl; rw [hl] at h; exact absurd h.symm hne
    · exact absurd h.symm hne

  case h_3 t x y ho =>   -- store
    split at h
    · rename_i k j off v hk hx hy
      split at h
      · rename_i T' vs hj
        by_cases hc : (Nat.beq v.cellsOf.length k.size && Nat.ble (off + k.size) vs.length && v.cellsOf.all isLeaf) = true
        · rw [hc, ifb_true] at h
          simp only [Bool.and_eq_true] at hc
          obtain ⟨⟨h1, h2⟩, h3⟩ := hc
          have h1 := Nat.eq_of_beq_eq_true h1
          have h2 := Nat.le_of_ble_eq_true h2
          have dx := ofOpd_den hE hx
          have dy := ofOpd_den hE hy
          obtain ⟨b, hb, hcell⟩ := hR.sat j _ hj
          have hlt : belowL st.nx vs = true := (hR.lt j _ hj).2
          have hput := hR.put hj hb (setPart_lt (off := off) (cellsOf_lt dy.2) hlt)
          refine wp_unit ?_ (by have := hn ν _ (.tup []) _ hput (Step.dirty (Nat.le_refl _) (fun _ _ => rfl) (by simp) rfl) (by simp [svLt, belowL]) h; rwa [hund] at this)
          have := run_storeVar (P := P) (tyOk hT hk) hcell h1 h2 h3
          simp only [execOp, ho, Instr.storeAt, dx.1, dy.1, den, hb, blk, Instr.sureAddr, Sem.run_bind, Sem.run_pure, Result.andThen_ok, this]
        · rw [Bool.not_eq_true] at hc; rw [hc] at h; exact absurd h.symm hne
      · exact absurd h.symm hne
    · rename_i k j sz i off v hk hx hy
      split at h
      · rename_i t' ls xs hj
        by_cases hc : (Nat.beq sz ls.length && Nat.beq v.cellsOf.length k.size && Nat.ble (off + k.size) ls.length && v.cellsOf.all isLeaf) = true
        · rw [hc, ifb_true] at h
          simp only [Bool.and_eq_true] at hc
          obtain ⟨⟨⟨h0, h1⟩, h2⟩, h3⟩ := hc
          have h0 := Nat.eq_of_beq_eq_true h0
          have h1 := Nat.eq_of_beq_eq_true h1
          have h2 := Nat.le_of_ble_eq_true h2
          subst h0
          obtain ⟨hi, h⟩ := O.chk_ne h hne
          simp only [decide_eq_true_eq] at hi
          split at h
          · rename_i yv hyv
            have dx := ofOpd_den hE hx
            have dy := ofOpd_den hE hy
            rcases hR.ownRow hj with ⟨_, e⟩ | ⟨b, cap, cur, fz, e, g1, g2, g3, g4, g5, g6⟩
            · rw [e] at hi; simp at hi; omega
            have hil : i.toNat < xs.length := by omega
            have hlv : (denL ν v.cellsOf).length = k.size := by rw [denL_length, h1]
            have hle : (i.toNat + 1) * ls.length ≤ xs.length * ls.length := Nat.mul_le_mul_right _ hil
            have hle2 : xs.length * ls.length ≤ cap * ls.length := Nat.mul_le_mul_right _ g1
            rw [Nat.add_mul, Nat.one_mul] at hle
            have hst := run_storeCells_thaw P b (i.toNat * ls.length + off) t' fz (denL ν v.cellsOf) 0 cur w g3 g5 (by omega) (leafL_one ν h3)
            simp only [Nat.add_zero] at hst
            have hcur : cur.toList = flat ls xs ++ cur.toList.drop (xs.length * ls.length) := by rw [← g6, List.take_append_drop]
            have hx' := flat_store ν ls xs i.toNat off hil v.cellsOf yv (by omega) hyv (cur.toList.drop (xs.length * ls.length))
            rw [← hcur] at hx'
            have hset := hR.setElems hj (xs' := su xs i yv) (by simp [su]) e (cur' := (cur.toList.take (i.toNat * ls.length + off) ++ denL ν v.cellsOf ++ cur.toList.drop (i.toNat * ls.length + off + (denL ν v.cellsOf).length)).toArray) g3 (by simp only [List.size_toArray, List.length_append, List.length_take, List.length_drop, Array.length_toList]; omega) hx'
            refine wp_unit ?_ (by have := hn ν _ (.tup []) _ hset (Step.dirty (Nat.le_refl _) (fun _ _ => rfl) (by simp) rfl) (by simp [svLt, belowL]) h; rwa [hund] at this)
            obtain ⟨ti, hti, hts, -⟩ := (tyOk hT hk).info
            have hsz : (den ν v).cells.size = k.size := by rw [cellsOf_den]; simp [denL_length, h1]
            simp only [execOp, ho, Instr.storeAt, dx.1, dy.1, den, e, blk, offs, Nat.zero_add, Instr.sureAddr, storeVar, Sem.run_bind, Sem.run_pure, run_sizeOf' hti, hts, hsz, ne_eq, not_true_eq_false, if_false, Result.andThen_ok]
            rw [cellsOf_den]
            simp only [hst, Result.andThen_ok]
          · exact absurd h.symm hne
        · rw [Bool.not_eq_true] at hc; rw [hc] at h; exact absurd h.symm hne
      · exact absurd h.symm hne
    · exact absurd h.symm hne

  case h_4 t nn cc ho =>   -- makeSlice
    split at h
    · rename_i e k1 n' k2 c' ht hx hy
      split at h
      · rename_i k hk
        split at h
        · rename_i ls hls
          obtain ⟨hb, h'⟩ := O.chk_ne h hne
          clear h
          simp only [decide_eq_true_eq] at hb
          obtain ⟨b0, bc, b1⟩ := hb
          subst bc
          have tk := tyOk hT hk
          obtain ⟨i, hi, hs, hby, y, hyz, hz⟩ := tk.info
          obtain ⟨d, hd, hdk, -⟩ := (tyOk hT ht).desc
          cases d <;> simp [descChk] at hdk
          subst hdk
          have hsz : i.size = ls.length := by rw [hs, lfs_size tk hls]
          have dx := ofOpd_den hE hx
          have dy := ofOpd_den hE hy
          have hne0 := lfs_ne hls
          have hr := run_make (P := P) w t _ i y hd hi hyz k1 k2 n' n' b0 (Int.le_refl _) (by
            have : i.bytes * n'.toNat ≤ 65536 * 1073741824 := Nat.mul_le_mul hby (by omega)
            have h2 : ((i.bytes * n'.toNat : Nat) : Int) ≤ 281474976710656 := by omega
            rw [Int.natCast_mul] at h2
            rwa [Int.toNat_of_nonneg b0] at h2) (by omega)
          have hfl : (madeCells y.cells (n'.toNat * i.size)).toList = flat ls (List.replicate n'.toNat (dfltL ls)) := by
            rw [toList_made, flat_replicate ls hne0, zero_cells hz hls, hsz]
            simp [cellsV_length]
          have hnew := hR.newRow e ls hne0 (List.replicate n'.toNat (dfltL ls)) (madeCells y.cells (n'.toNat * i.size)) (0, 0) n'.toNat (by simp) (by simp only [maxLen]; omega) (by rw [size_madeCells, hsz]) (thawed_zero _) (by
            rw [hfl]
            exact List.take_of_length_le (by rw [flat_length]; exact Nat.le_refl _))
          refine wp_value ?_ (hn _ _ _ _ hnew (Step.add _ _ _ _ _ _) (by simp [svLt, St.add]) h')
          simp only [execOp, ho, dx.1, dy.1, den, hr, Sem.run_bind, Sem.run_pure, Result.andThen_ok, upd_new, hdr, List.length_replicate]
        · exact absurd h.symm hne
      · exact absurd h.symm hne
    · exact absurd h.symm hne

  case h_5 t nn parts ho =>   -- buildSlice
    split at h
    · rename_i e ps ht hps
      split at h
      · rename_i k hk
        split at h
        · rename_i ls hls
          by_cases hc : (Nat.ble nn 1000 && Nat.ble ls.length 1000) = true
          · rw [hc, ifb_true] at h
            simp only [Bool.and_eq_true] at hc
            have c1 := Nat.le_of_ble_eq_true hc.1
            have c2 := Nat.le_of_ble_eq_true hc.2
            split at h
            · rename_i xs hxs
              have tk := tyOk hT hk
              obtain ⟨i, hi, hs, hby, y, hyz, hz⟩ := tk.info
              obtain ⟨d, hd, hdk, -⟩ := (tyOk hT ht).desc
              cases d <;> simp [descChk] at hdk
              subst hdk
              have hsz : i.size = ls.length := by rw [hs, lfs_size tk hls]
              have dp := ofParts_den hE hps
              have hne0 := lfs_ne hls
              have hfl : (madeCells y.cells (nn * ls.length)) = (flat ls (List.replicate nn (dfltL ls))).toArray := by
                apply Array.ext'
                rw [toList_made, flat_replicate ls hne0, zero_cells hz hls]
                simp [cellsV_length]
              obtain ⟨hf, hlen⟩ := fillR ν ls hne0 nn ps _ xs (by simp) hxs
              rw [← hfl, ← dp.1] at hf
              have hnew := hR.newRow e ls hne0 xs (flat ls xs).toArray (0, 0) nn (by omega) (by simp only [maxLen]; omega) (by simp [flat_length, hlen]) (thawed_zero _) (by
                simp only
                exact List.take_of_length_le (by rw [flat_length]; exact Nat.le_refl _))
              refine wp_value ?_ (hn _ _ _ _ hnew (Step.add _ _ _ _ _ _) (by simp [svLt, St.add]) h)
              have hbig : ¬ (nn * ls.length > 2 ^ 24) := by
                have : nn * ls.length ≤ 1000 * 1000 := Nat.mul_le_mul c1 c2
                omega
              have hmade : ∀ z0 : Array Value, (z0 = y.cells ∨ nn * ls.length = 0) → ((Array.range (nn * ls.length)).map fun x => z0[x % z0.size]!) = madeCells y.cells (nn * ls.length) := by
                rintro z0 (rfl | e0)
                · rfl
                · rw [e0]; simp [madeCells]
              simp only [execOp, ho, Instr.buildSlice, Sem.run_bind, run_underlying' hd, Result.andThen_ok, run_sizeOf' hi, hsz, hbig, if_false]
              by_cases e0 : nn * ls.length = 0
              · rw [if_pos e0]
                simp only [Sem.run_bind, Sem.run_pure, Result.andThen_ok, hmade #[] (.inr e0), Array.toList_map, hf, newRow, run_newObj, den, upd_new, hdr, hlen]
                rfl
              · rw [if_neg e0]
                simp only [Sem.run_bind, run_zeroValue' hi hyz, Sem.run_pure, Result.andThen_ok, hmade y.cells (.inl rfl), Array.toList_map, hf, newRow, run_newObj, den, upd_new, hdr, hlen]
                rfl
            · exact absurd h.symm hne
          · rw [Bool.not_eq_true] at hc; rw [hc] at h; exact absurd h.symm hne
        · by_cases hc : (Nat.ble nn 1000 && Nat.beq k.size 1 && isLeaf k.zero) = true
          · rw [hc, ifb_true] at h
            simp only [Bool.and_eq_true] at hc
            have c1 := Nat.le_of_ble_eq_true hc.1.1
            have c2 := Nat.eq_of_beq_eq_true hc.1.2
            split at h
            · rename_i vs hvs
              have tk := tyOk hT hk
              obtain ⟨i, hi, hs, hby, y, hyz, hz⟩ := tk.info
              obtain ⟨d, hd, hdk, -⟩ := (tyOk hT ht).desc
              cases d <;> simp [descChk] at hdk
              subst hdk
              have hsz : i.size = 1 := by rw [hs, c2]
              have dp := ofParts_den hE hps
              have hzl : k.zero.cellsOf = [k.zero] := by
                have := hc.2
                cases hk0 : k.zero <;> rw [hk0] at this <;> simp [isLeaf] at this <;> rfl
              have hyc : y.cells = #[y] := by rw [← hz ν, cellsOf_den, hzl]; simp [denL]
              have hz0 : svLt st.nx k.zero = true := by
                have h3 := hc.2
                cases k <;> first | rfl | (simp [TK.zero, isLeaf] at h3)
              obtain ⟨hf, hlen⟩ := fillC ν nn ps _ vs (by simp) hvs
              rw [← dp.1] at hf
              have hbl : belowL st.nx vs = true := partsC_lt hvs dp.2 (by rw [belowL_iff]; intro u hu; rw [(List.mem_replicate.1 hu).2]; exact hz0)
              have hmd : ∀ z0 : Array Value, (z0 = #[y] ∨ nn * 1 = 0) → ((Array.range (nn * 1)).map fun x => z0[x % z0.size]!) = (denL ν (List.replicate nn k.zero)).toArray := by
                rintro z0 (rfl | e0)
                · apply Array.ext'
                  rw [denL_eq, List.map_replicate, hz ν]
                  simp [Array.toList_map, Nat.mod_one, List.map_const']
                · obtain rfl : nn = 0 := by omega
                  simp [denL]
              have hbig : ¬ (nn * 1 > 2 ^ 24) := by omega
              refine wp_value ?_ (hn _ _ _ _ (hR.add e vs hbl) (Step.add _ _ _ _ _ _) (by simp [svLt, St.add]) h)
              simp only [execOp, ho, Instr.buildSlice, Sem.run_bind, run_underlying' hd, Result.andThen_ok, run_sizeOf' hi, hsz, hbig, if_false]
              by_cases e0 : nn * 1 = 0
              · rw [if_pos e0]
                simp only [Sem.run_bind, Sem.run_pure, Result.andThen_ok, hmd #[] (.inr e0), Array.toList_map, hf, newRow, run_newObj, den, upd_new, blk]
                rfl
              · rw [if_neg e0]
                simp only [Sem.run_bind, run_zeroValue' hi hyz, Sem.run_pure, Result.andThen_ok, hyc, hmd #[y] (.inl rfl), Array.toList_map, hf, newRow, run_newObj, den, upd_new, blk]
                rfl
            · exact absurd h.symm hne
          · rw [Bool.not_eq_true] at hc; rw [hc] at h; exact absurd h.symm hne
      · exact absurd h.symm hne
    · exact absurd h.symm hne

  case h_6 s d x ho =>   -- bytes of a string
    split at h
    · rename_i e sv hs hd hx
      split at h
      · rename_i he
        obtain ⟨hb, h⟩ := O.chk_ne h hne
        simp only [decide_eq_true_eq] at hb
        have dx := ofOpd_den hE hx
        obtain ⟨ds, hds, hks, -⟩ := (tyOk hT hs).desc
        obtain ⟨dd, hdd, hkd, -⟩ := (tyOk hT hd).desc
        obtain ⟨de, hde, hke, -⟩ := (tyOk hT he).desc
        cases ds <;> simp [descChk] at hks
        cases dd <;> simp [descChk] at hkd
        cases de <;> simp [descChk] at hke
        subst hkd; subst hke
        have hr := Lib.run_convert_string_bytes (P := P) w s d _ sv hds hdd hde
        have hlen : (bytesOf sv).length = sv.size := by simp [bytesOf]
        have hge := grownCap_ge w sv.size 0 e
        have hsz : (Lib.bytesCells w e sv).size = grownCap w sv.size 0 e := by
          simp [Lib.bytesCells]; omega
        have hrow : RowSat (Lib.bytesWorld w e sv) (.slice (some ⟨w.heap.size, 0, none⟩) sv.size (grownCap w sv.size 0 e)) true e [.int .u8] (bytesOf sv) := by
          refine .inr ⟨⟨w.heap.size, 0, none⟩, grownCap w sv.size 0 e, by rw [show List.length (α := LT [.int .u8]) (bytesOf sv) = sv.size from hlen], by rw [show List.length (α := LT [.int .u8]) (bytesOf sv) = sv.size from hlen]; exact hge, (fun h => by cases h), fun _ => ⟨rfl, rfl, grownCap_le_maxLen w _ 0 e (by simp only [maxLen]; omega), _, _, Lib.bytesWorld_at_new w e sv, by simp [hsz], thawed_past _ _, ?_⟩⟩
          rw [show List.length (α := LT [.int .u8]) (bytesOf sv) = sv.size from hlen, flat_u8]
          simp [Lib.bytesCells, bytesOf, List.take_append]
        have hnew := hR.grown (w' := Lib.bytesWorld w e sv) ⟨rfl, rfl, rfl, by rw [Lib.bytesWorld_size]; omega⟩ (by simp) hrow st.H st.dirty none (fun _ _ h => h) (fun _ _ _ _ _ h => by cases h) (fun _ h => by cases h) (fun b hb _ => Lib.bytesWorld_at_old w e sv b hb) (fun b hb => .inr (by simpa [mineOf] using hb.symm))
        refine wp_value ?_ (hn _ _ (.osl st.nx) _ hnew ⟨Nat.le_succ _, fun j hj => upd_old hj, id, by rw [Lib.bytesWorld_size]; omega, fun _ b hb => Lib.bytesWorld_at_old w e sv b hb⟩ (by simp [svLt]) h)
        simp only [execOp, ho, dx.1, den, hr, Sem.run_bind, Sem.run_pure, Result.andThen_ok, upd_new, hdr]
      · exact absurd h.symm hne
    · exact absurd h.symm hne

  case h_7 c ho =>   -- call
    split at h
    · rename_i args hargs
      have da := ofOpds_den hE hargs
      have hrunB : ∀ b, c.callee = .builtin b → ∀ v w', (builtin b c.argTypes o.type (c.args.map fun | .const _ => true | _ => false) (denL ν args).toArray).run P w = .ok (.value v) w' → (execOp a.eval o).run P w = .ok (.value v) w' := by
        intro b hb v w' hr
        simp only [execOp, ho, resolve, hb, Sem.run_bind, Sem.run_pure, Result.andThen_ok, invoke]
        have e : (Array.map a.eval c.args) = (denL ν args).toArray := by
          rw [← da.1]; apply Array.ext'; simp
        rw [e]
        exact hr
      split at h
      · rename_i f hf
        split at h
        · rename_i f' caps hv
          have df := ofOpd_den hE hv
          have hcne : cal f' (args ++ caps) (setArgs sl 0 c.args.toList) st K Kp ≠ .no := by rw [h]; exact hne
          obtain ⟨henter, hcall⟩ := hC f' (args ++ caps) _ st K Kp hcne
          have hlt : belowL st.nx (args ++ caps) = true := by
            have h1 : belowL st.nx caps = true := by have := df.2; simpa only [svLt] using this
            rw [belowL_iff]
            intro v hv
            rcases List.mem_append.1 hv with hv | hv
            · exact belowL_iff.1 da.2 v hv
            · exact belowL_iff.1 h1 v hv
          have hC' := hcall S w0 ν w hR hlt
          unfold Oper.wp
          have hrun : (execOp a.eval o).run P w = .ok (.enter f' (denL ν (args ++ caps)).toArray) w := by
            simp only [execOp, ho, resolve, hf, df.1, den, Deferred.ofValue, Sem.run_bind, Sem.run_pure, Result.andThen_ok, invoke, henter]
            congr 2
            apply Array.ext'
            simp [da.1, denL_eq]
          rw [hrun, Oper.upon_enter]
          refine hC'.mono ?_
          intro e w' he
          cases e with
          | returned v =>
            obtain ⟨ν', st', r, h1, h2, rfl, h4, h5⟩ := he
            exact hn ν' st' r w' h1 h2 h4 (h5.trans h)
          | panicked ch =>
            obtain ⟨ν', st', e, h1, h2, rfl, h5⟩ := he
            exact hp ν' st' e w' h1 h2 (h5.trans h)
          | outgrown => exact he.elim
        · exact absurd h.symm hne
      · -- append
        rename_i hf
        split at h
        · rename_i t t' v u hat
          have hat' : c.argTypes = #[t, t'] := by cases hc : c.argTypes; rw [hc] at hat; simp at hat; rw [hat]
          by_cases htt : Nat.beq t t' = true
          · rw [htt, ifb_true] at h
            obtain rfl := Nat.eq_of_beq_eq_true htt
            simp only [belowL, Bool.and_eq_true] at da
            split at h
            · rename_i e ht
              split at h
              · rename_i k hk
                split at h
                · rename_i ls hls
                  have tk := tyOk hT hk
                  obtain ⟨i, hi, hs, hby, y, hyz, hz⟩ := tk.info
                  obtain ⟨d, hd, hdk, -⟩ := (tyOk hT ht).desc
                  cases d <;> simp [descChk] at hdk
                  subst hdk
                  have hsz : i.size = ls.length := by rw [hs, lfs_size tk hls]
                  have hzs : y.cells.size = ls.length := by rw [zero_cells hz hls]; simp [cellsV_length]
                  have hne0 := lfs_ne hls
                  obtain ⟨j', o', ls', t', ys', hk', hls', hj', hwhich, hrd⟩ := evList_reads hR h hne
                  have hrd := hrd w (fun _ _ _ => rfl)
                  split at hk'
                  · rename_i ys hys
                    obtain ⟨ecast, hys⟩ := castL_of hys
                    subst ecast
                    simp only at hys
                    subst hys
                    have happ : ∀ v' w', (Builtin.append_ #[t, t] o.type #[den ν v, den ν u]).run P w = .ok v' w' → (execOp a.eval o).run P w = .ok (.value v') w' := by
                      intro v' w' hr
                      refine hrunB .append hf v' w' ?_
                      simp only [builtin, hat', denL, Sem.run_bind, hr, Result.andThen_ok, Sem.run_pure]
                    split at hk'
                    · -- nil
                      obtain ⟨hb, hk'⟩ := O.chk_ne hk' hne
                      simp only [decide_eq_true_eq] at hb
                      obtain ⟨v', w', hr, hext, hown, hsame, hnew⟩ := run_append_any w hd hi hyz hsz hzs hby o.type (xs := []) (.inl ⟨rfl, rfl⟩) hrd (by simpa using hb)
                      have hsame' : ∀ b, b < w.heap.size → w'.heap[b]? = w.heap[b]? := fun b hb => hsame b hb (by simp [mineOf])
                      have hnew' := hR.grown hext hne0 hown.sat st.H st.dirty none (fun _ _ h => h) (fun _ _ _ _ _ h => by cases h) (fun _ h => by cases h) (fun b hb _ => hsame' b hb) (fun b hb => .inr ((hnew b hb).elim (fun h => by simp [mineOf] at h) id))
                      refine wp_value (happ v' w' (by simpa [den] using hr)) ?_
                      have hv' : v' = den (upd ν st.nx v') (.osl st.nx) := by
                        simp only [den, upd_new]
                        rcases hown with ⟨rfl, _⟩ | ⟨_, _, _, _, rfl, _⟩ <;> rfl
                      have := hn (upd ν st.nx v') _ (.osl st.nx) w' hnew' ⟨Nat.le_succ _, fun j hj => upd_old hj, id, hext.size, fun _ b hb => hsame' b hb⟩ (by simp [svLt]) hk'
                      rwa [← hv'] at this
                    · rename_i j
                      split at hk'
                      · rename_i e' ls'' xs0 hj
                        split at hk'
                        · rename_i xs hxs
                          obtain ⟨ecast, hxs⟩ := castL_of hxs
                          subst ecast
                          simp only at hxs
                          subst hxs
                          by_cases hc : (Nat.beq e e' && notOn u j) = true
                          · rw [hc, ifb_true] at hk'
                            simp only [Bool.and_eq_true] at hc
                            obtain rfl := Nat.eq_of_beq_eq_true hc.1
                            obtain ⟨hb, hk'⟩ := O.chk_ne hk' hne
                            simp only [decide_eq_true_eq] at hb
                            have hown0 : OwnV w (ν j) e _ xs := hR.ownRow hj
                            obtain ⟨v', w', hr, hext, hown, hsame, hnew⟩ := run_append_any w hd hi hyz hsz hzs hby o.type hown0 hrd hb
                            have hdenj : den ν (.osl j) = ν j := by
                              simp only [den]
                              rcases hown0 with ⟨e, _⟩ | ⟨_, _, _, _, e, _⟩ <;> rw [e] <;> rfl
                            have hnew' := hR.grown hext hne0 hown.sat (del j st.H) true (mineOf (ν j) (.row true e _ xs)) (fun i q hq => (lkp_del_some hq).2)
                              (fun i q b hq hb1 hb2 => (lkp_del_some hq).1 (hR.inj j i _ q b hj (lkp_del_some hq).2 hb2 hb1))
                              (fun b hb => ⟨hR.mine j _ b hj hb, hoSat_lt (hR.sat j _ hj) b (mine_on hb)⟩) hsame hnew
                            refine wp_value (happ v' w' (by rw [hdenj]; exact hr)) ?_
                            have hv' : v' = den (upd ν st.nx v') (.osl st.nx) := by
                              simp only [den, upd_new]
                              rcases hown with ⟨rfl, _⟩ | ⟨_, _, _, _, rfl, _⟩ <;> rfl
                            have := hn (upd ν st.nx v') _ (.osl st.nx) w' hnew' (Step.dirty (Nat.le_succ _) (fun j hj => upd_old hj) hext.size rfl) (by simp [svLt]) hk'
                            rwa [← hv'] at this
                          · rw [Bool.not_eq_true] at hc; rw [hc] at hk'; exact absurd hk'.symm hne
                        · exact absurd hk'.symm hne
                      · exact absurd hk'.symm hne
                    · exact absurd hk'.symm hne
                  · exact absurd hk'.symm hne
                · exact absurd h.symm hne
              · exact absurd h.symm hne
            · exact absurd h.symm hne
          · rw [Bool.not_eq_true] at htt; rw [htt] at h; exact absurd h.symm hne
        · exact absurd h.symm hne
      · -- copy
        rename_i hf
        split at h
        · rename_i t t' v u hat
          have hat' : c.argTypes = #[t, t'] := by cases hc : c.argTypes; rw [hc] at hat; simp at hat; rw [hat]
          simp only [belowL, Bool.and_eq_true] at da
          split at h
          · rename_i e s ht hs
            split at h
            · rename_i k hk hown
              by_cases hc : (Nat.beq k.size s.ls.length && Nat.beq e s.t) = true
              · rw [hc, ifb_true] at h
                simp only [Bool.and_eq_true] at hc
                have hsz := Nat.eq_of_beq_eq_true hc.1
                obtain ⟨hS, hjl⟩ := slOf_ok (nx := st.nx) hR.facts hs
                obtain ⟨i, hi, his, -⟩ := (tyOk hT hk).info
                obtain ⟨d, hd, hdk, -⟩ := (tyOk hT ht).desc
                cases d <;> simp [descChk] at hdk
                subst hdk
                have fin : ∀ ys : List (LT s.ls), Src P w (den ν u) s.ls ys → s.ok = true → K (.int .i64 (min (ys.length : Int) s.n)) (st.put s.j (.row true s.t s.ls (putAt s.xs (sumI s.ch) (ys.take s.n.toNat)))) = res → o.wp P a w next Q := by
                  intro ys hsrc hok hk'
                  obtain ⟨w', hr, hsize, hR'⟩ := copy_run hR hS hok hown hd hi (by rw [his, hsz]) (sT := t') (ty := o.type) hsrc
                  refine wp_value (v := .int .i64 (min (ys.length : Int) s.n)) (hrunB .copy hf _ w' ?_) (by have := hn ν _ (.int .i64 (min (ys.length : Int) s.n)) w' hR' (Step.dirty (Nat.le_refl _) (fun _ _ => rfl) hsize rfl) rfl hk'; exact this)
                  simp only [builtin, hat', denL, Sem.run_bind, hr, Result.andThen_ok, Sem.run_pure]
                split at h
                · rename_i b
                  split at h
                  · rename_i ys hys
                    obtain ⟨ecast, hys⟩ := castL_of hys
                    obtain ⟨hok, h⟩ := O.chk_ne h hne
                    have hlen : ys.length = b.size := by
                      subst hys
                      have : ∀ (l l' : List Lf) (q : l = l') (zs : List (LT l)), (q ▸ zs : List (LT l')).length = zs.length := by intro l l' q zs; subst q; rfl
                      refine Eq.trans (this _ _ ecast (bytesOf b)) ?_
                      show (bytesOf b).length = b.size
                      simp [bytesOf]
                    refine fin ys ?_ hok (by rw [hlen]; exact h)
                    subst hys
                    have : ∀ (l l' : List Lf) (q : l = l') (zs : List (LT l)), Src P w (.string b) l zs → Src P w (.string b) l' (q ▸ zs : List (LT l')) := by intro l l' q zs h; subst q; exact h
                    exact this _ _ ecast _ (str_src b)
                  · exact absurd h.symm hne
                · obtain ⟨j', o', ls', t'', ys', hk', hls', hj', hwhich, hrd⟩ := evList_reads hR h hne
                  have hrd := hrd w (fun _ _ _ => rfl)
                  split at hk'
                  · rename_i ys hys
                    obtain ⟨ecast, hys⟩ := castL_of hys
                    obtain ⟨hok, hk'⟩ := O.chk_ne hk' hne
                    refine fin ys ?_ hok hk'
                    subst hys
                    have : ∀ (l l' : List Lf) (q : l = l') (zs : List (LT l)), Reads w (den ν u) l zs → Src P w (den ν u) l' (q ▸ zs : List (LT l')) := by intro l l' q zs h; subst q; exact h.src
                    exact this _ _ ecast _ hrd
                  · exact absurd hk'.symm hne
              · rw [Bool.not_eq_true] at hc; rw [hc] at h; exact absurd h.symm hne
            · exact absurd h.symm hne
          · exact absurd h.symm hne
        · exact absurd h.symm hne
      · -- delete
        rename_i hf
        split at h
        · rename_i t t' mv kv hat
          have hat' : c.argTypes = #[t, t'] := by cases hc : c.argTypes; rw [hc] at hat; simp at hat; rw [hat]
          split at h
          · rename_i m hm
            split at h
            · rename_i key hkey
              obtain ⟨_, _, hok⟩ := mpOf_spec hm
              obtain ⟨b, hb, hd, hlt, hsat⟩ := hR.mapAt hm
              obtain ⟨ob, hr, hs⟩ := delete_run (P := P) hT hok hsat key t' o.type
              have hR' := hR.mapTurn hm hb ob _ hs
              refine wp_value (v := .tuple #[]) (hrunB .delete hf _ _ ?_) (by have := hn ν _ (.tup []) _ hR' (Step.dirty (Nat.le_refl _) (fun _ _ => rfl) (by simp) rfl) (by simp [svLt, belowL]) h; simpa [den, denL] using this)
              simp only [builtin, hat', denL, hd, decO_den hkey ν, Sem.run_bind, hr, Result.andThen_ok, Sem.run_pure]
            · exact absurd h.symm hne
          · exact absurd h.symm hne
        · exact absurd h.symm hne
      · exact absurd h.symm hne
    · exact absurd h.symm hne

  case h_8 x ho =>   -- panic
    split at h
    · rename_i v hx
      split at h
      · rename_i p hpv
        have dx := ofOpd_den hE hx
        obtain rfl := toPV_of hpv
        unfold Oper.wp
        have hrun : (execOp a.eval o).run P w = .halt (.panic (den ν (ofPV p))) w := by
          simp [execOp, ho, dx.1, ofPV, den, Instr.panic]
        rw [hrun, den_ofPV]
        exact hp ν st _ w hR (Step.refl _ _ _) h
      · exact absurd h.symm hne
    · exact absurd h.symm hne
  case h_9 t ho =>   -- makeMap
    split at h
    · rename_i k e ht
      split at h
      · rename_i kk ek hk he
        split at h
        · rename_i kl vl hkl hvl
          by_cases hkt : keyTk kk = true
          · rw [hkt, ifb_true] at h
            have hfr := hR.fresh (.map #[] 0) (.map (some w.heap.size)) (.map t kk.isAgg ek.isAgg kl vl []) rfl ⟨w.heap.size, upd_new, #[], 0, by show (w.heap.push _)[_]? = _; simp, rfl, by simp, by simp, by simp⟩ (fun b hb => by simpa [mineOf, blk] using hb.symm) rfl
            refine wp_value (v := den (upd ν st.nx (.map (some w.heap.size))) (.mp st.nx)) ?_ (hn _ _ _ _ hfr (Step.add _ _ _ _ _ _) (by simp [svLt, St.add]) h)
            simp only [execOp, ho, Instr.makeMap, Sem.run_bind, Result.andThen_ok, run_newObj, Sem.run_pure, Option.map_none]
            simp [den, upd, mpV]
          · rw [Bool.not_eq_true] at hkt; rw [hkt] at h; exact absurd h.symm hne
        · exact absurd h.symm hne
      · exact absurd h.symm hne
    · exact absurd h.symm hne
  case h_10 t mo ko vo ho =>   -- mapUpdate
    split at h
    · rename_i mv kv vv hmo hko hvo
      split at h
      · rename_i m hm
        split at h
        · rename_i key val hkey hval
          have dm := ofOpd_den hE hmo
          have dk := ofOpd_den hE hko
          have dv := ofOpd_den hE hvo
          obtain ⟨_, _, hok⟩ := mpOf_spec hm
          obtain ⟨b, hb, hd, hlt, hsat⟩ := hR.mapAt hm
          obtain ⟨ob, hr, hs⟩ := update_run (P := P) hT hok hsat key val
          have hR' := hR.mapTurn hm hb ob _ hs
          refine wp_unit (w' := { w with heap := w.heap.setIfInBounds b ob }) ?_ (by have := hn ν _ (.tup []) _ hR' (Step.dirty (Nat.le_refl _) (fun _ _ => rfl) (by simp) rfl) (by simp [svLt, belowL]) h; rwa [hund] at this)
          simp only [execOp, ho, dm.1, dk.1, dv.1, hd, decO_den hkey ν, decO_den hval ν, Sem.run_bind, hr, Result.andThen_ok, Sem.run_pure]
        · exact absurd h.symm hne
      · exact absurd h.symm hne
    · exact absurd h.symm hne
  case h_11 t x ho =>   -- load
    split at h
    · rename_i k j off hk hx
      split at h
      · rename_i T' vs hj
        split at h
        · rename_i v hv
          have dx := ofOpd_den hE hx
          obtain ⟨b, hb, hc⟩ := hR.sat j _ hj
          have hlt : belowL st.nx vs = true := (hR.lt j _ hj).2
          refine wp_value (v := den ν v) ?_ (hn ν st v w hR (Step.refl _ _ _) (partOf_lt hlt hv) h)
          have := run_loadVar (P := P) (w := w) (tyOk hT hk) hc hv
          simp only [execOp, ho, Instr.loadAt, dx.1, den, hb, blk, Instr.sureAddr, Sem.run_bind, Sem.run_pure, Result.andThen_ok, this]
        · exact absurd h.symm hne
      · exact absurd h.symm hne
    · rename_i k j sz i hk hx
      split at h
      · rename_i t' f xs hj
        by_cases hc : (Nat.beq sz f.sz && Nat.beq k.size sz && k.isAgg && f.tabOk) = true
        · rw [hc, ifb_true] at h
          simp only [Bool.and_eq_true] at hc
          obtain ⟨⟨⟨h1, h2⟩, h3⟩, h4⟩ := hc
          have h1 := Nat.eq_of_beq_eq_true h1
          have h2 := Nat.eq_of_beq_eq_true h2
          subst h1
          obtain ⟨hi, h⟩ := O.chk_ne h hne
          simp only [decide_eq_true_eq] at hi
          have dx := ofOpd_den hE hx
          rcases hR.tab j t' f xs hj with ⟨_, e⟩ | ⟨ad, cap, e, hsp, hel⟩
          · rw [e] at hi; simp at hi; omega
          · have hne0 : xs ≠ [] := fun e => by rw [e] at hi; simp at hi; omega
            obtain ⟨hs1, hs2, hs3⟩ := hsp hne0
            have hget : xs[i.toNat]? = some (gt (dfltF f) xs i) := by
              unfold gt
              rw [List.getD_eq_getElem?_getD, List.getElem?_eq_getElem (by omega)]
              rfl
            obtain ⟨vs, hl, hcells, hrd⟩ := hel _ _ hget
            obtain ⟨ν', hR', hag, hden, hlt⟩ := rdF_give f _ vs ν st hR hrd
            have hstep : Step ν st w ν' (st.adds (giveF [] f (gt (dfltF f) xs i) st.nx).2) w := ⟨by rw [adds_nx]; omega, hag, fun e => by rw [adds_dirty]; exact e, Nat.le_refl _, fun _ _ _ => rfl⟩
            have hlt' : svLt (st.adds (giveF [] f (gt (dfltF f) xs i) st.nx).2).nx (.agg (giveF [] f (gt (dfltF f) xs i) st.nx).1) = true := by rw [adds_nx]; simpa only [svLt] using hlt
            refine wp_value (v := den ν' (.agg (giveF [] f (gt (dfltF f) xs i) st.nx).1)) ?_ (hn ν' _ _ w hR' hstep hlt' h)
            obtain ⟨b, o', sp⟩ := ad
            simp only at hs1 hs2 hs3
            subst hs1
            have hlen : (giveF [] f (gt (dfltF f) xs i) st.nx).1.length = f.sz := by
              rw [← hl, ← hden, denL_eq, List.length_map]
            have := run_loadVarC (P := P) (w := w) (ν := ν') (b := b) (B := o' + i.toNat * f.sz) (off := 0) (v := .agg (giveF [] f (gt (dfltF f) xs i) st.nx).1) (tyOk hT hk) (vs := (giveF [] f (gt (dfltF f) xs i) st.nx).1) (fun m u hu => by
                rw [hden] at hu
                have h5 := hcells _ _ hu
                rw [add_plain] at h5
                rw [Nat.add_assoc]
                exact (cell_of_heap (w := w0) (w' := w) (a := ⟨b, _, none⟩) (hR.frame b hs2 hs3)).trans h5) (by
                rw [h3]
                simp only [partOf, List.drop_zero]
                rw [show Nat.ble (0 + k.size) (giveF [] f (gt (dfltF f) xs i) st.nx).1.length = true from Nat.ble_eq_true_of_le (by rw [hlen]; omega), cond_true, List.take_of_length_le (by rw [hlen]; omega)])
            simp only [execOp, ho, Instr.loadAt, dx.1, den, e, blk, offs, Instr.sureAddr, Sem.run_bind, Sem.run_pure, Result.andThen_ok, this]
        · rw [Bool.not_eq_true] at hc; rw [hc] at h; exact absurd h.symm hne
      · exact absurd h.symm hne
    · exact absurd h.symm hne
  case h_12 => exact absurd h.symm hne

theorem evOp_sound {sl : List Nat} {P : Program} {tab : Tab} (hT : tabChk P tab = true) {T : Type} {cal : Cal T} (hC : CalOk P cal) {S : Nat → Prop} {w0 : World} {ν : Nat → Value} {n : Nat} {fr : Fr} {st : St} {K : SV → St → O T} {Kp : PV → St → O T}
    {a : Act} {w : World} (hR : RelW S w0 ν st w) (hE : EnvOk ν n st.nx fr a) (o : Oper) {res : O T} (h : evOp tab cal sl o.op fr.env st K Kp = res) (hne : res ≠ .no)
    {next : Act → World → Prop} {Q : Exit → Act → World → Prop}
    (hn : ∀ ν' st' v w', RelW S w0 ν' st' w' → Step ν st w ν' st' w' → svLt st'.nx v = true → K v st' = res → next (a.put o.dst (den ν' v)) w')
    (hp : ∀ ν' st' e w', RelW S w0 ν' st' w' → Step ν st w ν' st' w' → Kp e st' = res → Q (.panic (panOf e)) a w') :
    o.wp P a w next Q := by
  unfold evOp at h
  by_cases hq : isQ tab o.op = true
  · rw [hq, ifb_true] at h
    obtain ⟨v, hk, hv, hrun⟩ := evQ_run (P := P) hT hR.facts hE o h hne
    exact wp_value (hrun w) (hn ν st v w hR (Step.refl _ _ _) hv hk)
  · rw [Bool.not_eq_true] at hq
    rw [hq, ifb_false] at h
    by_cases hl : isLoad tab o.op = true
    · rw [hl, ifb_true] at h
      obtain ⟨j, v, _, hk, hv, _, hrun⟩ := evLoad_run (P := P) hT (fun x v hx _ => (ofOpd_den hE hx).1) hR o hl h hne
      exact wp_value (hrun w fun _ _ _ => rfl) (hn ν st v w hR (Step.refl _ _ _) hv hk)
    · rw [Bool.not_eq_true] at hl
      rw [hl, ifb_false] at h
      exact evA_sound hT hC hR hE o h hne hn hp
end Go.Aq
