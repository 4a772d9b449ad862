/- Texts of this proof, joined (7 of them): V8, V9, V10, V11, V12, V13, V14.
   Conditions: none but those that stand at each theorem. -/
import Derived.Test.YtpfddjdkafjjfaaE2
import Derived.Lib.ConvBytes
import Derived.Orders
section
namespace Go.Aq
open Go.RowKit (Below)
set_option linter.unusedVariables false
theorem flat_replicate (ls : List Lf) (hls : ls ≠ []) (x : LT ls) (n : Nat) : flat ls (List.replicate n x) = (List.range (n * ls.length)).map (fun i => (cellsV ls x).toArray[i % ls.length]!) := by
 have hp : 0 < ls.length := List.length_pos_iff.2 hls
 apply List.ext_getElem?
 intro i
 rw [List.getElem?_map]
 by_cases hi : i < n * ls.length
 ·rw [List.getElem?_range hi]
  have hd : i / ls.length < n := by rw [Nat.div_lt_iff_lt_mul hp]; exact hi
  have hm : i % ls.length < (cellsV ls x).length := by rw [cellsV_length]; exact Nat.mod_lt _ hp
  have := flat_elem ls (List.replicate n x) (i / ls.length) (by simpa using hd) (i % ls.length) ((cellsV ls x)[i % ls.length]'hm) (by
   rw [show (List.replicate n x).getD (i / ls.length) (dfltL ls) = x by simp [List.getD_eq_getElem?_getD, List.getElem?_replicate, hd]]
   exact List.getElem?_eq_getElem hm)
  rw [show i / ls.length * ls.length + i % ls.length = i by rw [Nat.mul_comm]; exact Nat.div_add_mod i ls.length] at this
  rw [this]
  simp [hm]
 ·rw [List.getElem?_eq_none (by rw [flat_length]; simp; omega), List.getElem?_eq_none (by simp; omega)]
  rfl
theorem toList_made (z : Array Value) (n : Nat) : (madeCells z n).toList = (List.range n).map (fun i => z[i % z.size]!) := by simp [madeCells]
theorem zero_cells {k : TK} {y : Value} (hz : ∀ ν, den ν k.zero = y) {ls : List Lf} (h : k.lfs = some ls) : y.cells = (cellsV ls (dfltL ls)).toArray := by
 rw [← hz ν0, cellsOf_den, lfs_zero h]; rfl
theorem fillR (ν : Nat → Value) (ls : List Lf) (hls : ls ≠ []) (n : Nat) : ∀ (ps : List (Nat × SV)) (xs xs' : List (LT ls)), xs.length = n → partsL ls n ps xs = some xs' →
  Instr.fill (fun i => some (i * ls.length, ls.length)) (flat ls xs).toArray (ps.map fun p => (p.1, den ν p.2)) = some (flat ls xs').toArray ∧ xs'.length = n
 | [], xs, xs', hl, h => by cases h; exact ⟨rfl, hl⟩
 | (i, v) :: ps, xs, xs', hl, h => by
  simp only [partsL] at h
  split at h
  ·rename_i x hx
   by_cases hc : Nat.blt i n = true
   ·rw [hc, cond_true] at h
    have hi : i < n := Nat.le_of_ble_eq_true hc
    have hv : (den ν v).cells = (cellsV ls x).toArray := by rw [cellsOf_den, decL_of ls _ x hx, cellsV_any]
    have hs : (den ν v).cells.size = ls.length := by rw [hv]; simp [cellsV_length]
    have hF : (flat ls xs).toArray.size = n * ls.length := by simp [flat_length, hl]
    have hle : (i + 1) * ls.length ≤ n * ls.length := Nat.mul_le_mul_right _ hi
    rw [Nat.add_mul, Nat.one_mul] at hle
    simp only [List.map_cons, Instr.fill]
    rw [if_neg (by simp only [hs, hF, ne_eq, not_true_eq_false, decide_false, Bool.false_or, decide_eq_true_eq]; omega)]
    have hset : ((den ν v).cells.zipIdx.foldl (fun cs (c, j) => cs.setIfInBounds (i * ls.length + j) c) (flat ls xs).toArray) = (flat ls (xs.set i x)).toArray := by
     apply Array.ext'
     rw [← Array.foldl_toList, Array.toList_zipIdx, hv]
     have := zip_set (i * ls.length) (cellsV ls x) 0 (flat ls xs).toArray (by rw [hF, cellsV_length]; omega)
     simp only [Nat.add_zero] at this
     rw [this, flat_set ls xs i (by omega) x, cellsV_length, Nat.add_mul, Nat.one_mul, List.append_assoc]
    rw [hset]
    exact fillR ν ls hls n ps _ xs' (by simpa using hl) h
   ·rw [Bool.not_eq_true] at hc; rw [hc] at h; cases h
  ·cases h
theorem fillC (ν : Nat → Value) (n : Nat) : ∀ (ps : List (Nat × SV)) (xs xs' : List SV), xs.length = n → partsC n ps xs = some xs' →
  Instr.fill (fun i => some (i * 1, 1)) (denL ν xs).toArray (ps.map fun p => (p.1, den ν p.2)) = some (denL ν xs').toArray ∧ xs'.length = n
 | [], xs, xs', hl, h => by cases h; exact ⟨rfl, hl⟩
 | (i, v) :: ps, xs, xs', hl, h => by
  simp only [partsC] at h
  by_cases hc : (isLeaf v && Nat.blt i n) = true
  ·rw [hc, cond_true] at h
   simp only [Bool.and_eq_true] at hc
   have hi : i < n := Nat.le_of_ble_eq_true hc.2
   have hv : (den ν v).cells = #[den ν v] := by
    rw [cellsOf_den]
    have : v.cellsOf = [v] := by cases v <;> simp [isLeaf] at hc <;> rfl
    rw [this]; rfl
   simp only [List.map_cons, Instr.fill, hv]
   rw [if_neg (by simp [denL_length, hl]; omega)]
   have hset : (#[den ν v].zipIdx.foldl (fun cs (c, j) => cs.setIfInBounds (i * 1 + j) c) (denL ν xs).toArray) = (denL ν (xs.set i v)).toArray := by
    simp [denL_eq, List.map_set]
   rw [hset]
   exact fillC ν n ps _ xs' (by simpa using hl) h
  ·rw [Bool.not_eq_true] at hc; rw [hc] at h; cases h
theorem partsC_lt {m n : Nat} : ∀ {ps : List (Nat × SV)} {xs xs' : List SV}, partsC n ps xs = some xs' → (∀ p ∈ ps, svLt m p.2 = true) → belowL m xs = true → belowL m xs' = true
 | [], xs, xs', h, _, hb => by cases h; exact hb
 | (i, v) :: ps, xs, xs', h, hp, hb => by
  simp only [partsC] at h
  by_cases hc : (isLeaf v && Nat.blt i n) = true
  ·rw [hc, cond_true] at h
   refine partsC_lt h (fun p hp' => hp p (by simp [hp'])) ?_
   rw [belowL_iff] at hb ⊢
   intro u hu
   rcases List.mem_or_eq_of_mem_set hu with hu | rfl
   ·exact hb u hu
   ·exact hp (i, u) (by simp)
  ·rw [Bool.not_eq_true] at hc; rw [hc] at h; cases h
theorem flat_store (ν : Nat → Value) (ls : List Lf) (xs : List (LT ls)) (i off : Nat) (hi : i < xs.length) (vs : List SV) (y : LT ls) (hoff : off + vs.length ≤ ls.length) (hy : decL ls (setPart off vs (encL ls (xs.getD i (dfltL ls)))) = some y) (rest : List Value) :
  ((flat ls xs ++ rest).take (i * ls.length + off) ++ denL ν vs ++ (flat ls xs ++ rest).drop (i * ls.length + off + (denL ν vs).length)).take (xs.length * ls.length) = flat ls (xs.set i y) := by
 have hlv : (denL ν vs).length = vs.length := denL_length ν vs
 have hcv : cellsV ls y = (cellsV ls (xs.getD i (dfltL ls))).take off ++ denL ν vs ++ (cellsV ls (xs.getD i (dfltL ls))).drop (off + vs.length) := by
  have := decL_of ls _ y hy
  rw [← cellsV_any ls y ν, ← this, setPart_den, cellsV_any, hlv]
 have hF : flat ls xs = (flat ls xs).take (i * ls.length) ++ (cellsV ls (xs.getD i (dfltL ls)) ++ (flat ls xs).drop ((i + 1) * ls.length)) := by
  have h1 := flat_at ls xs i hi
  rw [← h1, Nat.add_mul, Nat.one_mul, ← List.drop_drop, List.take_append_drop, List.take_append_drop]
 have hle : (i + 1) * ls.length ≤ xs.length * ls.length := Nat.mul_le_mul_right _ hi
 have hfl := flat_length ls xs
 rw [flat_set ls xs i hi y, hcv]
 generalize hA : (flat ls xs).take (i * ls.length) = A at *
 generalize hX : cellsV ls (xs.getD i (dfltL ls)) = X at *
 generalize hB : (flat ls xs).drop ((i + 1) * ls.length) = B at *
 have lA : A.length = i * ls.length := by rw [← hA, List.length_take]; rw [Nat.add_mul] at hle; omega
 have lX : X.length = ls.length := by rw [← hX, cellsV_length]
 rw [hF] at hfl ⊢
 simp only [List.length_append] at hfl
 have e1 : (A ++ (X ++ B) ++ rest).take (i * ls.length + off) = A ++ X.take off := by
  rw [List.append_assoc, List.take_append, List.take_of_length_le (l := A) (by omega), List.append_assoc, List.take_append, show i * ls.length + off - A.length = off by omega, show off - X.length = 0 by omega]
  simp
 have e2 : (A ++ (X ++ B) ++ rest).drop (i * ls.length + off + (denL ν vs).length) = X.drop (off + vs.length) ++ B ++ rest := by
  rw [List.append_assoc, List.drop_append, List.drop_of_length_le (l := A) (by omega), List.append_assoc, List.drop_append, show i * ls.length + off + (denL ν vs).length - A.length = off + vs.length by omega, show off + vs.length - X.length = 0 by omega]
  simp
 rw [e1, e2, ← List.append_assoc, List.take_left' (by simp only [List.length_append, List.length_take, List.length_drop]; omega)]
 simp only [List.append_assoc]
def Src (P : Program) (w : World) (u : Value) (ls : List Lf) (ys : List (LT ls)) : Prop :=
 (Builtin.lenOf u).run P w = .ok ys.length w ∧ ∀ k, k ≤ ys.length → (Builtin.firstCells ls.length k u).run P w = .ok (flat ls (ys.take k)).toArray w
theorem Reads.src {P : Program} {w : World} {u : Value} {ls : List Lf} {ys : List (LT ls)} (h : Reads w u ls ys) : Src P w u ls ys := by
 rcases h with ⟨rfl, rfl⟩ | ⟨a, c, rfl, -, hc⟩
 ·exact ⟨by simp [Builtin.lenOf], fun k hk => by simp [Builtin.firstCells, flat]⟩
 ·refine ⟨by simp [Builtin.lenOf], fun k hk => ?_⟩
  refine run_firstCells_some (P := P) w ls.length k a ys.length c (flat ls (ys.take k)) (by rw [flat_length, List.length_take]; congr 1; omega) fun j v hv => hc j v ?_
  rw [flat_take, List.getElem?_take] at hv
  split at hv
  ·exact hv
  ·cases hv
theorem str_src {P : Program} {w : World} (b : ByteArray) : Src P w (.string b) [.int .u8] (bytesOf b) := by
 have hl : List.length (α := LT [.int .u8]) (bytesOf b) = b.size := by
  show (bytesOf b).length = b.size
  simp [bytesOf]
 refine ⟨by rw [hl]; simp [Builtin.lenOf], fun k hk => ?_⟩
 rw [hl] at hk
 have e : flat [.int .u8] ((bytesOf b).take k) = ((bytesOf b).take k).map (Value.int .u8) := flat_u8 _
 show _ = Result.ok (flat [.int .u8] ((bytesOf b).take k)).toArray w
 rw [e]
 simp only [Builtin.firstCells, Sem.run_pure]
 congr 1
 apply Array.ext'
 simp [bytesOf, List.map_take]
 rfl
theorem putAt_length {α : Type} (xs : List α) (lo : Int) (ys : List α) (h : lo.toNat + ys.length ≤ xs.length) : (putAt xs lo ys).length = xs.length := by
 simp [putAt]; omega
theorem flat_putAt (ls : List Lf) (xs ys : List (LT ls)) (lo : Int) (h : lo.toNat + ys.length ≤ xs.length) (rest : List Value) :
  ((flat ls xs ++ rest).take (lo.toNat * ls.length) ++ flat ls ys ++ (flat ls xs ++ rest).drop (lo.toNat * ls.length + (flat ls ys).length)).take (xs.length * ls.length) = flat ls (putAt xs lo ys) := by
 have hle : (lo.toNat + ys.length) * ls.length ≤ xs.length * ls.length := Nat.mul_le_mul_right _ h
 rw [Nat.add_mul] at hle
 have hfx := flat_length ls xs
 have hfy := flat_length ls ys
 have e1 : (flat ls xs ++ rest).take (lo.toNat * ls.length) = (flat ls xs).take (lo.toNat * ls.length) := by
  rw [List.take_append, show lo.toNat * ls.length - (flat ls xs).length = 0 by omega]; simp
 have e2 : (flat ls xs ++ rest).drop (lo.toNat * ls.length + (flat ls ys).length) = (flat ls xs).drop (lo.toNat * ls.length + (flat ls ys).length) ++ rest := by
  rw [List.drop_append, show lo.toNat * ls.length + (flat ls ys).length - (flat ls xs).length = 0 by omega]; simp
 rw [e1, e2, ← List.append_assoc, List.take_left' (by simp only [List.length_append, List.length_take, List.length_drop]; omega)]
 rw [putAt, flat_append, flat_append, flat_take, flat_drop, hfy, Nat.add_mul, List.append_assoc]
theorem RelW.same {S : Bl} {w0 : World} {ν : Nat → Value} {st : St} {w : World} (h : RelW S w0 ν st w) {j : Nat} {o : HO} (hj : lkp j st.H = some o) : RelW S w0 ν (st.put j o) w :=
 h.turn hj ⟨rfl, rfl, rfl, Nat.le_refl _⟩ rfl (fun _ hb => hb) (fun _ _ => rfl) (h.lt j o hj).2 (h.sat j o hj)
theorem copy_run {P : Program} {S : Bl} {w0 : World} {ν : Nat → Value} {st : St} {w : World} (hR : RelW S w0 ν st w) {v : SV} {s : Sl} (hS : SlOk ν st.H st.nx v s) (hok : s.ok = true) (hown : s.own = true) {dT sT ty : TypeId} {i : TypeInfo} {e : TypeId}
  (hd : P.underlying dT = some (.slice e)) (hi : P.info? e = some i) (hsz : i.size = s.ls.length) {u : Value} {ys : List (LT s.ls)} (hu : Src P w u s.ls ys) :
  ∃ w', (Builtin.copy_ #[dT, sT] ty #[den ν v, u]).run P w = .ok (.int .i64 (min (ys.length : Int) s.n)) w' ∧ w.heap.size ≤ w'.heap.size ∧ RelW S w0 ν (st.put s.j (.row true s.t s.ls (putAt s.xs (sumI s.ch) (ys.take s.n.toNat)))) w' := by
 obtain ⟨p1, p2, p3⟩ := Sl.ok_spec hok
 have p4 := sumI_nonneg p1
 have hat : lkp s.j st.H = some (.row true s.t s.ls s.xs) := by rw [← hown]; exact hS.at_
 have whole : s.n = 0 → putAt s.xs (sumI s.ch) (ys.take s.n.toNat) = s.xs := by
  intro h; rw [h]; simp [putAt]
 rcases hS.shape hok with ⟨e1, _, e3, _⟩ | ⟨a, cap, e1, e2, _, _, e5⟩
 ·refine ⟨w, ?_, Nat.le_refl _, by rw [whole e3]; exact hR.same hat⟩
  have hf := hu.2 0 (Nat.zero_le _)
  have hmin : Nat.min ys.length 0 = 0 := Nat.min_zero _
  simp [Builtin.copy_, run_underlying' hd, e1, hu.1, run_sizeOf' hi, hsz, hmin, hf, goInt, e3]
  omega
 ·have hn : (Nat.min ys.length s.n.toNat : Nat) ≤ ys.length := Nat.min_le_left _ _
  have hf := hu.2 _ hn
  have htake : ys.take (Nat.min ys.length s.n.toNat) = ys.take s.n.toNat := by
   show ys.take (min ys.length s.n.toNat) = _
   rcases Nat.le_total ys.length s.n.toNat with h | h
   ·rw [Nat.min_eq_left h, List.take_of_length_le (Nat.le_refl _), List.take_of_length_le h]
   ·rw [Nat.min_eq_right h]
  rw [htake] at hf
  have hgo : ∀ w', (Builtin.copy_ #[dT, sT] ty #[den ν v, u]).run P w = .ok (goInt (Nat.min ys.length s.n.toNat)) w' → (Builtin.copy_ #[dT, sT] ty #[den ν v, u]).run P w = .ok (.int .i64 (min (ys.length : Int) s.n)) w' := by
   intro w' hr
   rw [hr]
   congr 1
   simp only [goInt]
   congr 1
   show ((Nat.min ys.length s.n.toNat : Nat) : Int) = _
   have : Nat.min ys.length s.n.toNat = min ys.length s.n.toNat := rfl
   omega
  by_cases hpos : 0 < s.n
  ·obtain ⟨e6, e7⟩ := e5 hpos
   rcases hR.ownRow hat with ⟨f, _⟩ | ⟨b, o, cap', cur, fz, f, g1, g2, g3, g4, g5, g6⟩
   ·rw [f] at e1; cases e1
   rw [f] at e1
   cases e1
   have hlen : (ys.take s.n.toNat).length ≤ s.n.toNat := by simp; omega
   have hle : ((sumI s.ch).toNat + (ys.take s.n.toNat).length) ≤ s.xs.length := by omega
   have hle2 : ((sumI s.ch).toNat + (ys.take s.n.toNat).length) * s.ls.length ≤ s.xs.length * s.ls.length := Nat.mul_le_mul_right _ hle
   have hle3 : s.xs.length * s.ls.length ≤ cap * s.ls.length := Nat.mul_le_mul_right _ g1
   rw [Nat.add_mul] at hle2
   have hfl := flat_length s.ls (ys.take s.n.toNat)
   have hst := run_storeCells_thaw P b (o + (sumI s.ch).toNat * s.ls.length) s.t fz (flat s.ls (ys.take s.n.toNat)) 0 cur w g3 g5 (by omega) (flat_one _ _)
   simp only [Nat.add_zero] at hst
   have hcur : cur.toList.drop o = flat s.ls s.xs ++ (cur.toList.drop o).drop (s.xs.length * s.ls.length) := by rw [← g6, List.take_append_drop]
   have hx' := flat_putAt s.ls s.xs (ys.take s.n.toNat) (sumI s.ch) hle ((cur.toList.drop o).drop (s.xs.length * s.ls.length))
   rw [← hcur, ← drop_seg cur.toList o _ _ (by simp only [Array.length_toList]; omega)] at hx'
   have hset := hR.setElems hat (xs' := putAt s.xs (sumI s.ch) (ys.take s.n.toNat)) (putAt_length _ _ _ hle) f (cur' := (cur.toList.take (o + (sumI s.ch).toNat * s.ls.length) ++ flat s.ls (ys.take s.n.toNat) ++ cur.toList.drop (o + (sumI s.ch).toNat * s.ls.length + (flat s.ls (ys.take s.n.toNat)).length)).toArray) g3 (by simp only [List.size_toArray, List.length_append, List.length_take, List.length_drop, Array.length_toList]; omega) hx'
   refine ⟨_, hgo _ ?_, by simp, hset⟩
   have e7' : (chop s.ls.length s.ch (⟨b, o, none⟩, cap)).1 = ⟨b, o + (sumI s.ch).toNat * s.ls.length, none⟩ := by simpa [add_plain] using e7
   simp [Builtin.copy_, run_underlying' hd, e2, hu.1, run_sizeOf' hi, hsz, hf, e7', hst]
  ·have h0 : s.n = 0 := by omega
   refine ⟨w, hgo _ ?_, Nat.le_refl _, by rw [whole h0]; exact hR.same hat⟩
   have hf0 : (ys.take s.n.toNat) = [] := by rw [h0]; simp
   rw [hf0] at hf
   simp [Builtin.copy_, run_underlying' hd, e2, hu.1, run_sizeOf' hi, hsz, hf, flat, storeCells]
theorem RelW.grown {S : Bl} {w0 : World} {ν : Nat → Value} {st : St} {w w' : World} (h : RelW S w0 ν st w) (he : Ext w w') {v : Value} {t : TypeId} {ls : List Lf} (hls : ls ≠ []) {xs : List (LT ls)} (hv : RowSat w' v true t ls xs)
  (H' : Heap) (d : Bool) (old : List Nat) (hH : ∀ j o, lkp j H' = some o → lkp j st.H = some o) (hno : ∀ j o b, lkp j H' = some o → b ∈ mineL ν j o ∨ b ∈ seenL ν j o → b ∈ old → False)
  (hold : ∀ b ∈ old, (S b ∨ w0.heap.size ≤ b) ∧ b < w.heap.size) (hsame : ∀ b, b < w.heap.size → b ∉ old → w'.heap[b]? = w.heap[b]?)
  (hnew : ∀ b ∈ rowMine true v, b ∈ old ∨ b = w.heap.size) :
  RelW S w0 (upd ν st.nx v) ⟨Nat.succ st.nx, d, (st.nx, .row true t ls xs) :: H'⟩ w' := by
 have hm : mineL (upd ν st.nx v) st.nx (.row true t ls xs) = rowMine true v := by simp [mineL, upd_new]
 refine h.new he v _ H' d hH ?_ ?_ rfl ⟨hls, by rw [upd_new]; exact hv⟩ (by rw [hm]; exact rowMine_nodup v) ?_ ?_ ?_
 ·intro j o b hj hb
  exact hsame b (hoSat_lt (h.sat j o (hH j o hj)) b hb) fun e => hno j o b hj hb e
 ·intro b hb hS
  refine hsame b (Nat.lt_of_lt_of_le hb h.size) fun e => ?_
  rcases (hold b e).1 with h3 | h3
  ·exact hS h3
  ·omega
 ·intro j o b hj hb
  rw [hm] at hb
  rcases hnew b hb with h1 | h1
  ·exact ⟨fun hb' => hno j o b hj (.inl hb') h1, fun hb' => hno j o b hj (.inr hb') h1⟩
  ·exact ⟨fun hb' => by have := hoSat_lt (h.sat j o (hH j o hj)) b (.inl hb'); omega, fun hb' => by have := hoSat_lt (h.sat j o (hH j o hj)) b (.inr hb'); omega⟩
 ·intro b hb
  rw [hm] at hb
  rcases hnew b hb with h1 | h1
  ·exact (hold b h1).1
  ·rw [h1]; exact .inr h.size
 ·intro b hb
  simp [seenL, rowSeen] at hb
theorem RelW.mapTurn {S : Bl} {w0 : World} {ν : Nat → Value} {st : St} {w : World} (h : RelW S w0 ν st w) {tab : Tab} {t : TypeId} {v : SV} {m : Mp} (hm : mpOf tab t st.H v = some m) {b : Nat} (hb : ν m.j = .map (some b)) (ob : Obj) (es' : List (LT m.kl × LT m.vl))
  (hs : MapSat { w with heap := w.heap.setIfInBounds b ob } b m.ka m.va m.kl m.vl es') : RelW S w0 ν (st.put m.j (.map t m.ka m.va m.kl m.vl es')) { w with heap := w.heap.setIfInBounds b ob } := by
 obtain ⟨_, hj, _⟩ := mpOf_spec hm
 refine h.turn hj ⟨rfl, rfl, rfl, by simp⟩ rfl (fun _ hb => hb) (fun c hc => ?_) rfl ⟨b, hb, hs⟩
 have : b ≠ c := fun e => hc (by simp [mineL, hb, blk, e])
 simp [this]
set_option maxHeartbeats 1000000 in
theorem evA_sound {sl : List Nat} {P : Program} {tab : Tab} (hT : tabChk P tab = true) {T : Type} {cal : Cal T} (hC : CalOk P cal) {S : Bl} {w0 : World} {ν : Nat → Value} {n : Nat} {fr : Fr} {st : St} {K : SV → St → O T} {Kp : PV → St → O T}
  {a : Act} {w : World} (hR : RelW S w0 ν st w) (hE : EnvOk ν n st.nx fr a) (o : Oper) {res : O T} (h : evA tab cal sl o.op fr.env st K Kp = res) (hne : res ≠ .no)
  {next : Act → World → Prop} {Q : Exit → Act → World → Prop}
  (hn : ∀ ν' st' v w', RelW S w0 ν' st' w' → Step ν st w ν' st' w' → svLt st'.nx v = true → K v st' = res → next (a.put o.dst (den ν' v)) w')
  (hp : ∀ ν' st' e w', RelW S w0 ν' st' w' → Step ν st w ν' st' w' → Kp e st' = res → Q (.panic (panOf e)) a w') :
  o.wp P a w next Q := by
 have z : ∀ v, svLt 0 v = true → svLt st.nx v = true := fun v hv => svLt_mono (Nat.zero_le _) v hv
 have hund : ∀ ν', den ν' (.tup []) = undef := fun ν' => by simp [den, denL, undef]
 unfold evA at h
 split at h
 case h_1 t ho =>   -- alloc
  split at h
  ·rename_i k hk
   have ht := tyOk hT hk
   obtain ⟨i, hi, hs, _, y, hy, hz⟩ := ht.info
   have hb : belowL st.nx k.zero.cellsOf = true := cellsOf_lt (z _ ht.zlt)
   have hadd := hR.add t k.zero.cellsOf hb
   refine wp_value (v := den (upd ν st.nx (.pointer (some ⟨w.heap.size, 0, none⟩))) (.ptr st.nx 0)) ?_ (hn _ _ _ _ hadd (Step.add _ _ _ _ _ _) (by simp [svLt, St.add]) h)
   simp only [execOp, ho, Instr.alloc, Sem.run_bind, run_zeroValue' hi hy, Result.andThen_ok, newVar, newRow, run_newObj, Sem.run_pure]
   rw [← hz ν, cellsOf_den]
   simp [den, upd, blk]
  ·exact absurd h.symm hne
 case h_2 t x ho =>   -- box
  split at h
  ·rename_i v hv
   by_cases hl : v.cellsOf.all isLeaf = true
   ·rw [hl, ifb_true] at h
    have hd := ofOpd_den hE hv
    have hadd := hR.add t v.cellsOf (cellsOf_lt hd.2)
    refine wp_value (v := den (upd ν st.nx (.pointer (some ⟨w.heap.size, 0, none⟩))) (.ptr st.nx 0)) ?_ (hn _ _ _ _ hadd (Step.add _ _ _ _ _ _) (by simp [svLt, St.add]) h)
    simp only [execOp, ho, Instr.box, Sem.run_bind, Result.andThen_ok, newVar, newRow, run_newObj, Sem.run_pure]
    rw [hd.1, cellsOf_den]
    simp [den, upd, blk]
   ·rw [Bool.not_eq_true] at hl; rw [hl] at h; exact absurd h.symm hne
  ·exact absurd h.symm hne
 case h_3 t x y ho =>   -- store
  split at h
  ·rename_i k j off v hk hx hy
   split at h
   ·rename_i T' vs hj
    by_cases hc : (Nat.beq v.cellsOf.length k.size && Nat.ble (off + k.size) vs.length && v.cellsOf.all isLeaf) = true
    ·rw [hc, ifb_true] at h
     simp only [Bool.and_eq_true] at hc
     obtain ⟨⟨h1, h2⟩, h3⟩ := hc
     have h1 := Nat.eq_of_beq_eq_true h1
     have h2 := Nat.le_of_ble_eq_true h2
     have dx := ofOpd_den hE hx
     have dy := ofOpd_den hE hy
     obtain ⟨b, hb, hcell⟩ := hR.sat j _ hj
     have hlt : belowL st.nx vs = true := (hR.lt j _ hj).2
     have hput := hR.put hj hb (setPart_lt (off := off) (cellsOf_lt dy.2) hlt)
     refine wp_unit ?_ (by have := hn ν _ (.tup []) _ hput (Step.dirty (Nat.le_refl _) (fun _ _ => rfl) (by simp) rfl) (by simp [svLt, belowL]) h; rwa [hund] at this)
     have := run_storeVar (P := P) (tyOk hT hk) hcell h1 h2 h3
     simp only [execOp, ho, Instr.storeAt, dx.1, dy.1, den, hb, blk, Instr.sureAddr, Sem.run_bind, Sem.run_pure, Result.andThen_ok, this]
    ·rw [Bool.not_eq_true] at hc; rw [hc] at h; exact absurd h.symm hne
   ·exact absurd h.symm hne
  ·rename_i k j sz i off v hk hx hy
   split at h
   ·rename_i t' ls xs hj
    by_cases hc : (Nat.beq sz ls.length && Nat.beq v.cellsOf.length k.size && Nat.ble (off + k.size) ls.length && v.cellsOf.all isLeaf) = true
    ·rw [hc, ifb_true] at h
     simp only [Bool.and_eq_true] at hc
     obtain ⟨⟨⟨h0, h1⟩, h2⟩, h3⟩ := hc
     have h0 := Nat.eq_of_beq_eq_true h0
     have h1 := Nat.eq_of_beq_eq_true h1
     have h2 := Nat.le_of_ble_eq_true h2
     subst h0
     obtain ⟨hi, h⟩ := O.chk_ne h hne
     simp only [decide_eq_true_eq] at hi
     split at h
     ·rename_i yv hyv
      have dx := ofOpd_den hE hx
      have dy := ofOpd_den hE hy
      rcases hR.ownRow hj with ⟨_, e⟩ | ⟨b, o, cap, cur, fz, e, g1, g2, g3, g4, g5, g6⟩
      ·rw [e] at hi; simp at hi; omega
      have hil : i.toNat < xs.length := by omega
      have hlv : (denL ν v.cellsOf).length = k.size := by rw [denL_length, h1]
      have hle : (i.toNat + 1) * ls.length ≤ xs.length * ls.length := Nat.mul_le_mul_right _ hil
      have hle2 : xs.length * ls.length ≤ cap * ls.length := Nat.mul_le_mul_right _ g1
      rw [Nat.add_mul, Nat.one_mul] at hle
      have hst := run_storeCells_thaw P b (o + (i.toNat * ls.length + off)) t' fz (denL ν v.cellsOf) 0 cur w g3 g5 (by omega) (leafL_one ν h3)
      simp only [Nat.add_zero] at hst
      have hcur : cur.toList.drop o = flat ls xs ++ (cur.toList.drop o).drop (xs.length * ls.length) := by rw [← g6, List.take_append_drop]
      have hx' := flat_store ν ls xs i.toNat off hil v.cellsOf yv (by omega) hyv ((cur.toList.drop o).drop (xs.length * ls.length))
      rw [← hcur, ← drop_seg cur.toList o _ _ (by simp only [Array.length_toList]; omega)] at hx'
      have hset := hR.setElems hj (xs' := su xs i yv) (by simp [su]) e (cur' := (cur.toList.take (o + (i.toNat * ls.length + off)) ++ denL ν v.cellsOf ++ cur.toList.drop (o + (i.toNat * ls.length + off) + (denL ν v.cellsOf).length)).toArray) g3 (by simp only [List.size_toArray, List.length_append, List.length_take, List.length_drop, Array.length_toList]; omega) hx'
      refine wp_unit ?_ (by have := hn ν _ (.tup []) _ hset (Step.dirty (Nat.le_refl _) (fun _ _ => rfl) (by simp) rfl) (by simp [svLt, belowL]) h; rwa [hund] at this)
      obtain ⟨ti, hti, hts, -⟩ := (tyOk hT hk).info
      have hsz : (den ν v).cells.size = k.size := by rw [cellsOf_den]; simp [denL_length, h1]
      simp only [execOp, ho, Instr.storeAt, dx.1, dy.1, den, e, blk, offs, Instr.sureAddr, storeVar, Sem.run_bind, Sem.run_pure, run_sizeOf' hti, hts, hsz, ne_eq, not_true_eq_false, if_false, Result.andThen_ok]
      rw [cellsOf_den]
      rw [Nat.add_assoc]
      simp only [hst, Result.andThen_ok]
     ·exact absurd h.symm hne
    ·rw [Bool.not_eq_true] at hc; rw [hc] at h; exact absurd h.symm hne
   ·rename_i t' γ p f xs i' vs hj
    by_cases hc : (Nat.beq sz f.sz && Nat.beq v.cellsOf.length k.size && Nat.ble (off + k.size) vs.length && v.cellsOf.all isLeaf) = true
    ·rw [hc, ifb_true] at h
     simp only [Bool.and_eq_true] at hc
     obtain ⟨⟨⟨h0, h1⟩, h2⟩, h3⟩ := hc
     obtain rfl := Nat.eq_of_beq_eq_true h0
     have h1 := Nat.eq_of_beq_eq_true h1
     have h2 := Nat.le_of_ble_eq_true h2
     obtain ⟨hi, h⟩ := O.chk_ne h hne
     simp only [decide_eq_true_eq] at hi
     subst hi
     have dx := ofOpd_den hE hx
     have dy := ofOpd_den hE hy
     obtain ⟨w', hst, hsize, hset⟩ := storeOpn (P := P) hR hj (off := off) (new := v.cellsOf) (by omega) h3 (cellsOf_lt dy.2)
     refine wp_unit ?_ (by have := hn ν _ (.tup []) _ hset (Step.dirty (Nat.le_refl _) (fun _ _ => rfl) hsize rfl) (by simp [svLt, belowL]) h; rwa [hund] at this)
     obtain ⟨ti, hti, hts, -⟩ := (tyOk hT hk).info
     have hsz : (den ν v).cells.size = k.size := by rw [cellsOf_den]; simp [denL_length, h1]
     simp only [execOp, ho, Instr.storeAt, dx.1, dy.1, den, Instr.sureAddr, storeVar, Sem.run_bind, Sem.run_pure, run_sizeOf' hti, hts, hsz, ne_eq, not_true_eq_false, if_false, Result.andThen_ok]
     rw [cellsOf_den]
     simp only [hst, Result.andThen_ok]
    ·rw [Bool.not_eq_true] at hc; rw [hc] at h; exact absurd h.symm hne
   ·rename_i t' γ p f xs hj
    by_cases hc : (Nat.beq sz f.sz && Nat.beq v.cellsOf.length k.size && v.cellsOf.all isLeaf) = true
    ·rw [hc, ifb_true] at h
     simp only [Bool.and_eq_true] at hc
     obtain ⟨⟨h0, h1⟩, h3⟩ := hc
     obtain rfl := Nat.eq_of_beq_eq_true h0
     have h1 := Nat.eq_of_beq_eq_true h1
     have dx := ofOpd_den hE hx
     have dy := ofOpd_den hE hy
     obtain ⟨ν1, st1, hre, h, t1, γ1, p1, p1', f1, xs1, vs1, g1, g2, g3, g4⟩ := openJ_sound hR h hne
     rw [hj] at g1
     cases g1
     have hbl : belowL st1.nx v.cellsOf = true := belowL_mono hre.nx _ (cellsOf_lt dy.2)
     have hdv : den ν v = den ν1 v := den_congr hre.agree v dy.2
     split at h
     ·rename_i t2 γ2 p2 f2 xs2 i2 vs2 hj2
      rw [g4] at hj2
      cases hj2
      by_cases hc2 : Nat.ble (off + k.size) vs1.length = true
      ·rw [hc2, ifb_true] at h
       have hc2 := Nat.le_of_ble_eq_true hc2
       obtain ⟨w', hst, hsize, hset⟩ := storeOpn (P := P) hre.rel g4 (off := off) (new := v.cellsOf) (by omega) h3 hbl
       rw [← hre.agree j (hR.lt j _ hj).1] at hst
       refine wp_unit ?_ (by have := hn ν1 _ (.tup []) _ hset (hre.step.trans (Step.dirty (Nat.le_refl _) (fun _ _ => rfl) hsize rfl)) (by simp [svLt, belowL]) h; rwa [hund] at this)
       obtain ⟨ti, hti, hts, -⟩ := (tyOk hT hk).info
       have hsz : (den ν1 v).cells.size = k.size := by rw [cellsOf_den]; simp [denL_length, h1]
       simp only [execOp, ho, Instr.storeAt, dx.1, dy.1, hdv, den, Instr.sureAddr, storeVar, Sem.run_bind, Sem.run_pure, run_sizeOf' hti, hts, hsz, ne_eq, not_true_eq_false, if_false, Result.andThen_ok]
       rw [cellsOf_den]
       simp only [hst, Result.andThen_ok]
      ·rw [Bool.not_eq_true] at hc2; rw [hc2] at h; exact absurd h.symm hne
     ·exact absurd h.symm hne
    ·rw [Bool.not_eq_true] at hc; rw [hc] at h; exact absurd h.symm hne
   ·exact absurd h.symm hne
  ·exact absurd h.symm hne
 case h_4 t nn cc ho =>   -- makeSlice
  split at h
  ·rename_i e k1 n' k2 c' ht hx hy
   split at h
   ·rename_i k hk
    split at h
    ·rename_i ls hls
     obtain ⟨hb, h'⟩ := O.chk_ne h hne
     clear h
     simp only [decide_eq_true_eq] at hb
     obtain ⟨b0, bc, b1⟩ := hb
     subst bc
     have tk := tyOk hT hk
     obtain ⟨i, hi, hs, hby, y, hyz, hz⟩ := tk.info
     obtain ⟨d, hd, hdk, -⟩ := (tyOk hT ht).desc
     cases d <;> simp [descChk] at hdk
     subst hdk
     have hsz : i.size = ls.length := by rw [hs, lfs_size tk hls]
     have dx := ofOpd_den hE hx
     have dy := ofOpd_den hE hy
     have hne0 := lfs_ne hls
     have hr := run_make (P := P) w t _ i y hd hi hyz k1 k2 n' n' b0 (Int.le_refl _) (by
      have : i.bytes * n'.toNat ≤ 65536 * 1073741824 := Nat.mul_le_mul hby (by omega)
      have h2 : ((i.bytes * n'.toNat : Nat) : Int) ≤ 281474976710656 := by omega
      rw [Int.natCast_mul] at h2
      rwa [Int.toNat_of_nonneg b0] at h2) (by omega)
     have hfl : (madeCells y.cells (n'.toNat * i.size)).toList = flat ls (List.replicate n'.toNat (dfltL ls)) := by
      rw [toList_made, flat_replicate ls hne0, zero_cells hz hls, hsz]
      simp [cellsV_length]
     have hnew := hR.newRow e ls hne0 (List.replicate n'.toNat (dfltL ls)) (madeCells y.cells (n'.toNat * i.size)) (0, 0) n'.toNat (by simp) (by simp only [maxLen]; omega) (by rw [size_madeCells, hsz]) (thawed_zero _) (by
      rw [hfl]
      exact List.take_of_length_le (by rw [flat_length]; exact Nat.le_refl _))
     refine wp_value ?_ (hn _ _ _ _ hnew (Step.add _ _ _ _ _ _) (by simp [svLt, St.add]) h')
     simp only [execOp, ho, dx.1, dy.1, den, hr, Sem.run_bind, Sem.run_pure, Result.andThen_ok, upd_new, hdr, List.length_replicate]
    ·split at h
     ·rename_i f hf
      by_cases hc : (Nat.beq k.size f.sz && Nat.ble 1 f.sz && f.tabOk && zeroF f k.zero.cellsOf) = true
      ·rw [hc, ifb_true] at h
       simp only [Bool.and_eq_true] at hc
       obtain ⟨⟨⟨q1, q2⟩, q3⟩, q4⟩ := hc
       have q1 := Nat.eq_of_beq_eq_true q1
       have q2 := Nat.le_of_ble_eq_true q2
       obtain ⟨hb, h'⟩ := O.chk_ne h hne
       clear h
       simp only [decide_eq_true_eq] at hb
       obtain ⟨b0, bc, b1⟩ := hb
       subst bc
       have tk := tyOk hT hk
       obtain ⟨i, hi, hs, hby, y, hyz, hz⟩ := tk.info
       obtain ⟨d, hd, hdk, -⟩ := (tyOk hT ht).desc
       cases d <;> simp [descChk] at hdk
       subst hdk
       have hsz : i.size = f.sz := by rw [hs, q1]
       have dx := ofOpd_den hE hx
       have dy := ofOpd_den hE hy
       have hr := run_make (P := P) w t _ i y hd hi hyz k1 k2 n' n' b0 (Int.le_refl _) (by
        have : i.bytes * n'.toNat ≤ 65536 * 1073741824 := Nat.mul_le_mul hby (by omega)
        have h2 : ((i.bytes * n'.toNat : Nat) : Int) ≤ 281474976710656 := by omega
        rw [Int.natCast_mul] at h2
        rwa [Int.toNat_of_nonneg b0] at h2) (by omega)
       obtain ⟨ν', g1, g2, g3⟩ := newZero hR e f q2 q3 n'.toNat (by simp only [maxLen]; omega) (cs := k.zero.cellsOf) (by rw [tk.zlen, q1]) q4 (madeCells y.cells (n'.toNat * i.size)) (by
        rw [toList_made, hsz, ← hz ν, cellsOf_den]
        exact (flatten_replicate _ _ (by rw [denL_length, tk.zlen, q1]) q2).symm)
       refine wp_value ?_ (hn ν' _ _ _ g1 ⟨by show st.nx ≤ Nat.succ (Nat.succ st.nx); omega, g2, id, by simp, fun _ b hb => heap_alloc_lt w _ b hb⟩ (by simp [svLt, St.add]) h')
       rw [← g3]
       simp only [execOp, ho, dx.1, dy.1, den, hr, Sem.run_bind, Sem.run_pure, Result.andThen_ok]
      ·rw [Bool.not_eq_true] at hc; rw [hc] at h; exact absurd h.symm hne
     ·exact absurd h.symm hne
   ·exact absurd h.symm hne
  ·exact absurd h.symm hne
 case h_5 t nn parts ho =>   -- buildSlice
  split at h
  ·rename_i e ps ht hps
   split at h
   ·rename_i k hk
    split at h
    ·rename_i ls hls
     by_cases hc : (Nat.ble nn 1000 && Nat.ble ls.length 1000) = true
     ·rw [hc, ifb_true] at h
      simp only [Bool.and_eq_true] at hc
      have c1 := Nat.le_of_ble_eq_true hc.1
      have c2 := Nat.le_of_ble_eq_true hc.2
      split at h
      ·rename_i xs hxs
       have tk := tyOk hT hk
       obtain ⟨i, hi, hs, hby, y, hyz, hz⟩ := tk.info
       obtain ⟨d, hd, hdk, -⟩ := (tyOk hT ht).desc
       cases d <;> simp [descChk] at hdk
       subst hdk
       have hsz : i.size = ls.length := by rw [hs, lfs_size tk hls]
       have dp := ofParts_den hE hps
       have hne0 := lfs_ne hls
       have hfl : (madeCells y.cells (nn * ls.length)) = (flat ls (List.replicate nn (dfltL ls))).toArray := by
        apply Array.ext'
        rw [toList_made, flat_replicate ls hne0, zero_cells hz hls]
        simp [cellsV_length]
       obtain ⟨hf, hlen⟩ := fillR ν ls hne0 nn ps _ xs (by simp) hxs
       rw [← hfl, ← dp.1] at hf
       have hnew := hR.newRow e ls hne0 xs (flat ls xs).toArray (0, 0) nn (by omega) (by simp only [maxLen]; omega) (by simp [flat_length, hlen]) (thawed_zero _) (by
        simp only
        exact List.take_of_length_le (by rw [flat_length]; exact Nat.le_refl _))
       refine wp_value ?_ (hn _ _ _ _ hnew (Step.add _ _ _ _ _ _) (by simp [svLt, St.add]) h)
       have hbig : ¬ (nn * ls.length > 2 ^ 24) := by
        have : nn * ls.length ≤ 1000 * 1000 := Nat.mul_le_mul c1 c2
        omega
       have hmade : ∀ z0 : Array Value, (z0 = y.cells ∨ nn * ls.length = 0) → ((Array.range (nn * ls.length)).map fun x => z0[x % z0.size]!) = madeCells y.cells (nn * ls.length) := by
        rintro z0 (rfl | e0)
        ·rfl
        ·rw [e0]; simp [madeCells]
       simp only [execOp, ho, Instr.buildSlice, Sem.run_bind, run_underlying' hd, Result.andThen_ok, run_sizeOf' hi, hsz, hbig, if_false]
       by_cases e0 : nn * ls.length = 0
       ·rw [if_pos e0]
        simp only [Sem.run_bind, Sem.run_pure, Result.andThen_ok, hmade #[] (.inr e0), Array.toList_map, hf, newRow, run_newObj, den, upd_new, hdr, hlen]
        rfl
       ·rw [if_neg e0]
        simp only [Sem.run_bind, run_zeroValue' hi hyz, Sem.run_pure, Result.andThen_ok, hmade y.cells (.inl rfl), Array.toList_map, hf, newRow, run_newObj, den, upd_new, hdr, hlen]
        rfl
      ·exact absurd h.symm hne
     ·rw [Bool.not_eq_true] at hc; rw [hc] at h; exact absurd h.symm hne
    ·split at h
     ·rename_i f hf
      by_cases hc : (Nat.beq k.size f.sz && Nat.ble 1 f.sz && f.lt 0) = true
      ·rw [hc, ifb_true] at h
       simp only [Bool.and_eq_true] at hc
       have q1 := Nat.eq_of_beq_eq_true hc.1.1
       have q2 := Nat.le_of_ble_eq_true hc.1.2
       have tk := tyOk hT hk
       obtain ⟨i, hi, hs, hby, y, hyz, hz⟩ := tk.info
       obtain ⟨d, hd, hdk, -⟩ := (tyOk hT ht).desc
       cases d <;> simp [descChk] at hdk
       subst hdk
       have hps' : parts.toList = [] := by
        cases hp : parts.toList with
        | nil => rfl
        | cons x xs =>
         rw [hp] at hps
         obtain ⟨i', x⟩ := x
         simp only [ofParts] at hps
         split at hps
         ·split at hps <;> cases hps
         ·cases hps
       obtain ⟨ν', g1, g2, g3⟩ := newNone hR e f q2 hc.2
       refine wp_value ?_ (hn ν' _ _ _ g1 ⟨by show st.nx ≤ Nat.succ (Nat.succ st.nx); omega, g2, id, by simp, fun _ b hb => heap_alloc_lt w _ b hb⟩ (by simp [svLt, St.add]) h)
       rw [← g3]
       simp only [execOp, ho, Instr.buildSlice, Sem.run_bind, run_underlying' hd, Result.andThen_ok, run_sizeOf' hi, Nat.zero_mul]
       have e0 : (Array.map (fun _ : Nat => (default : Value)) (Array.range 0)) = #[] := by apply Array.ext'; simp
       simp [hps', Instr.fill, newRow, run_newObj]
       rw [e0]
      ·rw [Bool.not_eq_true] at hc; rw [hc] at h; exact absurd h.symm hne
     ·rename_i v _ hf
      by_cases hc : (Nat.beq v.cellsOf.length k.size && Nat.ble k.size 1000 && v.cellsOf.all isLeaf) = true
      ·rw [hc, ifb_true] at h
       simp only [Bool.and_eq_true] at hc
       have q1 := Nat.eq_of_beq_eq_true hc.1.1
       have q2 := Nat.le_of_ble_eq_true hc.1.2
       have tk := tyOk hT hk
       obtain ⟨i, hi, hs, hby, y, hyz, hz⟩ := tk.info
       obtain ⟨d, hd, hdk, -⟩ := (tyOk hT ht).desc
       cases d <;> simp [descChk] at hdk
       subst hdk
       have dp := ofParts_den hE hps
       have dv : svLt st.nx v = true := dp.2 (0, v) (by simp)
       have hsz : i.size = k.size := hs
       refine wp_value ?_ (hn _ _ _ _ (hR.add e v.cellsOf (cellsOf_lt dv)) (Step.add _ _ _ _ _ _) (by simp [svLt, St.add]) h)
       have hbig : ¬ (1 * k.size > 2 ^ 24) := by omega
       have hdp := dp.1
       simp only [List.map_cons, List.map_nil] at hdp
       have hyl : y.cells.size = k.size := by rw [← hz ν, cellsOf_den]; simp [denL_length, tk.zlen]
       simp only [execOp, ho, Instr.buildSlice, Sem.run_bind, run_underlying' hd, Result.andThen_ok, run_sizeOf' hi, hsz, hbig, if_false]
       have hvc : (den ν v).cells.size = k.size := by rw [cellsOf_den]; simp [denL_length, q1]
       have fin : ∀ z0 : Array Value, z0.size = k.size → Instr.fill (fun i => some (i * k.size, k.size)) z0 (parts.toList.map fun p => (p.1, a.eval p.2)) = some (denL ν v.cellsOf).toArray := by
        intro z0 hz0
        rw [hdp, fillOne hvc hz0, cellsOf_den]
       by_cases e0 : 1 * k.size = 0
       ·rw [if_pos e0]
        simp only [Sem.run_bind, Sem.run_pure, Result.andThen_ok, Array.toList_map]
        rw [fin _ (by simp)]
        simp only [newRow, run_newObj, Sem.run_bind, Sem.run_pure, Result.andThen_ok, den, upd_new, blk]
        rfl
       ·rw [if_neg e0]
        simp only [Sem.run_bind, run_zeroValue' hi hyz, Sem.run_pure, Result.andThen_ok, Array.toList_map]
        rw [fin _ (by simp)]
        simp only [newRow, run_newObj, Sem.run_bind, Sem.run_pure, Result.andThen_ok, den, upd_new, blk]
        rfl
      ·rw [Bool.not_eq_true] at hc; rw [hc] at h; exact absurd h.symm hne
     ·rename_i nn ps _ _ _ _ _
      by_cases hc : (Nat.ble nn 1000 && Nat.beq k.size 1 && isLeaf k.zero) = true
      ·rw [hc, ifb_true] at h
       simp only [Bool.and_eq_true] at hc
       have c1 := Nat.le_of_ble_eq_true hc.1.1
       have c2 := Nat.eq_of_beq_eq_true hc.1.2
       split at h
       ·rename_i vs hvs
        have tk := tyOk hT hk
        obtain ⟨i, hi, hs, hby, y, hyz, hz⟩ := tk.info
        obtain ⟨d, hd, hdk, -⟩ := (tyOk hT ht).desc
        cases d <;> simp [descChk] at hdk
        subst hdk
        have hsz : i.size = 1 := by rw [hs, c2]
        have dp := ofParts_den hE hps
        have hzl : k.zero.cellsOf = [k.zero] := by
         have := hc.2
         cases hk0 : k.zero <;> rw [hk0] at this <;> simp [isLeaf] at this <;> rfl
        have hyc : y.cells = #[y] := by rw [← hz ν, cellsOf_den, hzl]; simp [denL]
        have hz0 : svLt st.nx k.zero = true := by
         have h3 := hc.2
         cases k <;> first | rfl | (simp [TK.zero, isLeaf] at h3)
        obtain ⟨hf, hlen⟩ := fillC ν nn ps _ vs (by simp) hvs
        rw [← dp.1] at hf
        have hbl : belowL st.nx vs = true := partsC_lt hvs dp.2 (by rw [belowL_iff]; intro u hu; rw [(List.mem_replicate.1 hu).2]; exact hz0)
        have hmd : ∀ z0 : Array Value, (z0 = #[y] ∨ nn * 1 = 0) → ((Array.range (nn * 1)).map fun x => z0[x % z0.size]!) = (denL ν (List.replicate nn k.zero)).toArray := by
         rintro z0 (rfl | e0)
         ·apply Array.ext'
          rw [denL_eq, List.map_replicate, hz ν]
          simp [Array.toList_map, Nat.mod_one, List.map_const']
         ·obtain rfl : nn = 0 := by omega
          simp [denL]
        have hbig : ¬ (nn * 1 > 2 ^ 24) := by omega
        refine wp_value ?_ (hn _ _ _ _ (hR.add e vs hbl) (Step.add _ _ _ _ _ _) (by simp [svLt, St.add]) h)
        simp only [execOp, ho, Instr.buildSlice, Sem.run_bind, run_underlying' hd, Result.andThen_ok, run_sizeOf' hi, hsz, hbig, if_false]
        by_cases e0 : nn * 1 = 0
        ·rw [if_pos e0]
         simp only [Sem.run_bind, Sem.run_pure, Result.andThen_ok, hmd #[] (.inr e0), Array.toList_map, hf, newRow, run_newObj, den, upd_new, blk]
         rfl
        ·rw [if_neg e0]
         simp only [Sem.run_bind, run_zeroValue' hi hyz, Sem.run_pure, Result.andThen_ok, hyc, hmd #[y] (.inl rfl), Array.toList_map, hf, newRow, run_newObj, den, upd_new, blk]
         rfl
       ·exact absurd h.symm hne
      ·rw [Bool.not_eq_true] at hc; rw [hc] at h; exact absurd h.symm hne
   ·exact absurd h.symm hne
  ·exact absurd h.symm hne
 case h_6 s d x ho =>   -- bytes of a string
  split at h
  ·rename_i e sv hs hd hx
   split at h
   ·rename_i he
    obtain ⟨hb, h⟩ := O.chk_ne h hne
    simp only [decide_eq_true_eq] at hb
    have dx := ofOpd_den hE hx
    obtain ⟨ds, hds, hks, -⟩ := (tyOk hT hs).desc
    obtain ⟨dd, hdd, hkd, -⟩ := (tyOk hT hd).desc
    obtain ⟨de, hde, hke, -⟩ := (tyOk hT he).desc
    cases ds <;> simp [descChk] at hks
    cases dd <;> simp [descChk] at hkd
    cases de <;> simp [descChk] at hke
    subst hkd; subst hke
    have hr := Lib.run_convert_string_bytes (P := P) w s d _ sv hds hdd hde
    have hlen : (bytesOf sv).length = sv.size := by simp [bytesOf]
    have hge := grownCap_ge w sv.size 0 e
    have hsz : (Lib.bytesCells w e sv).size = grownCap w sv.size 0 e := by
     simp [Lib.bytesCells]; omega
    have hrow : RowSat (Lib.bytesWorld w e sv) (.slice (some ⟨w.heap.size, 0, none⟩) sv.size (grownCap w sv.size 0 e)) true e [.int .u8] (bytesOf sv) := by
     refine .inr ⟨⟨w.heap.size, 0, none⟩, grownCap w sv.size 0 e, by rw [show List.length (α := LT [.int .u8]) (bytesOf sv) = sv.size from hlen], by rw [show List.length (α := LT [.int .u8]) (bytesOf sv) = sv.size from hlen]; exact hge, (fun h => by cases h), fun _ => ⟨rfl, grownCap_le_maxLen w _ 0 e (by simp only [maxLen]; omega), _, _, Lib.bytesWorld_at_new w e sv, by simp [hsz], thawed_past _ _, ?_⟩⟩
     rw [show List.length (α := LT [.int .u8]) (bytesOf sv) = sv.size from hlen, flat_u8]
     simp [Lib.bytesCells, bytesOf, List.take_append]
    have hnew := hR.grown (w' := Lib.bytesWorld w e sv) ⟨rfl, rfl, rfl, by rw [Lib.bytesWorld_size]; omega⟩ (by simp) hrow st.H st.dirty [] (fun _ _ h => h) (fun _ _ _ _ _ h => by cases h) (fun _ h => by cases h) (fun b hb _ => Lib.bytesWorld_at_old w e sv b hb) (fun b hb => .inr (by simpa [rowMine] using hb))
    refine wp_value ?_ (hn _ _ (.osl st.nx) _ hnew ⟨Nat.le_succ _, fun j hj => upd_old hj, id, by rw [Lib.bytesWorld_size]; omega, fun _ b hb => Lib.bytesWorld_at_old w e sv b hb⟩ (by simp [svLt]) h)
    simp only [execOp, ho, dx.1, den, hr, Sem.run_bind, Sem.run_pure, Result.andThen_ok, upd_new, hdr]
   ·exact absurd h.symm hne
  ·exact absurd h.symm hne
 case h_7 c ho =>   -- call
  split at h
  ·rename_i args hargs
   have da := ofOpds_den hE hargs
   have hrunB : ∀ b, c.callee = .builtin b → ∀ v w', (builtin b c.argTypes o.type (c.args.map fun | .const _ => true | _ => false) (denL ν args).toArray).run P w = .ok (.value v) w' → (execOp a.eval o).run P w = .ok (.value v) w' := by
    intro b hb v w' hr
    simp only [execOp, ho, resolve, hb, Sem.run_bind, Sem.run_pure, Result.andThen_ok, invoke]
    have e : (Array.map a.eval c.args) = (denL ν args).toArray := by
     rw [← da.1]; apply Array.ext'; simp
    rw [e]
    exact hr
   split at h
   ·rename_i f hf
    split at h
    ·rename_i f' caps hv
     have df := ofOpd_den hE hv
     have hcne : cal f' (args ++ caps) (setArgs sl 0 c.args.toList) st K Kp ≠ .no := by rw [h]; exact hne
     obtain ⟨henter, hcall⟩ := hC f' (args ++ caps) _ st K Kp hcne
     have hlt : belowL st.nx (args ++ caps) = true := by
      have h1 : belowL st.nx caps = true := by have := df.2; simpa only [svLt] using this
      rw [belowL_iff]
      intro v hv
      rcases List.mem_append.1 hv with hv | hv
      ·exact belowL_iff.1 da.2 v hv
      ·exact belowL_iff.1 h1 v hv
     have hC' := hcall S w0 ν w hR hlt
     unfold Oper.wp
     have hrun : (execOp a.eval o).run P w = .ok (.enter f' (denL ν (args ++ caps)).toArray) w := by
      simp only [execOp, ho, resolve, hf, df.1, den, Deferred.ofValue, Sem.run_bind, Sem.run_pure, Result.andThen_ok, invoke, henter]
      congr 2
      apply Array.ext'
      simp [da.1, denL_eq]
     rw [hrun, Oper.upon_enter]
     refine hC'.mono ?_
     intro e w' he
     cases e with
     | returned v =>
      obtain ⟨ν', st', r, h1, h2, rfl, h4, h5⟩ := he
      exact hn ν' st' r w' h1 h2 h4 (h5.trans h)
     | panicked ch =>
      obtain ⟨ν', st', e, h1, h2, rfl, h5⟩ := he
      exact hp ν' st' e w' h1 h2 (h5.trans h)
     | outgrown => exact he.elim
    ·exact absurd h.symm hne
   ·-- append
    rename_i hf
    split at h
    ·rename_i t t' v u hat
     have hat' : c.argTypes = #[t, t'] := by cases hc : c.argTypes; rw [hc] at hat; simp at hat; rw [hat]
     by_cases htt : Nat.beq t t' = true
     ·rw [htt, ifb_true] at h
      obtain rfl := Nat.eq_of_beq_eq_true htt
      simp only [belowL, Bool.and_eq_true] at da
      split at h
      ·rename_i e ht
       split at h
       ·rename_i k hk
        split at h
        ·rename_i ls hls
         have tk := tyOk hT hk
         obtain ⟨i, hi, hs, hby, y, hyz, hz⟩ := tk.info
         obtain ⟨d, hd, hdk, -⟩ := (tyOk hT ht).desc
         cases d <;> simp [descChk] at hdk
         subst hdk
         have hsz : i.size = ls.length := by rw [hs, lfs_size tk hls]
         have hzs : y.cells.size = ls.length := by rw [zero_cells hz hls]; simp [cellsV_length]
         have hne0 := lfs_ne hls
         obtain ⟨j', o', ls', t', ys', hk', hls', hj', hwhich, hrd⟩ := evList_reads hR h hne
         have hrd := hrd w (fun _ _ _ => rfl)
         split at hk'
         ·rename_i ys hys
          obtain ⟨ecast, hys⟩ := castL_of hys
          subst ecast
          simp only at hys
          subst hys
          have happ : ∀ v' w', (Builtin.append_ #[t, t] o.type #[den ν v, den ν u]).run P w = .ok v' w' → (execOp a.eval o).run P w = .ok (.value v') w' := by
           intro v' w' hr
           refine hrunB .append hf v' w' ?_
           simp only [builtin, hat', denL, Sem.run_bind, hr, Result.andThen_ok, Sem.run_pure]
          split at hk'
          ·-- nil
           obtain ⟨hb, hk'⟩ := O.chk_ne hk' hne
           simp only [decide_eq_true_eq] at hb
           obtain ⟨v', w', hr, hext, hown, hsame, hnew⟩ := run_append_any w hd hi hyz hsz hzs hby o.type (xs := []) (v := .slice none 0 0) ⟨by simp [flat], .inl ⟨rfl, rfl⟩⟩ hrd (by simpa using hb)
           have hsame' : ∀ b, b < w.heap.size → w'.heap[b]? = w.heap[b]? := fun b hb => hsame b hb (by simp [rowMine])
           have hnew' := hR.grown hext hne0 hown.sat st.H st.dirty [] (fun _ _ h => h) (fun _ _ _ _ _ h => by cases h) (fun _ h => by cases h) (fun b hb _ => hsame' b hb) (fun b hb => .inr ((hnew b hb).elim (fun h => by simp [rowMine] at h) id))
           refine wp_value (happ v' w' (by simpa [den] using hr)) ?_
           have hv' : v' = den (upd ν st.nx v') (.osl st.nx) := by
            simp only [den, upd_new]
            rcases hown.2 with ⟨rfl, _⟩ | ⟨_, _, _, _, _, rfl, _⟩ <;> rfl
           have := hn (upd ν st.nx v') _ (.osl st.nx) w' hnew' ⟨Nat.le_succ _, fun j hj => upd_old hj, id, hext.size, fun _ b hb => hsame' b hb⟩ (by simp [svLt]) hk'
           rwa [← hv'] at this
          ·rename_i j
           split at hk'
           ·rename_i e' ls'' xs0 hj
            split at hk'
            ·rename_i xs hxs
             obtain ⟨ecast, hxs⟩ := castL_of hxs
             subst ecast
             simp only at hxs
             subst hxs
             by_cases hc : (Nat.beq e e' && notOn u j) = true
             ·rw [hc, ifb_true] at hk'
              simp only [Bool.and_eq_true] at hc
              obtain rfl := Nat.eq_of_beq_eq_true hc.1
              obtain ⟨hb, hk'⟩ := O.chk_ne hk' hne
              simp only [decide_eq_true_eq] at hb
              have hown0 : OwnV w (ν j) e _ xs := ⟨flat_length _ _, (hR.ownRow hj).imp (fun h => ⟨h.1, by rw [h.2]; rfl⟩) id⟩
              obtain ⟨v', w', hr, hext, hown, hsame, hnew⟩ := run_append_any w hd hi hyz hsz hzs hby o.type hown0 hrd hb
              have hdenj : den ν (.osl j) = ν j := by
               simp only [den]
               rcases hown0.2 with ⟨e, _⟩ | ⟨_, _, _, _, _, e, _⟩ <;> rw [e] <;> rfl
              have hnew' := hR.grown hext hne0 hown.sat (del j st.H) true (rowMine true (ν j)) (fun i q hq => (lkp_del_some hq).2)
               (fun i q b hq hb1 hb2 => hb1.elim (fun hb1 => (lkp_del_some hq).1 (hR.inj j i _ q b hj (lkp_del_some hq).2 hb2 hb1)) (fun hb1 => hR.apart j i _ q b hj (lkp_del_some hq).2 hb2 hb1))
               (fun b hb => ⟨hR.mine j _ b hj hb, hoSat_lt (hR.sat j _ hj) b (.inl hb)⟩) hsame hnew
              refine wp_value (happ v' w' (by rw [hdenj]; exact hr)) ?_
              have hv' : v' = den (upd ν st.nx v') (.osl st.nx) := by
               simp only [den, upd_new]
               rcases hown.2 with ⟨rfl, _⟩ | ⟨_, _, _, _, _, rfl, _⟩ <;> rfl
              have := hn (upd ν st.nx v') _ (.osl st.nx) w' hnew' (Step.dirty (Nat.le_succ _) (fun j hj => upd_old hj) hext.size rfl) (by simp [svLt]) hk'
              rwa [← hv'] at this
             ·rw [Bool.not_eq_true] at hc; rw [hc] at hk'; exact absurd hk'.symm hne
            ·exact absurd hk'.symm hne
           ·exact absurd hk'.symm hne
          ·exact absurd hk'.symm hne
         ·exact absurd hk'.symm hne
        ·unfold evAppT at h
         split at h
         ·rename_i f hfe
          by_cases hc : (Nat.beq k.size f.sz && Nat.ble 1 f.sz) = true
          ·rw [hc, ifb_true] at h
           simp only [Bool.and_eq_true] at hc
           have q1 := Nat.eq_of_beq_eq_true hc.1
           have q2 := Nat.le_of_ble_eq_true hc.2
           have tk := tyOk hT hk
           obtain ⟨d, hd, hdk, -⟩ := (tyOk hT ht).desc
           cases d <;> simp [descChk] at hdk
           subst hdk
           have happ : ∀ v' w', (Builtin.append_ #[t, t] o.type #[den ν v, den ν u]).run P w = .ok v' w' → (execOp a.eval o).run P w = .ok (.value v') w' := by
            intro v' w' hr
            refine hrunB .append hf v' w' ?_
            simp only [builtin, hat', denL, Sem.run_bind, hr, Result.andThen_ok, Sem.run_pure]
           split at h
           ·by_cases hl0 : f.lt 0 = true
            ·rw [hl0, ifb_true] at h
             obtain ⟨v', w', ν', st', r, a1, a2, a3, a4, a5, a6, a7, a8, a9⟩ := appT_sound (P := P) hd tk q1 o.type hR (Base.nil e f q2 hl0) h hne
             refine wp_value (happ v' w' (by simpa [den] using a1)) ?_
             have := hn ν' st' r w' a3 (Step.dirty a4 a6 a2 a5) a8 a9
             rwa [← a7] at this
            ·rw [Bool.not_eq_true] at hl0; rw [hl0] at h; exact absurd h.symm hne
           ·rename_i j
            obtain ⟨ν1, st1, hre, h⟩ := foldJ_sound hR h hne
            split at h
            ·rename_i e' γ p f' xs' hj
             split at h
             ·rename_i xs hxs
              obtain ⟨ecast, hxs⟩ := castT_of hxs
              subst ecast
              simp only at hxs
              subst hxs
              by_cases hc2 : (Nat.beq e e' && notOn u j) = true
              ·rw [hc2, ifb_true] at h
               simp only [Bool.and_eq_true] at hc2
               obtain rfl := Nat.eq_of_beq_eq_true hc2.1
               obtain ⟨v', w', ν', st', r, a1, a2, a3, a4, a5, a6, a7, a8, a9⟩ := appT_sound (P := P) hd tk q1 o.type (hre.rel.part (fun i q hq => (lkp_del_some hq).2) st1.dirty) (hre.rel.base hj st1.dirty) h hne
               have hdj : den ν (.osl j) = ν1 j := by
                have hjl : j < st.nx := by have := da.2.1; simpa [svLt] using this
                simp only [den]
                rw [hre.agree j hjl]
                obtain ⟨_, _, v0, us, F0, F1, ev, _, _, hcol, _⟩ := hre.rel.sat j _ hj
                cases ev
                exact hcol.hdr
               have hdu : den ν u = den ν1 u := den_congr hre.agree u da.2.2.1
               refine wp_value (happ v' w' (by rw [hdj, hdu]; exact a1)) ?_
               have := hn ν' st' r w' a3 (hre.step.trans (Step.dirty a4 a6 a2 a5)) a8 a9
               rwa [← a7] at this
              ·rw [Bool.not_eq_true] at hc2; rw [hc2] at h; exact absurd h.symm hne
             ·exact absurd h.symm hne
            ·exact absurd h.symm hne
           ·exact absurd h.symm hne
          ·rw [Bool.not_eq_true] at hc; rw [hc] at h; exact absurd h.symm hne
         ·exact absurd h.symm hne
       ·exact absurd h.symm hne
      ·exact absurd h.symm hne
     ·rw [Bool.not_eq_true] at htt; rw [htt] at h; exact absurd h.symm hne
    ·exact absurd h.symm hne
   ·-- copy
    rename_i hf
    split at h
    ·rename_i t t' v u hat
     have hat' : c.argTypes = #[t, t'] := by cases hc : c.argTypes; rw [hc] at hat; simp at hat; rw [hat]
     simp only [belowL, Bool.and_eq_true] at da
     split at h
     ·rename_i e s ht hs
      split at h
      ·rename_i k hk hown
       by_cases hc : (Nat.beq k.size s.ls.length && Nat.beq e s.t) = true
       ·rw [hc, ifb_true] at h
        simp only [Bool.and_eq_true] at hc
        have hsz := Nat.eq_of_beq_eq_true hc.1
        obtain ⟨hS, hjl⟩ := slOf_ok (nx := st.nx) hR.facts hs
        obtain ⟨i, hi, his, -⟩ := (tyOk hT hk).info
        obtain ⟨d, hd, hdk, -⟩ := (tyOk hT ht).desc
        cases d <;> simp [descChk] at hdk
        subst hdk
        have fin : ∀ ys : List (LT s.ls), Src P w (den ν u) s.ls ys → s.ok = true → K (.int .i64 (min (ys.length : Int) s.n)) (st.put s.j (.row true s.t s.ls (putAt s.xs (sumI s.ch) (ys.take s.n.toNat)))) = res → o.wp P a w next Q := by
         intro ys hsrc hok hk'
         obtain ⟨w', hr, hsize, hR'⟩ := copy_run hR hS hok hown hd hi (by rw [his, hsz]) (sT := t') (ty := o.type) hsrc
         refine wp_value (v := .int .i64 (min (ys.length : Int) s.n)) (hrunB .copy hf _ w' ?_) (by have := hn ν _ (.int .i64 (min (ys.length : Int) s.n)) w' hR' (Step.dirty (Nat.le_refl _) (fun _ _ => rfl) hsize rfl) rfl hk'; exact this)
         simp only [builtin, hat', denL, Sem.run_bind, hr, Result.andThen_ok, Sem.run_pure]
        split at h
        ·rename_i b
         split at h
         ·rename_i ys hys
          obtain ⟨ecast, hys⟩ := castL_of hys
          obtain ⟨hok, h⟩ := O.chk_ne h hne
          have hlen : ys.length = b.size := by
           subst hys
           have : ∀ (l l' : List Lf) (q : l = l') (zs : List (LT l)), (q ▸ zs : List (LT l')).length = zs.length := by intro l l' q zs; subst q; rfl
           refine Eq.trans (this _ _ ecast (bytesOf b)) ?_
           show (bytesOf b).length = b.size
           simp [bytesOf]
          refine fin ys ?_ hok (by rw [hlen]; exact h)
          subst hys
          have : ∀ (l l' : List Lf) (q : l = l') (zs : List (LT l)), Src P w (.string b) l zs → Src P w (.string b) l' (q ▸ zs : List (LT l')) := by intro l l' q zs h; subst q; exact h
          exact this _ _ ecast _ (str_src b)
         ·exact absurd h.symm hne
        ·obtain ⟨j', o', ls', t'', ys', hk', hls', hj', hwhich, hrd⟩ := evList_reads hR h hne
         have hrd := hrd w (fun _ _ _ => rfl)
         split at hk'
         ·rename_i ys hys
          obtain ⟨ecast, hys⟩ := castL_of hys
          obtain ⟨hok, hk'⟩ := O.chk_ne hk' hne
          refine fin ys ?_ hok hk'
          subst hys
          have : ∀ (l l' : List Lf) (q : l = l') (zs : List (LT l)), Reads w (den ν u) l zs → Src P w (den ν u) l' (q ▸ zs : List (LT l')) := by intro l l' q zs h; subst q; exact h.src
          exact this _ _ ecast _ hrd
         ·exact absurd hk'.symm hne
       ·rw [Bool.not_eq_true] at hc; rw [hc] at h; exact absurd h.symm hne
      ·exact absurd h.symm hne
     ·exact absurd h.symm hne
    ·exact absurd h.symm hne
   ·-- delete
    rename_i hf
    split at h
    ·rename_i t t' mv kv hat
     have hat' : c.argTypes = #[t, t'] := by cases hc : c.argTypes; rw [hc] at hat; simp at hat; rw [hat]
     split at h
     ·rename_i m hm
      split at h
      ·rename_i key hkey
       obtain ⟨_, _, hok⟩ := mpOf_spec hm
       obtain ⟨b, hb, hd, hlt, hsat⟩ := hR.mapAt hm
       obtain ⟨ob, hr, hs⟩ := delete_run (P := P) hT hok hsat key t' o.type
       have hR' := hR.mapTurn hm hb ob _ hs
       refine wp_value (v := .tuple #[]) (hrunB .delete hf _ _ ?_) (by have := hn ν _ (.tup []) _ hR' (Step.dirty (Nat.le_refl _) (fun _ _ => rfl) (by simp) rfl) (by simp [svLt, belowL]) h; simpa [den, denL] using this)
       simp only [builtin, hat', denL, hd, decO_den hkey ν, Sem.run_bind, hr, Result.andThen_ok, Sem.run_pure]
      ·exact absurd h.symm hne
     ·exact absurd h.symm hne
    ·exact absurd h.symm hne
   ·exact absurd h.symm hne
  ·exact absurd h.symm hne
 case h_8 x ho =>   -- panic
  split at h
  ·rename_i v hx
   split at h
   ·rename_i p hpv
    have dx := ofOpd_den hE hx
    obtain rfl := toPV_of hpv
    unfold Oper.wp
    have hrun : (execOp a.eval o).run P w = .halt (.panic (den ν (ofPV p))) w := by
     simp [execOp, ho, dx.1, ofPV, den, Instr.panic]
    rw [hrun, den_ofPV]
    exact hp ν st _ w hR (Step.refl _ _ _) h
   ·exact absurd h.symm hne
  ·exact absurd h.symm hne
 case h_9 t ho =>   -- makeMap
  split at h
  ·rename_i k e ht
   split at h
   ·rename_i kk ek hk he
    split at h
    ·rename_i kl vl hkl hvl
     by_cases hkt : keyTk kk = true
     ·rw [hkt, ifb_true] at h
      have hfr := hR.fresh (.map #[] 0) (.map (some w.heap.size)) (.map t kk.isAgg ek.isAgg kl vl []) rfl ⟨w.heap.size, upd_new, #[], 0, by show (w.heap.push _)[_]? = _; simp, rfl, by simp, by simp, by simp⟩ (fun b hb => by simpa [mineL, upd_new, blk] using hb) (by simp [mineL]) rfl
      refine wp_value (v := den (upd ν st.nx (.map (some w.heap.size))) (.mp st.nx)) ?_ (hn _ _ _ _ hfr (Step.add _ _ _ _ _ _) (by simp [svLt, St.add]) h)
      simp only [execOp, ho, Instr.makeMap, Sem.run_bind, Result.andThen_ok, run_newObj, Sem.run_pure, Option.map_none]
      simp [den, upd, mpV]
     ·rw [Bool.not_eq_true] at hkt; rw [hkt] at h; exact absurd h.symm hne
    ·exact absurd h.symm hne
   ·exact absurd h.symm hne
  ·exact absurd h.symm hne
 case h_10 t mo ko vo ho =>   -- mapUpdate
  split at h
  ·rename_i mv kv vv hmo hko hvo
   split at h
   ·rename_i m hm
    split at h
    ·rename_i key val hkey hval
     have dm := ofOpd_den hE hmo
     have dk := ofOpd_den hE hko
     have dv := ofOpd_den hE hvo
     obtain ⟨_, _, hok⟩ := mpOf_spec hm
     obtain ⟨b, hb, hd, hlt, hsat⟩ := hR.mapAt hm
     obtain ⟨ob, hr, hs⟩ := update_run (P := P) hT hok hsat key val
     have hR' := hR.mapTurn hm hb ob _ hs
     refine wp_unit (w' := { w with heap := w.heap.setIfInBounds b ob }) ?_ (by have := hn ν _ (.tup []) _ hR' (Step.dirty (Nat.le_refl _) (fun _ _ => rfl) (by simp) rfl) (by simp [svLt, belowL]) h; rwa [hund] at this)
     simp only [execOp, ho, dm.1, dk.1, dv.1, hd, decO_den hkey ν, decO_den hval ν, Sem.run_bind, hr, Result.andThen_ok, Sem.run_pure]
    ·exact absurd h.symm hne
   ·exact absurd h.symm hne
  ·exact absurd h.symm hne
 case h_11 t x ho =>   -- load
  split at h
  ·rename_i k j off hk hx
   split at h
   ·rename_i T' vs hj
    split at h
    ·rename_i v hv
     have dx := ofOpd_den hE hx
     obtain ⟨b, hb, hc⟩ := hR.sat j _ hj
     have hlt : belowL st.nx vs = true := (hR.lt j _ hj).2
     refine wp_value (v := den ν v) ?_ (hn ν st v w hR (Step.refl _ _ _) (partOf_lt hlt hv) h)
     have := run_loadVar (P := P) (w := w) (tyOk hT hk) hc hv
     simp only [execOp, ho, Instr.loadAt, dx.1, den, hb, blk, Instr.sureAddr, Sem.run_bind, Sem.run_pure, Result.andThen_ok, this]
    ·exact absurd h.symm hne
   ·exact absurd h.symm hne
  ·rename_i k j sz i off hk hx
   obtain ⟨ν1, st1, hre, h1⟩ := foldJ_sound hR h hne
   clear h
   have dx := ofOpd_den hE hx
   have hjl : j < st.nx := by have := dx.2; simpa [svLt] using this
   split at h1
   ·rename_i own t' γ p f xs hj
    by_cases hc : Nat.beq sz f.sz = true
    ·rw [hc, ifb_true] at h1
     obtain rfl := Nat.eq_of_beq_eq_true hc
     split at h1
     ·rename_i hf
      obtain ⟨hi, h1⟩ := O.chk_ne h1 hne
      simp only [decide_eq_true_eq] at hi
      split at h1
      ·rename_i v hv
       obtain ⟨ν', g1, g2, g3, g4⟩ := peek_sound hre.rel hj hf hi
       have hstep : Step ν1 st1 w ν' (st1.adds (giveF γ f (gt (dfltF f) xs i) st1.nx).2) w := ⟨by rw [adds_nx]; omega, g2, fun e => by rw [adds_dirty]; exact e, Nat.le_refl _, fun _ _ _ => rfl⟩
       refine wp_value (v := den ν' v) ?_ (hn ν' _ _ w g1 (hre.step.trans hstep) (by rw [adds_nx]; exact partOf_lt g3 hv) h1)
       have := run_loadVarC (P := P) (w := w) (ν := ν') (b := blk (ν1 j)) (B := offs (ν1 j) + i.toNat * f.sz) (off := off) (tyOk hT hk) (vs := (giveF γ f (gt (dfltF f) xs i) st1.nx).1) g4 hv
       simp only [execOp, ho, Instr.loadAt, dx.1, den, hre.agree j hjl, Instr.sureAddr, Sem.run_bind, Sem.run_pure, Result.andThen_ok, this]
      ·exact absurd h1.symm hne
     ·split at h1
      ·obtain ⟨ν2, st2, hre2, h2, t1, γ1, p1, p1', f1, xs1, vs1, g1, g2, g3, g4⟩ := openJ_sound hre.rel h1 hne
       clear h1
       rw [hj] at g1
       cases g1
       rw [g4] at h2
       simp only at h2
       split at h2
       ·rename_i v hv
        have hlt := (hre2.rel.lt j _ g4).2
        simp only [hoLt, Bool.and_eq_true] at hlt
        refine wp_value (v := den ν2 v) ?_ (hn ν2 _ _ w hre2.rel (hre.step.trans hre2.step) (partOf_lt hlt.2.2 hv) h2)
        have := run_loadVarC (P := P) (w := w) (ν := ν2) (b := blk (ν2 j)) (B := offs (ν2 j) + i.toNat * f.sz) (off := off) (tyOk hT hk) (vs := vs1) (hre2.rel.opnCells g4) hv
        simp only [execOp, ho, Instr.loadAt, dx.1, den, (hre.trans hre2).agree j hjl, Instr.sureAddr, Sem.run_bind, Sem.run_pure, Result.andThen_ok, this]
       ·exact absurd h2.symm hne
      ·exact absurd h1.symm hne
    ·rw [Bool.not_eq_true] at hc; rw [hc] at h1; exact absurd h1.symm hne
   ·exact absurd h1.symm hne
  ·exact absurd h.symm hne
 case h_12 t x lo hi ho =>   -- part of a row of things
  split at h
  ·rename_i e j ht hx
   obtain ⟨ν1, st1, hre, h⟩ := foldJ_sound hR h hne
   have dx := ofOpd_den hE hx
   have hjl : j < st.nx := by have := dx.2; simpa [svLt] using this
   split at h
   ·rename_i own e' γ p f xs hj
    by_cases hc : (Nat.beq e e' && (own || f.tabOk) && isSzOf tab e f) = true
    ·rw [hc, ifb_true] at h
     simp only [Bool.and_eq_true] at hc
     obtain ⟨⟨c1, c2⟩, c3⟩ := hc
     obtain rfl := Nat.eq_of_beq_eq_true c1
     obtain ⟨k, hk, hks⟩ : ∃ k, lkp e tab = some k ∧ k.size = f.sz := by
      unfold isSzOf at c3
      split at c3
      ·rename_i k hk; exact ⟨k, hk, Nat.eq_of_beq_eq_true c3⟩
      ·cases c3
     obtain ⟨d, hd, hdk, -⟩ := (tyOk hT ht).desc
     cases d <;> simp [descChk] at hdk
     subst hdk
     obtain ⟨ti, hti, hts, -⟩ := (tyOk hT hk).info
     have hdj : den ν (.osl j) = ν1 j := by
      simp only [den]
      rw [hre.agree j hjl]
      obtain ⟨_, _, v0, us, F0, F1, ev, _, _, hcol, _⟩ := hre.rel.sat j _ hj
      cases ev
      exact hcol.hdr
     have fin : ∀ (xs' : List f.T) (lv hv : Option Value) (v' : Value) (ν' : Nat → Value), (Instr.sliceAt t (ν1 j) lv hv none).run P w = .ok v' w → (lo.map a.eval = lv) → (hi.map a.eval = hv) →
       RelW S w0 ν' ⟨Nat.succ (Nat.succ st1.nx), st1.dirty, (Nat.succ st1.nx, .tab own e (gOf γ f) st1.nx f xs') :: (st1.nx, .ghost) :: keepJ own j st1.H⟩ w → (∀ j, j < st1.nx → ν1 j = ν' j) → v' = den ν' (.osl (Nat.succ st1.nx)) →
       K (.osl (Nat.succ st1.nx)) ⟨Nat.succ (Nat.succ st1.nx), st1.dirty, (Nat.succ st1.nx, .tab own e (gOf γ f) st1.nx f xs') :: (st1.nx, .ghost) :: keepJ own j st1.H⟩ = res → o.wp P a w next Q := by
      intro xs' lv hv v' ν' hr hlv hhv g1 g2 g3 hk
      refine wp_value (v := v') (w' := w) ?_ ?_
      ·simp only [execOp, ho, dx.1, hdj, hlv, hhv, Option.map_none, Sem.run_bind, hr, Result.andThen_ok, Sem.run_pure]
      ·have := hn ν' _ (.osl (Nat.succ st1.nx)) w g1 (hre.step.trans ⟨by show st1.nx ≤ Nat.succ (Nat.succ st1.nx); omega, g2, id, Nat.le_refl _, fun _ _ _ => rfl⟩) (by simp only [svLt]; exact Nat.ble_eq_true_of_le (Nat.le_refl _)) hk
       rwa [← g3] at this
     split at h
     ·rename_i l
      split at h
      ·rename_i kk l' hl
       obtain ⟨hb, h⟩ := O.chk_ne h hne
       simp only [decide_eq_true_eq] at hb
       have dl := ofOpd_den hE hl
       obtain ⟨v', ν', h1, h2, h3, h4⟩ := cut_sound (P := P) (i := ti) hd hti hre.rel (A := xs.take l'.toNat) (xs' := xs.drop l'.toNat) (B := []) hj (by rw [hts, hks]) (by simp) c2 (some (.int kk l')) none (.inr ⟨kk, by rw [List.length_take, Nat.min_eq_left (by omega), Int.toNat_of_nonneg hb.1]⟩) (.inl ⟨rfl, rfl⟩)
       exact fin _ _ _ v' ν' h1 (by simp [dl.1, den]) rfl h2 h3 h4 h
      ·exact absurd h.symm hne
     ·rename_i l
      split at h
      ·rename_i kk l' hl
       obtain ⟨hb, h⟩ := O.chk_ne h hne
       simp only [decide_eq_true_eq] at hb
       have dl := ofOpd_den hE hl
       obtain ⟨v', ν', h1, h2, h3, h4⟩ := cut_sound (P := P) (i := ti) hd hti hre.rel (A := []) (xs' := xs.take l'.toNat) (B := xs.drop l'.toNat) hj (by rw [hts, hks]) (by simp) c2 none (some (.int kk l')) (.inl ⟨rfl, rfl⟩) (.inr ⟨kk, by rw [List.nil_append, List.length_take, Nat.min_eq_left (by omega), Int.toNat_of_nonneg hb.1]⟩)
       exact fin _ _ _ v' ν' h1 rfl (by simp [dl.1, den]) h2 h3 h4 h
      ·exact absurd h.symm hne
     ·exact absurd h.symm hne
    ·rw [Bool.not_eq_true] at hc; rw [hc] at h; exact absurd h.symm hne
   ·exact absurd h.symm hne
  ·exact absurd h.symm hne
 case h_13 => exact absurd h.symm hne
theorem evOp_sound {sl : List Nat} {P : Program} {tab : Tab} (hT : tabChk P tab = true) {T : Type} {cal : Cal T} (hC : CalOk P cal) {S : Bl} {w0 : World} {ν : Nat → Value} {n : Nat} {fr : Fr} {st : St} {K : SV → St → O T} {Kp : PV → St → O T}
  {a : Act} {w : World} (hR : RelW S w0 ν st w) (hE : EnvOk ν n st.nx fr a) (o : Oper) {res : O T} (h : evOp tab cal sl o.op fr.env st K Kp = res) (hne : res ≠ .no)
  {next : Act → World → Prop} {Q : Exit → Act → World → Prop}
  (hn : ∀ ν' st' v w', RelW S w0 ν' st' w' → Step ν st w ν' st' w' → svLt st'.nx v = true → K v st' = res → next (a.put o.dst (den ν' v)) w')
  (hp : ∀ ν' st' e w', RelW S w0 ν' st' w' → Step ν st w ν' st' w' → Kp e st' = res → Q (.panic (panOf e)) a w') :
  o.wp P a w next Q := by
 unfold evOp at h
 by_cases hop : openAt tab o.op fr.env st.H = true
 ·rw [hop, ifb_true] at h
  exact evA_sound hT hC hR hE o h hne hn hp
 rw [Bool.not_eq_true] at hop
 rw [hop, ifb_false] at h
 by_cases hq : isQ tab o.op = true
 ·rw [hq, ifb_true] at h
  obtain ⟨v, hk, hv, hrun⟩ := evQ_run (P := P) hT hR.facts hE o h hne
  exact wp_value (hrun w) (hn ν st v w hR (Step.refl _ _ _) hv hk)
 ·rw [Bool.not_eq_true] at hq
  rw [hq, ifb_false] at h
  by_cases hl : isLoad tab o.op = true
  ·rw [hl, ifb_true] at h
   obtain ⟨j, v, _, hk, hv, _, hrun⟩ := evLoad_run (P := P) hT (fun x v hx _ => (ofOpd_den hE hx).1) hR o hl h hne
   exact wp_value (hrun w fun _ _ _ => rfl) (hn ν st v w hR (Step.refl _ _ _) hv hk)
  ·rw [Bool.not_eq_true] at hl
   rw [hl, ifb_false] at h
   exact evA_sound hT hC hR hE o h hne hn hp
end Go.Aq
end
section
namespace Go.Aq
open Go.RowKit (Below)
set_option linter.unusedVariables false
structure Entry where
 ν : Nat → Value
 st : St
 w : World
structure Good (S : Bl) (w0 : World) (E : Entry) (n : Nat) (ν : Nat → Value) (fr : Fr) (st : St) (a : Act) (w : World) : Prop where
 rel : RelW S w0 ν st w
 env : EnvOk ν n st.nx fr a
 frb : fr.base = E.st.nx
 step : Step E.ν E.st E.w ν st w
theorem EnvOk.mono {ν ν' : Nat → Value} {n nx nx' : Nat} {fr : Fr} {a : Act} (h : EnvOk ν n nx fr a) (hx : nx ≤ nx') (ha : ∀ j, j < nx → ν j = ν' j) : EnvOk ν' n nx' fr a where
 size := h.size
 get t v hv := by
  have := h.get t v hv
  exact ⟨by rw [this.1, den_congr ha v this.2], svLt_mono hx v this.2⟩
 dfs := by rw [h.dfs, denL_congr ha fr.dfs h.dlt]
 dlt := belowL_mono hx _ h.dlt
theorem EnvOk.put {ν : Nat → Value} {n nx : Nat} {fr : Fr} {a : Act} (h : EnvOk ν n nx fr a) {d : Option Tmp} (hd : ∀ t, d = some t → t < n) {v : SV} (hv : svLt nx v = true) : EnvOk ν n nx (fr.put d v) (a.put d (den ν v)) := by
 cases d with
 | none => exact h
 | some d =>
  have hdn := hd d rfl
  refine ⟨by simp [Act.put, h.size], ?_, h.dfs, h.dlt⟩
  intro t u hu
  simp only [Fr.put, lkp_cons] at hu
  split at hu
  ·rename_i e; subst e; cases hu
   refine ⟨?_, hv⟩
   simp [Act.put, h.size, hdn]
  ·rename_i e
   have := h.get t u hu
   refine ⟨?_, this.2⟩
   simp [Act.put, e, this.1]
theorem Good.next {S : Bl} {w0 : World} {E : Entry} {ν ν' : Nat → Value} {n : Nat} {fr : Fr} {st st' : St} {a : Act} {w w' : World} (h : Good S w0 E n ν fr st a w)
  (hR : RelW S w0 ν' st' w') (hs : Step ν st w ν' st' w') : Good S w0 E n ν' fr st' a w' :=
 ⟨hR, h.env.mono hs.nx hs.agree, h.frb, h.step.trans hs⟩
theorem Good.put {S : Bl} {w0 : World} {E : Entry} {ν : Nat → Value} {n : Nat} {fr : Fr} {st : St} {a : Act} {w : World} (h : Good S w0 E n ν fr st a w)
  {d : Option Tmp} (hd : ∀ t, d = some t → t < n) {v : SV} (hv : svLt st.nx v = true) : Good S w0 E n ν (fr.put d v) st (a.put d (den ν v)) w := by
 refine ⟨h.rel, h.env.put hd hv, ?_, h.step⟩
 have := h.frb
 cases d <;> simpa [Fr.put] using this
def Post {T : Type} (S : Bl) (w0 : World) (E : Entry) (n : Nat) (K : Ex → Fr → St → O T) (res : O T) : Exit → Act → World → Prop
 | .normal, a, w => ∃ ν fr st, Good S w0 E n ν fr st a w ∧ K .normal fr st = res
 | .exit id, a, w => ∃ ν fr st, Good S w0 E n ν fr st a w ∧ K (.exit id) fr st = res
 | .ret, a, w => ∃ ν fr st, Good S w0 E n ν fr st a w ∧ K .ret fr st = res
 | .panic ch, a, w => ∃ ν fr st e, Good S w0 E n ν fr st a w ∧ ch = panOf e ∧ K (.panic e) fr st = res
 | .goto _, _, _ => False
 | .outgrown, _, _ => False
section
variable {P : Program} {tab : Tab} {T : Type} {cal : Cal T} {S : Bl} {w0 : World} {E : Entry} {n : Nat}
theorem wanted_none {o : Oper} {y : Nat → Option Bool} (h : o.guard = none) : Region.wanted o y = true := by simp [Region.wanted, h]
theorem wanted_some {o : Oper} {y : Nat → Option Bool} {j : Nat} {want b : Bool} (h : o.guard = some (j, want)) (hy : y j = some b) : Region.wanted o y = (b == want) := by
 simp [Region.wanted, h, hy]
theorem yielded_of {ops : Array Oper} {a : Act} {j d : Nat} {b : Bool} {ν : Nat → Value} (hd : dstOf ops.toList j = some d) (h : a.tmps[d]? = some (den ν (.bool b))) : yielded ops a.tmps j = some b := by
 unfold dstOf at hd
 rw [Array.getElem?_toList] at hd
 unfold yielded
 split at hd
 ·rename_i o ho
  simp [ho, hd, h, den]
 ·cases hd
theorem yielded_tup {ops : Array Oper} {a : Act} {j d : Nat} {ν : Nat → Value} (hd : dstOf ops.toList j = some d) (h : a.tmps[d]? = some (den ν (.tup []))) : yielded ops a.tmps j = none := by
 unfold dstOf at hd
 rw [Array.getElem?_toList] at hd
 unfold yielded
 split at hd
 ·rename_i o ho
  simp [ho, hd, h, den, denL]
 ·cases hd
theorem wanted_not {o : Oper} {y : Nat → Option Bool} {j : Nat} {want : Bool} (h : o.guard = some (j, want)) (hy : y j = none) : Region.wanted o y = false := by
 simp [Region.wanted, h, hy]
theorem deferOf_spec {ν : Nat → Value} {nx : Nat} {fr : Fr} {a : Act} (hE : EnvOk ν n nx fr a) {o : Oper} {v : SV} (h : deferOf fr.env o.op = some v) :
  ∃ f cs, v = .clo f cs ∧ belowL nx cs = true ∧ ∀ w, (execOp a.eval o).run P w = .ok (.defer ⟨.fn (.func f) (denL ν cs).toArray, #[]⟩) w := by
 unfold deferOf at h
 split at h
 ·rename_i c hop
  split at h
  ·rename_i f hc ha
   split at h
   ·rename_i f' cs hf
    cases h
    have hd := ofOpd_den hE hf
    refine ⟨f', cs, rfl, by simpa [svLt] using hd.2, fun w => ?_⟩
    have hargs : c.args = #[] := by cases hq : c.args; rw [hq] at ha; simp at ha; rw [ha]
    simp only [execOp, hop, resolve, hc, hargs, hd.1, den, Deferred.ofValue, Sem.run_bind, Sem.run_pure, Result.andThen_ok, Array.map_empty, Array.append_empty]
   ·cases h
  ·cases h
 ·cases h
theorem doOp_sound {sl : List Nat} (hT : tabChk P tab = true) (hC : CalOk P cal) {K : Fr → St → O T} {Kp : PV → Fr → St → O T} {res : O T} (hne : res ≠ .no) {ν : Nat → Value} {fr : Fr} {st : St} {a : Act} {w : World} (hg : Good S w0 E n ν fr st a w) (o : Oper) (hdst : ∀ t, o.dst = some t → t < n)
  (h : doOp tab cal sl o fr st K Kp = res) {next : Act → World → Prop} {Q : Exit → Act → World → Prop}
  (hn : ∀ ν' fr' st' a' w', Good S w0 E n ν' fr' st' a' w' → K fr' st' = res → next a' w')
  (hp : ∀ ν' st' e w', Good S w0 E n ν' fr st' a w' → Kp e fr st' = res → Q (.panic (panOf e)) a w') : o.wp P a w next Q := by
 unfold doOp at h
 by_cases hd : isDefer o.op = true
 ·rw [hd, ifb_true] at h
  split at h
  ·rename_i v hv
   obtain ⟨f, cs, rfl, hb, hrun⟩ := deferOf_spec (P := P) hg.env hv
   unfold Oper.wp
   rw [hrun w, Oper.upon_defer]
   have hg2 : Good S w0 E n ν ⟨fr.env, .clo f cs :: fr.dfs, fr.base, fr.sl⟩ st { a with defers := ⟨.fn (.func f) (denL ν cs).toArray, #[]⟩ :: a.defers } w := by
    refine ⟨hg.rel, ⟨hg.env.size, hg.env.get, ?_, ?_⟩, hg.frb, hg.step⟩
    ·simp only [denL, den, List.map_cons, hg.env.dfs]
    ·simp only [belowL, svLt, hb, hg.env.dlt, Bool.and_self]
   have := hg2.put (d := o.dst) hdst (v := .tup []) (by simp [svLt, belowL])
   exact hn ν _ st _ w (by simpa [den, denL, undef] using this) h
  ·exact absurd h.symm hne
 ·rw [Bool.not_eq_true] at hd
  rw [hd, ifb_false] at h
  refine evOp_sound hT hC hg.rel hg.env o h hne ?_ ?_
  ·intro ν' st' v w' hR hs hv hk
   exact hn ν' _ st' _ w' ((hg.next hR hs).put hdst hv) hk
  ·intro ν' st' e w' hR hs hk
   exact hp ν' st' e w' (hg.next hR hs) hk
theorem evOps_sound (hT : tabChk P tab = true) (hC : CalOk P cal) {ops : Array Oper} {K : Fr → St → O T} {Kp : PV → Fr → St → O T} {res : O T} (hne : res ≠ .no) :
  ∀ (rest : List Oper) (sl : List Nat) (i : Nat), ops.toList.drop i = rest → ∀ (ν : Nat → Value) (fr : Fr) (st : St) (a : Act) (w : World), Good S w0 E n ν fr st a w →
   evOps tab cal n ops.toList rest sl fr st K Kp = res →
   wpOps P ops (Post S w0 E n (fun e fr st => match e with | .normal => K fr st | .panic e => Kp e fr st | _ => .no) res) (List.range' i rest.length) a w := by
 intro rest
 induction rest with
 | nil =>
  intro sl i _ ν fr st a w hg h
  exact ⟨ν, ⟨fr.env, fr.dfs, fr.base, sl⟩, st, ⟨hg.rel, ⟨hg.env.size, hg.env.get, hg.env.dfs, hg.env.dlt⟩, hg.frb, hg.step⟩, h⟩
 | cons o rest ih =>
  intro sl i hi ν fr st a w hg h
  have hoi : ops[i]? = some o := by
   rw [← Array.getElem?_toList]
   have : (ops.toList.drop i)[0]? = some o := by rw [hi]; rfl
   simpa using this
  have hrest : ops.toList.drop (i + 1) = rest := by
   have : (ops.toList.drop i).drop 1 = rest := by rw [hi]; rfl
   simpa [List.drop_drop] using this
  simp only [List.length_cons, List.range'_succ, wpOps, hoi]
  simp only [evOps] at h
  by_cases hd : okDst n o.dst = true
  case neg => rw [Bool.not_eq_true] at hd; rw [hd] at h; exact absurd h.symm hne
  rw [hd, ifb_true] at h
  have hdst : ∀ t, o.dst = some t → t < n := by
   intro t ht
   rw [ht] at hd
   exact Nat.le_of_ble_eq_true hd
  have run : ∀ sl fr', Good S w0 E n ν fr' st a w →
    doOp tab cal sl o fr' st (fun fr st => evOps tab cal n ops.toList rest (settle sl fr.env o) fr st K Kp) Kp = res →
    o.wp P a w (wpOps P ops (Post S w0 E n (fun e fr st => match e with | .normal => K fr st | .panic e => Kp e fr st | _ => .no) res) (List.range' (i + 1) rest.length))
     (Post S w0 E n (fun e fr st => match e with | .normal => K fr st | .panic e => Kp e fr st | _ => .no) res) := by
   intro sl fr' hg' h'
   refine doOp_sound hT hC hne hg' o hdst h' ?_ ?_
   ·intro ν' fr'' st' a' w' hg'' hk
    exact ih _ (i + 1) hrest ν' fr'' st' a' w' hg'' hk
   ·intro ν' st' e w' hg'' hk
    exact ⟨ν', fr', st', e, hg'', rfl, hk⟩
  have skip : ∀ sl fr', Good S w0 E n ν fr' st a w → evOps tab cal n ops.toList rest sl (fr'.put o.dst (.tup [])) st K Kp = res →
    wpOps P ops (Post S w0 E n (fun e fr st => match e with | .normal => K fr st | .panic e => Kp e fr st | _ => .no) res) (List.range' (i + 1) rest.length) (a.put o.dst undef) w := by
   intro sl fr' hg' h'
   have := hg'.put (d := o.dst) hdst (v := .tup []) (by simp [svLt, belowL])
   exact ih sl (i + 1) hrest ν _ st _ w (by simpa [den, denL, undef] using this) h'
  split at h
  ·rename_i hgd
   rw [if_pos (wanted_none hgd)]
   exact .inl (run _ fr hg h)
  ·rename_i j want hgd
   split at h
   ·rename_i d hdj
    split at h
    ·rename_i b hb
     have hbt := hg.env.get d _ hb
     have hy := yielded_of hdj hbt.1
     have hg' : Good S w0 E n ν (fr.put (some d) (.bool b)) st a w := by
      refine ⟨hg.rel, ⟨hg.env.size, ?_, hg.env.dfs, hg.env.dlt⟩, hg.frb, hg.step⟩
      intro t u hu
      simp only [Fr.put, lkp_cons] at hu
      split at hu
      ·rename_i e; subst e; cases hu; exact hbt
      ·exact hg.env.get t u hu
     have hw := wanted_some hgd hy
     rw [O.test_eq] at h
     cases b <;> cases want <;> simp only at h
     ·rw [if_pos (by rw [hw]; rfl)]; exact .inl (run _ _ hg' h)
     ·rw [if_neg (by rw [hw]; simp)]; exact skip _ _ hg' h
     ·rw [if_neg (by rw [hw]; simp)]; exact skip _ _ hg' h
     ·rw [if_pos (by rw [hw]; rfl)]; exact .inl (run _ _ hg' h)
    ·rename_i hb
     have hbt := hg.env.get d _ hb
     rw [if_neg (by rw [wanted_not hgd (yielded_tup hdj hbt.1)]; simp)]
     exact skip _ fr hg h
    ·exact absurd h.symm hne
   ·exact absurd h.symm hne
theorem lkp_keep {env : Env} {ts : List Nat} {t : Nat} {v : SV} (h : lkp t (keep env ts) = some v) : lkp t env = some v := by
 induction ts with
 | nil => simp [keep, lkp] at h
 | cons s ss ih =>
  simp only [keep] at h
  split at h
  ·rename_i u hu
   rw [lkp_cons] at h
   split at h
   ·rename_i e; subst e; cases h; exact hu
   ·exact ih h
  ·exact ih h
theorem has_mem {t : Nat} {l : List Nat} : has t l = true ↔ t ∈ l := by
 induction l with
 | nil => simp [has]
 | cons s r ih =>
  simp only [has, Bool.or_eq_true, List.mem_cons, ih]
  constructor
  ·rintro (h | h)
   ·exact .inl (Nat.eq_of_beq_eq_true h).symm
   ·exact .inr h
  ·rintro (rfl | h)
   ·exact .inl (Nat.beq_refl _)
   ·exact .inr h
theorem idx_get : ∀ {j : Nat} {l : List Nat}, j ∈ l → idx j l < l.length ∧ l[idx j l]? = some j
 | j, [], h => by cases h
 | j, i :: r, h => by
  simp only [idx]
  by_cases e : i = j
  ·subst e; rw [Nat.beq_refl]; simp
  ·rw [show Nat.beq i j = false from Bool.eq_false_iff.2 fun e' => e (Nat.eq_of_beq_eq_true e')]
   have hr : j ∈ r := by
    rcases List.mem_cons.1 h with h | h
    ·exact absurd h.symm e
    ·exact h
   have := idx_get hr
   simp only [cond_false, List.length_cons, Nat.succ_eq_add_one, List.getElem?_cons_succ]
   exact ⟨by omega, this.2⟩
def reν (ν : Nat → Value) (base : Nat) (found : List Nat) : Nat → Value := fun i => if i < base then ν i else ν (found.getD (i - base) 0)
theorem reν_rn (ν : Nat → Value) {base : Nat} {found : List Nat} {j : Nat} (h : j < base ∨ j ∈ found) : reν ν base found (rn base found j) = ν j ∧ rn base found j < base + found.length := by
 unfold rn
 by_cases hj : j < base
 ·rw [show Nat.blt j base = true from Nat.ble_eq_true_of_le hj, cond_true]
  exact ⟨by simp [reν, hj], by omega⟩
 ·have hjf : j ∈ found := h.resolve_left hj
  have hb : Nat.blt j base = false := by
   rw [Bool.eq_false_iff]; intro h; exact hj (Nat.le_of_ble_eq_true h)
  obtain ⟨h1, h2⟩ := idx_get hjf
  rw [hb, cond_false]
  refine ⟨?_, by omega⟩
  show (if base + idx j found < base then _ else _) = _
  rw [if_neg (by omega), Nat.add_sub_cancel_left, List.getD_eq_getElem?_getD, h2]
  rfl
theorem inOr_iff {base : Nat} {found l : List Nat} (h : inOr base found l = true) : ∀ j ∈ l, j < base ∨ j ∈ found := by
 induction l with
 | nil => intro j hj; cases hj
 | cons i r ih =>
  simp only [inOr, Bool.and_eq_true, Bool.or_eq_true] at h
  intro j hj
  rcases List.mem_cons.1 hj with rfl | hj
  ·exact h.1.imp (fun h => Nat.le_of_ble_eq_true h) has_mem.1
  ·exact ih h.2 j hj
mutual
theorem den_ren (ν : Nat → Value) (base : Nat) (found : List Nat) : ∀ v, (∀ j ∈ namesOf v, j < base ∨ j ∈ found) → den (reν ν base found) (renS (rn base found) v) = den ν v ∧ svLt (base + found.length) (renS (rn base found) v) = true
 | .int _ _, _ | .bool _, _ | .str _, _ | .nilp, _ | .nilsl, _ | .nilf, _ | .nili, _ | .nilm, _ => by simp [renS, den, svLt]
 | .ptr j off, h => by
  have := reν_rn ν (h j (by simp [namesOf]))
  simp [renS, den, svLt, this.1, this.2]
 | .ept j sz i off, h => by
  have := reν_rn ν (h j (by simp [namesOf]))
  simp [renS, den, svLt, this.1, this.2]
 | .osl j, h => by
  have := reν_rn ν (h j (by simp [namesOf]))
  simp [renS, den, svLt, this.1, this.2]
 | .mp j, h => by
  have := reν_rn ν (h j (by simp [namesOf]))
  simp [renS, den, svLt, this.1, this.2]
 | .sl j sz ch m, h => by
  have := reν_rn ν (h j (by simp [namesOf]))
  simp [renS, den, svLt, this.1, this.2]
 | .csl j m, h => by
  have := reν_rn ν (h j (by simp [namesOf]))
  simp [renS, den, svLt, this.1, this.2]
 | .clo f cs, h => by
  have := denL_ren ν base found cs (by simpa [namesOf] using h)
  simp [renS, den, svLt, this.1, this.2]
 | .iface t v, h => by
  have := den_ren ν base found v (by simpa [namesOf] using h)
  simp [renS, den, svLt, this.1, this.2]
 | .agg cs, h => by
  have := denL_ren ν base found cs (by simpa [namesOf] using h)
  simp [renS, den, svLt, this.1, this.2]
 | .tup cs, h => by
  have := denL_ren ν base found cs (by simpa [namesOf] using h)
  simp [renS, den, svLt, this.1, this.2]
theorem denL_ren (ν : Nat → Value) (base : Nat) (found : List Nat) : ∀ vs, (∀ j ∈ namesL vs, j < base ∨ j ∈ found) → denL (reν ν base found) (renL (rn base found) vs) = denL ν vs ∧ belowL (base + found.length) (renL (rn base found) vs) = true
 | [], _ => by simp [renL, denL, belowL]
 | v :: vs, h => by
  have h1 := den_ren ν base found v (fun j hj => h j (by simp [namesL, hj]))
  have h2 := denL_ren ν base found vs (fun j hj => h j (by simp [namesL, hj]))
  simp [renL, denL, belowL, h1.1, h1.2, h2.1, h2.2]
end
theorem lkp_renE {r : Nat → Nat} {env : Env} {t : Nat} {v : SV} (h : lkp t (renE r env) = some v) : ∃ u, lkp t env = some u ∧ v = renS r u := by
 induction env with
 | nil => simp [renE, lkp] at h
 | cons x xs ih =>
  obtain ⟨s, u⟩ := x
  simp only [renE, lkp_cons] at h ⊢
  split at h
  ·rename_i e; cases h; rw [if_pos e]; exact ⟨u, rfl, rfl⟩
  ·rename_i e; rw [if_neg e]; exact ih h
theorem namesE_mem {env : Env} {t : Nat} {v : SV} (h : lkp t env = some v) : ∀ j ∈ namesOf v, j ∈ namesE env := by
 induction env with
 | nil => simp [lkp] at h
 | cons x xs ih =>
  obtain ⟨s, u⟩ := x
  intro j hj
  simp only [namesE, List.mem_append]
  rw [lkp_cons] at h
  split at h
  ·cases h; exact .inl hj
  ·exact .inr (ih h j hj)
theorem lkp_foundH {base : Nat} {all : List Nat} {H : Heap} : ∀ {js : List Nat} {i m : Nat} {o : HO}, lkp m (foundH base all H i js) = some o → ∃ k, m = i + k ∧ k < js.length ∧ ∃ q, lkp (js.getD k 0) H = some q ∧ o = renH (rn base all) q
 | [], i, m, o, h => by simp [foundH, lkp] at h
 | j :: js, i, m, o, h => by
  simp only [foundH] at h
  split at h
  ·rename_i q hq
   rw [lkp_cons] at h
   split at h
   ·rename_i e; cases h
    exact ⟨0, by omega, by simp, q, by simpa using hq, rfl⟩
   ·obtain ⟨k, h1, h2, q', h3, h4⟩ := lkp_foundH h
    exact ⟨k + 1, by omega, by simp; omega, q', by simpa using h3, h4⟩
  ·obtain ⟨k, h1, h2, q', h3, h4⟩ := lkp_foundH h
   exact ⟨k + 1, by omega, by simp; omega, q', by simpa using h3, h4⟩
theorem lkp_append {α : Type _} {t : Nat} : ∀ {a b : List (Nat × α)} {v : α}, lkp t (a ++ b) = some v → lkp t a = some v ∨ lkp t b = some v
 | [], b, v, h => .inr h
 | (s, u) :: a, b, v, h => by
  rw [List.cons_append, lkp_cons] at h
  rw [lkp_cons]
  split at h
  ·rename_i e; rw [if_pos e]; exact .inl h
  ·rename_i e; rw [if_neg e]; exact lkp_append h
theorem heapIn_at {base : Nat} {found : List Nat} {H : Heap} : ∀ {js : List Nat}, heapIn base found H js = true → ∀ j ∈ js, ∀ o, lkp j H = some o → ∀ i ∈ hoNames o, i < base ∨ i ∈ found
 | [], _, j, hj, _, _ => by cases hj
 | k :: js, h, j, hj, o, ho => by
  simp only [heapIn, Bool.and_eq_true] at h
  rcases List.mem_cons.1 hj with rfl | hj
  ·rw [ho] at h; exact inOr_iff h.1
  ·exact heapIn_at h.2 j hj o ho
theorem reach_nodup {base : Nat} {H : Heap} : ∀ (k : Nat) (todo found : List Nat), (found.Nodup ∧ ∀ j ∈ found, base ≤ j) → ((reach base H k todo found).Nodup ∧ ∀ j ∈ reach base H k todo found, base ≤ j)
 | 0, todo, found, h => by simpa [reach] using h
 | k + 1, [], found, h => by simpa [reach] using h
 | k + 1, j :: todo, found, h => by
  simp only [reach]
  by_cases hc : (Nat.blt j base || has j found) = true
  ·rw [hc, cond_true]; exact reach_nodup k todo found h
  ·rw [Bool.not_eq_true] at hc
   rw [hc, cond_false]
   refine reach_nodup k _ _ ?_
   simp only [Bool.or_eq_false_iff] at hc
   have h1 : ¬ j < base := fun e => by rw [show Nat.blt j base = true from Nat.ble_eq_true_of_le e] at hc; cases hc.1
   have h2 : j ∉ found := fun e => by rw [has_mem.2 e] at hc; cases hc.2
   refine ⟨?_, fun i hi => ?_⟩
   ·rw [List.nodup_append]
    exact ⟨h.1, by simp, fun a ha b hb => by simp at hb; rintro rfl; subst hb; exact h2 ha⟩
   ·rcases List.mem_append.1 hi with hi | hi
    ·exact h.2 i hi
    ·simp at hi; omega
theorem ltNs_map {n : Nat} {r : Nat → Nat} : ∀ {js : List Nat}, (∀ j ∈ js, r j < n) → ltNs n (js.map r) = true
 | [], _ => rfl
 | j :: js, h => by
  simp only [List.map_cons, ltNs, Bool.and_eq_true]
  exact ⟨Nat.ble_eq_true_of_le (h j (by simp)), ltNs_map fun i hi => h i (by simp [hi])⟩
theorem nth_map {r : Nat → Nat} : ∀ {js : List Nat} {k : Nat}, k < js.length → nth (js.map r) k = r (nth js k)
 | j :: js, 0, _ => rfl
 | j :: js, k + 1, h => by simp only [List.map_cons, nth]; exact nth_map (by simpa using h)
theorem nth_mem : ∀ {js : List Nat} {k : Nat}, k < js.length → nth js k ∈ js
 | j :: js, 0, _ => by simp [nth]
 | j :: js, k + 1, h => by simp only [nth, List.mem_cons]; exact .inr (nth_mem (by simpa using h))
section
variable {ν : Nat → Value} {base : Nat} {found : List Nat} {q : HO} {j m : Nat}
theorem mineL_ren (hν : reν ν base found m = ν j) (hin : ∀ i ∈ hoNames q, i < base ∨ i ∈ found) : mineL (reν ν base found) m (renH (rn base found) q) = mineL ν j q := by
 cases q with
 | tab own t γ p f xs => simp only [renH, mineL]; rw [(reν_rn ν (hin p (by simp [hoNames]))).1]
 | opn t γ p f xs i vs => simp only [renH, mineL]; rw [(reν_rn ν (hin p (by simp [hoNames]))).1]
 | _ => simp only [renH, mineL, hν]
theorem seenL_ren (hν : reν ν base found m = ν j) (hin : ∀ i ∈ hoNames q, i < base ∨ i ∈ found) : seenL (reν ν base found) m (renH (rn base found) q) = seenL ν j q := by
 cases q with
 | tab own t γ p f xs => simp only [renH, seenL]; rw [(reν_rn ν (hin p (by simp [hoNames]))).1]
 | opn t γ p f xs i vs => simp only [renH, seenL]; rw [(reν_rn ν (hin p (by simp [hoNames]))).1]
 | _ => simp only [renH, seenL, hν]
theorem αOf_ren {γ : List Nat} (h : ∀ i ∈ γ, i < base ∨ i ∈ found) : ∀ k, k < γ.length → αOf ν γ k = αOf (reν ν base found) (γ.map (rn base found)) k := by
 intro k hk
 have := (reν_rn ν (h _ (nth_mem hk))).1
 simp only [αOf, den]
 rw [nth_map hk, this]
theorem hoSat_ren {w : World} (hν : reν ν base found m = ν j) (hin : ∀ i ∈ hoNames q, i < base ∨ i ∈ found) (hs : hoSat ν w j q) : hoSat (reν ν base found) w m (renH (rn base found) q) := by
 cases q with
 | cells Tt vs =>
  obtain ⟨b, hb, hcell⟩ := hs
  refine ⟨b, by rw [hν]; exact hb, ?_⟩
  rw [(denL_ren ν base found vs hin).1]
  exact hcell
 | row own t ls xs => exact ⟨hs.1, by rw [hν]; exact hs.2⟩
 | map t ka va kl vl es => obtain ⟨b, hb, hc⟩ := hs; exact ⟨b, by rw [hν]; exact hb, hc⟩
 | tab own t γ p f xs =>
  obtain ⟨h1, h2, h3⟩ := hs
  have hp := (reν_rn ν (hin p (by simp [hoNames]))).1
  refine ⟨by rw [List.length_map]; exact h1, ?_, ?_⟩
  ·rw [hp]; exact h2
  ·rw [hp, hν]
   exact repS_alpha (αOf_ren fun i hi => hin i (by simp [hoNames, hi])) (.tab own t f) xs _ _ h1 h3
 | opn t γ p f xs i vs =>
  obtain ⟨h1, h2, h3, h4, h5, h5l, h6, ua, ub, F0, Fa, Fb, k1, k2, k3, k4⟩ := hs
  have hp := (reν_rn ν (hin p (by simp [hoNames]))).1
  have hd := (denL_ren ν base found vs (fun i hi => hin i (by simp [hoNames, hi]))).1
  have ha := αOf_ren (ν := ν) (base := base) (found := found) (γ := γ) fun i hi => hin i (by simp [hoNames, hi])
  have lr : ∀ l : List SV, (renL (rn base found) l).length = l.length := by
   intro l
   induction l with
   | nil => rfl
   | cons x xs ih => simp [renL, ih]
  have ll : ∀ l : List SV, l.all isLeaf = true → (renL (rn base found) l).all isLeaf = true := by
   intro l
   induction l with
   | nil => intro _; rfl
   | cons x xs ih =>
    intro h
    simp only [List.all_cons, Bool.and_eq_true] at h
    simp only [renL, List.all_cons, Bool.and_eq_true]
    exact ⟨by cases x <;> first | rfl | exact h.1, ih h.2⟩
  refine ⟨by rw [List.length_map]; exact h1, by rw [hp]; exact h2, h3, h4, by rw [lr]; exact h5, ll vs h5l, h6, ua, ub, F0, Fa, Fb, by rw [hp]; exact k1, ?_, ?_, ?_⟩
  ·rw [hp, hν, hd]; exact k2
  ·rw [hp]; exact k3.imp fun x v F _ hr => repF_alpha ha f x v F h1 hr
  ·rw [hp]; exact k4.imp fun x v F _ hr => repF_alpha ha f x v F h1 hr
 | ghost => trivial
theorem hoLt_ren (hin : ∀ i ∈ hoNames q, i < base ∨ i ∈ found) : hoLt (base + found.length) (renH (rn base found) q) = true := by
 cases q with
 | cells Tt vs => simp only [renH, hoLt]; exact (denL_ren ν0 base found vs hin).2
 | row own t ls xs => rfl
 | map t ka va kl vl es => rfl
 | tab own t γ p f xs =>
  simp only [renH, hoLt, Bool.and_eq_true]
  exact ⟨Nat.ble_eq_true_of_le (reν_rn ν0 (hin p (by simp [hoNames]))).2, ltNs_map fun i hi => (reν_rn ν0 (hin i (by simp [hoNames, hi]))).2⟩
 | opn t γ p f xs i vs =>
  simp only [renH, hoLt, Bool.and_eq_true]
  exact ⟨Nat.ble_eq_true_of_le (reν_rn ν0 (hin p (by simp [hoNames]))).2, ltNs_map fun i hi => (reν_rn ν0 (hin i (by simp [hoNames, hi]))).2, (denL_ren ν0 base found vs (fun i hi => hin i (by simp [hoNames, hi]))).2⟩
 | ghost => rfl
end
theorem set_den (ν : Nat → Value) : ∀ (vs : List SV) (i : Nat) (v u : SV), vs[i]? = some v → den ν u = den ν v → denL ν (vs.set i u) = denL ν vs
 | [], i, v, u, h, _ => by simp at h
 | x :: xs, 0, v, u, h, e => by
  simp only [List.getElem?_cons_zero, Option.some.injEq] at h
  subst h
  simp only [List.set_cons_zero, denL, e]
 | x :: xs, i + 1, v, u, h, e => by
  simp only [List.getElem?_cons_succ] at h
  simp only [List.set_cons_succ, denL, set_den ν xs i v u h e]
theorem set_lt {n : Nat} : ∀ {vs : List SV} {i : Nat} {u : SV}, belowL n vs = true → svLt n u = true → belowL n (vs.set i u) = true
 | [], i, u, h, _ => by simpa using h
 | x :: xs, 0, u, h, hu => by
  simp only [belowL, Bool.and_eq_true] at h
  simp only [List.set_cons_zero, belowL, hu, h.2, Bool.and_self]
 | x :: xs, i + 1, u, h, hu => by
  simp only [belowL, Bool.and_eq_true] at h
  simp only [List.set_cons_succ, belowL, h.1, set_lt h.2 hu, Bool.and_self]
theorem Good.re {ν ν' : Nat → Value} {fr : Fr} {st st' : St} {a : Act} {w : World} (hg : Good S w0 E n ν fr st a w) (h : Re S w0 w ν st ν' st') : Good S w0 E n ν' fr st' a w :=
 ⟨h.rel, hg.env.mono h.nx h.agree, hg.frb, hg.step.trans h.step⟩
theorem RelW.recut {ν : Nat → Value} {st : St} {w : World} (hR : RelW S w0 ν st w) {j : Nat} {t : TypeId} {ls : List Lf} {xs : List (LT ls)} (hj : lkp j st.H = some (.row true t ls xs)) {ch : List Int} {n : Int} (hp : posI ch = true) (h0 : 0 ≤ n) (h1 : sumI ch + n ≤ (xs.length : Int)) :
  RelW S w0 (upd ν st.nx (cutV ls.length ch n (ν j))) ⟨Nat.succ st.nx, st.dirty, (st.nx, .row true t ls (sub xs (sumI ch) n)) :: del j st.H⟩ w := by
 have hs := hR.sat j _ hj
 obtain ⟨r1, r2⟩ := RowSat.recut hs.2 hp h0 h1
 exact hR.grown ⟨rfl, rfl, rfl, Nat.le_refl _⟩ hs.1 r1 (del j st.H) st.dirty (rowMine true (ν j)) (fun i q hq => (lkp_del_some hq).2)
  (fun i q b hq hb1 hb2 => hb1.elim (fun hb1 => (lkp_del_some hq).1 (hR.inj j i _ q b hj (lkp_del_some hq).2 hb2 hb1)) (fun hb1 => hR.apart j i _ q b hj (lkp_del_some hq).2 hb2 hb1))
  (fun b hb => ⟨hR.mine j _ b hj hb, hoSat_lt (hR.sat j _ hj) b (.inl hb)⟩) (fun _ _ _ => rfl) (fun b hb => .inl (by rw [← r2]; exact hb))
theorem ownRow_sound {ν : Nat → Value} {st : St} {w : World} (hR : RelW S w0 ν st w) {v : SV} {e : TypeId} {r : RowK} {K : SV → St → O T} {K0 res : O T} (h : ownRow v e r st K K0 = res) (hne : res ≠ .no) :
  K0 = res ∨ ∃ ν' st' v', Re S w0 w ν st ν' st' ∧ den ν' v' = den ν v ∧ svLt st'.nx v' = true ∧ (∀ j T vs, lkp j st.H = some (.cells T vs) → lkp j st'.H = some (.cells T vs)) ∧ K v' st' = res := by
 unfold ownRow at h
 split at h
 ·rename_i l ls
  refine .inr ⟨upd ν st.nx (.slice none 0 0), st.add (.row true e (l :: ls) []), .osl st.nx, ⟨?_, Nat.le_succ _, rfl, fun j hj => upd_old hj⟩, ?_, ?_, ?_, h⟩
  ·exact hR.new ⟨rfl, rfl, rfl, Nat.le_refl _⟩ (.slice none 0 0) (.row true e (l :: ls) []) st.H st.dirty (fun _ _ h => h) (fun _ _ _ _ _ => rfl) (fun _ _ _ => rfl) rfl ⟨by simp, by rw [upd_new]; exact .inl ⟨rfl, rfl⟩⟩ (by simp [mineL, upd_new, rowMine]) (fun j o b _ hb => by simp [mineL, upd_new, rowMine] at hb) (fun b hb => by simp [mineL, upd_new, rowMine] at hb) (fun b hb => by simp [seenL, rowSeen] at hb)
  ·simp only [den, upd_new]; rfl
  ·simp [svLt, St.add]
  ·intro j T vs hj
   show lkp j ((st.nx, _) :: st.H) = _
   rw [lkp_cons, if_neg (by have := (hR.lt j _ hj).1; omega)]; exact hj
 ·rename_i f
  by_cases hc : (Nat.ble 1 f.sz && f.lt 0) = true
  ·rw [hc, ifb_true] at h
   simp only [Bool.and_eq_true] at hc
   obtain ⟨ν', g, e1, _⟩ := giveS_sound (γ := []) (n := 0) (α := αOf ν []) (Av := fun _ => False) (.tab true e f) ([] : List f.T) [.slice none 0 0] [] ν st hR ⟨_, [], [], [], rfl, rfl, Nat.le_of_ble_eq_true hc.1, .inl ⟨rfl, rfl, rfl, rfl⟩, ⟨rfl, rfl⟩⟩
    ⟨List.nodup_nil, fun b hb => (by cases hb), fun b hb => (by cases hb), fun b hb => hb.elim⟩ ⟨rfl, fun k hk => absurd hk (Nat.not_lt_zero k)⟩ hc.2
   have g1 : RelW S w0 ν' ((st.add .ghost).add (.tab true e (gOf [] f) st.nx f [])) w := g.1
   rw [show gOf [] f = [] by unfold gOf; split <;> rfl] at g1
   refine .inr ⟨ν', (st.add .ghost).add (.tab true e [] st.nx f []), .osl (Nat.succ st.nx), ⟨g1, by show st.nx ≤ Nat.succ (Nat.succ st.nx); omega, rfl, g.2.1⟩, ?_, ?_, ?_, h⟩
   ·have e1 : denL ν' [.osl (Nat.succ st.nx)] = [.slice none 0 0] := e1
    simp only [denL, List.cons.injEq, and_true] at e1
    rw [e1]; simp [den]
   ·show svLt (Nat.succ (Nat.succ st.nx)) (.osl (Nat.succ st.nx)) = true
    simp [svLt]
   ·intro j T vs hj
    have hl := (hR.lt j _ hj).1
    show lkp j ((Nat.succ st.nx, _) :: (st.nx, _) :: st.H) = _
    rw [lkp_cons, if_neg (by omega), lkp_cons, if_neg (by omega)]; exact hj
  ·rw [Bool.not_eq_true] at hc; rw [hc] at h; exact .inl h
 ·rename_i j sz ch n ls0
  split at h
  ·rename_i t ls xs hj
   by_cases hc : (Nat.beq sz ls.length && Nat.beq t e) = true
   ·rw [hc, ifb_true] at h
    simp only [Bool.and_eq_true] at hc
    obtain rfl := Nat.eq_of_beq_eq_true hc.1
    obtain ⟨hk, h⟩ := O.chk_ne h hne
    rw [Bool.and_eq_true, decide_eq_true_eq] at hk
    refine .inr ⟨_, _, .osl st.nx, ⟨hR.recut hj hk.1 hk.2.1 hk.2.2, Nat.le_succ _, rfl, fun i hi => upd_old hi⟩, ?_, by simp [svLt], ?_, h⟩
    ·simp only [den, upd_new]
     have := (RowSat.recut (hR.sat j _ hj).2 hk.1 hk.2.1 hk.2.2).1
     exact (this.rowVal (hR.sat j _ hj).1).hdr
    ·intro i T vs hi
     have hl := (hR.lt i _ hi).1
     show lkp i ((st.nx, _) :: del j st.H) = _
     rw [lkp_cons, if_neg (by omega), lkp_del, if_neg]
     ·exact hi
     ·rintro rfl
      rw [hj] at hi; cases hi
   ·rw [Bool.not_eq_true] at hc; rw [hc] at h; exact .inl h
  ·exact .inl h
 ·rename_i j sz ch n f0
  split at h
  ·rename_i t γ p f xs hj
   by_cases hc : (Nat.beq sz f.sz && Nat.beq t e) = true
   ·rw [hc, ifb_true] at h
    simp only [Bool.and_eq_true] at hc
    obtain rfl := Nat.eq_of_beq_eq_true hc.1
    obtain ⟨hk, h⟩ := O.chk_ne h hne
    rw [Bool.and_eq_true, decide_eq_true_eq] at hk
    obtain ⟨ν', r1, r2, r3⟩ := hR.recutT hj hk.1 hk.2.1 hk.2.2
    refine .inr ⟨ν', _, .osl (Nat.succ st.nx), ⟨r1, by show st.nx ≤ Nat.succ (Nat.succ st.nx); omega, rfl, r2⟩, ?_, by simp [svLt], ?_, h⟩
    ·rw [← r3]; simp only [den]
    ·intro i T vs hi
     have hl := (hR.lt i _ hi).1
     show lkp i ((Nat.succ st.nx, _) :: (st.nx, _) :: del j st.H) = _
     rw [lkp_cons, if_neg (by omega), lkp_cons, if_neg (by omega), lkp_del, if_neg]
     ·exact hi
     ·rintro rfl
      rw [hj] at hi; cases hi
   ·rw [Bool.not_eq_true] at hc; rw [hc] at h; exact .inl h
  ·exact .inl h
 ·exact .inl h
theorem fillCell_sound {ν : Nat → Value} {fr : Fr} {st : St} {a : Act} {w : World} (hg : Good S w0 E n ν fr st a w) (x : Nat × Nat) (e : TypeId) (r : RowK) {K : St → O T} {res : O T} (h : fillCell x e r st K = res) (hne : res ≠ .no) : ∃ ν' st', Good S w0 E n ν' fr st' a w ∧ K st' = res := by
 unfold fillCell at h
 split at h
 ·rename_i t vs hj
  split at h
  ·rename_i v hv
   rcases ownRow_sound hg.rel h hne with h | ⟨ν', st', v', hre, hd, hlt, hst, h⟩
   ·exact ⟨ν, st, hg, h⟩
   ·rw [hst _ _ _ hj] at h
    simp only at h
    by_cases hc : (Nat.beq t t && Nat.beq vs.length vs.length) = true
    ·rw [hc, ifb_true] at h
     have hj1 := hst _ _ _ hj
     have hl := hre.rel.lt _ _ hj1
     obtain ⟨b, hb, hcell⟩ := hre.rel.sat _ _ hj1
     have hlv : belowL st.nx vs = true := by
      have := (hg.rel.lt _ _ hj).2
      simpa only [hoLt] using this
     have hvl : svLt st.nx v = true := belowL_iff.1 hlv v (List.mem_of_getElem? hv)
     have hdn : denL ν' (vs.set x.2 v') = denL ν' vs := set_den _ vs x.2 v v' hv (by rw [hd]; exact den_congr hre.agree v hvl)
     have hR2 : RelW S w0 ν' (st'.put x.1 (.cells t (vs.set x.2 v'))) w :=
      hre.rel.turn hj1 ⟨rfl, rfl, rfl, Nat.le_refl _⟩ rfl (fun _ hb => hb) (fun _ _ => rfl) (by
       simp only [hoLt]
       exact set_lt (by have := hl.2; simpa only [hoLt] using this) hlt) ⟨b, hb, by rw [hdn]; exact hcell⟩
     have hg2 := hg.re hre
     refine ⟨ν', _, ⟨hR2, hg2.env, hg2.frb, ?_⟩, h⟩
     exact hg2.step.trans (Step.dirty (Nat.le_refl _) (fun _ _ => rfl) (Nat.le_refl _) rfl)
    ·rw [Bool.not_eq_true] at hc; rw [hc] at h; exact absurd h.symm hne
  ·exact ⟨ν, st, hg, h⟩
 ·exact ⟨ν, st, hg, h⟩
theorem fillNil_sound {ν : Nat → Value} {fr : Fr} {st : St} {a : Act} {w : World} (hg : Good S w0 E n ν fr st a w) (x : Nl × TypeId × RowK) {K : Fr → St → O T} {res : O T} (h : fillNil x fr st K = res) (hne : res ≠ .no) : ∃ ν' fr' st', Good S w0 E n ν' fr' st' a w ∧ fr'.base = fr.base ∧ K fr' st' = res := by
 unfold fillNil at h
 split at h
 ·rename_i t _
  split at h
  ·rename_i v hv
   rcases ownRow_sound hg.rel h hne with h | ⟨ν', st', v', hre, hd, hlt, hst, h⟩
   ·exact ⟨ν, fr, st, hg, rfl, h⟩
   ·have hg2 := hg.re hre
    refine ⟨ν', ⟨(t, v') :: fr.env, fr.dfs, fr.base, fr.sl⟩, st', ⟨hg2.rel, ⟨hg2.env.size, ?_, hg2.env.dfs, hg2.env.dlt⟩, hg2.frb, hg2.step⟩, rfl, h⟩
    intro s u hs
    rw [lkp_cons] at hs
    split at hs
    ·rename_i es
     subst es
     cases hs
     refine ⟨?_, hlt⟩
     rw [(hg.env.get _ _ hv).1, hd]
    ·exact hg2.env.get s u hs
  ·exact ⟨ν, fr, st, hg, rfl, h⟩
 ·split at h
  ·split at h
   ·obtain ⟨ν', st', h1, h2⟩ := fillCell_sound hg _ _ _ h hne
    exact ⟨ν', fr, st', h1, rfl, h2⟩
   ·exact ⟨ν, fr, st, hg, rfl, h⟩
  ·exact ⟨ν, fr, st, hg, rfl, h⟩
 ·split at h
  ·obtain ⟨ν', st', h1, h2⟩ := fillCell_sound hg _ _ _ h hne
   exact ⟨ν', fr, st', h1, rfl, h2⟩
  ·exact ⟨ν, fr, st, hg, rfl, h⟩
theorem fillNils_sound {a : Act} {w : World} {K : Fr → St → O T} {res : O T} (hne : res ≠ .no) : ∀ (l : List (Nl × TypeId × RowK)) (ν : Nat → Value) (fr : Fr) (st : St), Good S w0 E n ν fr st a w → fillNils l fr st K = res → ∃ ν' fr' st', Good S w0 E n ν' fr' st' a w ∧ K fr' st' = res
 | [], ν, fr, st, hg, h => ⟨ν, fr, st, hg, h⟩
 | x :: xs, ν, fr, st, hg, h => by
  obtain ⟨ν', fr', st', h1, _, h2⟩ := fillNil_sound hg x h hne
  exact fillNils_sound hne xs ν' fr' st' h1 h2
theorem cutTo_sound {c : Cut} {fr : Fr} {st : St} {K : Fr → St → O T} {res : O T} (h : cutTo c fr st K = res) (hne : res ≠ .no) {ν : Nat → Value} {a : Act} {w : World} (hg : Good S w0 E n ν fr st a w) :
  ∃ ν' fr' st', Good S w0 E n ν' fr' st' a w ∧ K fr' st' = res := by
 unfold cutTo at h
 obtain ⟨ν1, st1, hre, h⟩ := foldJs_sound hne (opns st.H) hg.rel h
 obtain ⟨ν, fr, st, hg, h⟩ := fillNils_sound hne c.nils ν1 fr st1 (hg.re hre) h
 obtain ⟨c, nils⟩ := c
 unfold cutTo1 at h
 dsimp only at h hg
 generalize hf : reach fr.base st.H 1000 (namesE (keep fr.env c) ++ namesL fr.dfs ++ namesH st.H (List.range fr.base)) [] = found at h
 have hnd := reach_nodup (base := fr.base) (H := st.H) 1000 (namesE (keep fr.env c) ++ namesL fr.dfs ++ namesH st.H (List.range fr.base)) [] ⟨List.nodup_nil, fun j hj => by cases hj⟩
 rw [hf] at hnd
 obtain ⟨hnd, hge⟩ := hnd
 by_cases hc : (inOr fr.base found (namesE (keep fr.env c)) && inOr fr.base found (namesL fr.dfs) && heapIn fr.base found st.H found && heapIn fr.base found st.H (List.range fr.base)) = true
 ·rw [hc, ifb_true] at h
  simp only [Bool.and_eq_true] at hc
  obtain ⟨⟨⟨h1, h2⟩, h3⟩, h4⟩ := hc
  have hR := hg.rel
  have hbase : fr.base ≤ st.nx := by have := hg.frb; have := hg.step.nx; omega
  have orig : ∀ m o, lkp m (foundH fr.base found st.H fr.base found ++ foundH fr.base found st.H 0 (List.range fr.base)) = some o →
    ∃ j q, lkp j st.H = some q ∧ o = renH (rn fr.base found) q ∧ m = rn fr.base found j ∧ (j < fr.base ∨ j ∈ found) ∧ (∀ i ∈ hoNames q, i < fr.base ∨ i ∈ found) ∧ reν ν fr.base found m = ν j ∧ m < fr.base + found.length := by
   intro m o hm
   rcases lkp_append hm with hm | hm
   ·obtain ⟨k, rfl, hk, q, hq, rfl⟩ := lkp_foundH hm
    have hmem : found.getD k 0 ∈ found := by rw [List.getD_eq_getElem?_getD, List.getElem?_eq_getElem hk]; exact List.getElem_mem hk
    have hidx : idx (found.getD k 0) found = k := by
     obtain ⟨g1, g2⟩ := idx_get hmem
     rw [List.getD_eq_getElem?_getD, List.getElem?_eq_getElem hk, Option.getD_some] at g1 g2 ⊢
     rw [List.getElem?_eq_getElem g1] at g2
     exact (List.getElem_inj hnd).1 (Option.some.inj g2)
    have hrn : rn fr.base found (found.getD k 0) = fr.base + k := by
     unfold rn
     have : Nat.blt (found.getD k 0) fr.base = false := by
      rw [Bool.eq_false_iff]; intro e
      have := hge _ hmem
      have := Nat.le_of_ble_eq_true e
      omega
     rw [this, cond_false, hidx]
    refine ⟨found.getD k 0, q, hq, rfl, hrn.symm, .inr hmem, heapIn_at h3 _ hmem q hq, ?_, by omega⟩
    rw [← hrn]; exact (reν_rn ν (.inr hmem)).1
   ·obtain ⟨k, hmk, hk, q, hq, rfl⟩ := lkp_foundH hm
    rw [Nat.zero_add] at hmk
    subst hmk
    rw [List.length_range] at hk
    have hgd : (List.range fr.base).getD m 0 = m := by rw [List.getD_eq_getElem?_getD, List.getElem?_range hk]; rfl
    rw [hgd] at hq
    have hrn : rn fr.base found m = m := by unfold rn; rw [show Nat.blt m fr.base = true from Nat.ble_eq_true_of_le hk]; rfl
    refine ⟨m, q, hq, rfl, hrn.symm, .inl hk, heapIn_at h4 m (List.mem_range.2 hk) q hq, by simp [reν, hk], by omega⟩
  refine ⟨reν ν fr.base found, _, _, ?_, h⟩
  refine ⟨⟨?_, ?_, ?_, ?_, ?_, ?_, ?_, hR.os, hR.tape, hR.output, hR.size, hR.frame⟩, ⟨hg.env.size, ?_, ?_, ?_⟩, hg.frb, ⟨?_, ?_, fun _ => rfl, hg.step.size, fun h => by cases h⟩⟩
  ·intro m o hm
   obtain ⟨j, q, hq, rfl, hmj, hjb, hin, hν, _⟩ := orig m o hm
   exact hoSat_ren hν hin (hR.sat j q hq)
  ·intro m o hm
   obtain ⟨j, q, hq, rfl, hmj, hjb, hin, hν, hlt⟩ := orig m o hm
   exact ⟨hlt, hoLt_ren hin⟩
  ·intro m m' o o' b hm hm' hb hb'
   obtain ⟨j, q, hq, rfl, hmj, hjb, hin, hν, hlt⟩ := orig m o hm
   obtain ⟨j', q', hq', rfl, hmj', _, hin', hν', _⟩ := orig m' o' hm'
   rw [mineL_ren hν hin] at hb
   rw [mineL_ren hν' hin'] at hb'
   rw [hmj, hmj', hR.inj j j' q q' b hq hq' hb hb']
  ·intro m o hm
   obtain ⟨j, q, hq, rfl, hmj, hjb, hin, hν, hlt⟩ := orig m o hm
   rw [mineL_ren hν hin]
   exact hR.nd j q hq
  ·intro m o b hm hb
   obtain ⟨j, q, hq, rfl, hmj, hjb, hin, hν, hlt⟩ := orig m o hm
   rw [mineL_ren hν hin] at hb
   exact hR.mine j q b hq hb
  ·intro m o b hm hb
   obtain ⟨j, q, hq, rfl, hmj, hjb, hin, hν, hlt⟩ := orig m o hm
   rw [seenL_ren hν hin] at hb
   exact hR.seen j q b hq hb
  ·intro m m' o o' b hm hm' hb hb'
   obtain ⟨j, q, hq, rfl, hmj, hjb, hin, hν, hlt⟩ := orig m o hm
   obtain ⟨j', q', hq', rfl, hmj', _, hin', hν', _⟩ := orig m' o' hm'
   rw [mineL_ren hν hin] at hb
   rw [seenL_ren hν' hin'] at hb'
   exact hR.apart j j' q q' b hq hq' hb hb'
  ·intro t v hv
   obtain ⟨u, hu, rfl⟩ := lkp_renE hv
   have hd := den_ren ν fr.base found u (fun j hj => inOr_iff h1 j (namesE_mem hu j hj))
   exact ⟨by rw [hd.1]; exact (hg.env.get t u (lkp_keep hu)).1, hd.2⟩
  ·rw [(denL_ren ν fr.base found fr.dfs (inOr_iff h2)).1]; exact hg.env.dfs
  ·exact (denL_ren ν fr.base found fr.dfs (inOr_iff h2)).2
  ·have := hg.frb; simp only; omega
  ·intro j hj
   have := hg.frb
   rw [hg.step.agree j hj]
   simp only [reν]
   rw [if_pos (by omega)]
 ·rw [Bool.not_eq_true] at hc; rw [hc] at h; exact absurd h.symm hne
end
end Go.Aq
end
section
namespace Go.Aq
open Go.RowKit (Below)
set_option linter.unusedVariables false
section orders
variable {P : Program} {ops : Array Oper} {Q : Exit → Act → World → Prop} {G : Array Bool → World → Prop}
def Closed (ops : Array Oper) (listed : Array Bool) : Prop :=
 ∀ e o, ops[e]? = some o → listed.getD e false = true → ∀ ed ∈ o.after, Region.binds .any ed = true → listed.getD ed.on false = true
theorem Closed.set {listed : Array Bool} (h : Closed ops listed) {i : Nat} (hi : i ∈ Region.ready .any ops listed) : Closed ops (listed.setIfInBounds i true) := by
 intro e o ho hl ed hed hb
 obtain ⟨_, oi, hoi, hall⟩ := mem_ready.1 hi
 by_cases hei : i = e
 ·subst hei
  rw [hoi] at ho; cases ho
  exact getD_set_true (hall ed hed hb)
 ·rw [getD_set_ne false hei] at hl
  exact getD_set_true (h e o ho hl ed hed hb)
def wpAnyG (P : Program) (ops : Array Oper) (Q : Exit → Act → World → Prop) (G : Array Bool → World → Prop) : Nat → Array Bool → Act → World → Prop
 | 0, listed, a, w => Region.ready .any ops listed = [] ∧ Q .normal a w
 | fuel + 1, listed, a, w =>
  (Region.ready .any ops listed = [] → Q .normal a w) ∧
  ∀ i ∈ Region.ready .any ops listed, wpOp P ops Q i (fun a' w' => G (listed.setIfInBounds i true) w' ∧ wpAnyG P ops Q G fuel (listed.setIfInBounds i true) a' w') a w
theorem wpAny_of_G : ∀ (fuel : Nat) (listed : Array Bool) (a : Act) (w : World), wpAnyG P ops Q G fuel listed a w → wpAny P .any ops Q fuel listed a w
 | 0, _, _, _, h => h
 | fuel + 1, _, _, _, h => ⟨h.1, fun i hi => wpOp_mono (fun a' w' h' => wpAny_of_G fuel _ a' w' h'.2) (h.2 i hi)⟩
def YieldsG (P : Program) (ops : Array Oper) (G : Array Bool → World → Prop) (i : Nat) (o : Oper) (v : Value) (a : Act) : Prop :=
 (Region.wanted o (yielded ops a.tmps) = true ∧ ∀ listed w, Closed ops listed → listed.getD i true = false → G listed w → (execOp a.eval o).run P w = .ok (.value v) w) ∨
 (Region.wanted o (yielded ops a.tmps) = false ∧ v = undef)
theorem YieldsG.wpOp {i : Nat} {o : Oper} {v : Value} {a : Act} (hi : ops[i]? = some o) (hy : YieldsG P ops G i o v a) {listed : Array Bool} {w : World} (hc : Closed ops listed) (hl : listed.getD i true = false) (hG : G listed w)
  {K : Act → World → Prop} (h : K (a.put o.dst v) w) : wpOp P ops Q i K a w := by
 unfold Go.wpOp
 simp only [hi]
 rcases hy with ⟨hw, hv⟩ | ⟨hw, rfl⟩
 ·simp only [hw, if_true, Oper.wp, hv listed w hc hl hG, Oper.upon]; exact .inl h
 ·simp only [hw, Bool.false_eq_true, if_false]; exact h
theorem YieldsG.of_same {i : Nat} {o : Oper} {v : Value} {a a' : Act} (hy : YieldsG P ops G i o v a) (he : execOp a'.eval o = execOp a.eval o)
  (hw : Region.wanted o (yielded ops a'.tmps) = Region.wanted o (yielded ops a.tmps)) : YieldsG P ops G i o v a' := by
 unfold YieldsG at *
 rw [he, hw]
 exact hy
theorem wpOp_putG {i j : Nat} {oi oj : Oper} {v : Value} (hj : ops[j]? = some oj) (hap : oi.apart ops oj = true)
  (hsi : ∀ cs b, oi.op ≠ .select cs b) (hsj : ∀ cs b, oj.op ≠ .select cs b)
  (hQ : ∀ c a w, Q (.panic c) (a.put oi.dst v) w → Q (.panic c) a w) {K : Act → World → Prop} {a : Act} {w : World}
  (hy : YieldsG P ops G i oi v a) (h : wpOp P ops Q j K (a.put oi.dst v) w) :
  wpOp P ops Q j (fun a' w' => YieldsG P ops G i oi v a' ∧ K (a'.put oi.dst v) w') a w := by
 obtain ⟨h1, h2, h3⟩ := Oper.apart_spec hap
 have keep : ∀ (a : Act), YieldsG P ops G i oi v a → ∀ u, YieldsG P ops G i oi v (a.put oj.dst u) := fun a hy u =>
  hy.of_same (execOp_put oi hsi a oj.dst u h3) (wanted_put oi a oj.dst u h3)
 have keepD : ∀ d, YieldsG P ops G i oi v { a with defers := d :: a.defers } := fun d => hy.of_same rfl rfl
 unfold wpOp at *
 simp only [hj] at *
 rw [wanted_put oj a oi.dst v h1] at h
 by_cases hw : Region.wanted oj (yielded ops a.tmps) = true
 ·rw [if_pos hw] at h ⊢
  rcases h with h | ⟨hasks, hlets⟩
  ·refine .inl ?_
   unfold Oper.wp at *
   rw [execOp_put oj hsj a oi.dst v h1] at h
   generalize (execOp a.eval oj).run P w = r at *
   cases r with
   | ok nx w' =>
    cases nx <;> simp only [Oper.upon] at h ⊢
    case value u => exact ⟨keep a hy u, by rw [← Act.put_comm a v u h2]; exact h⟩
    case skip => exact ⟨keep a hy _, by rw [← Act.put_comm a v undef h2]; exact h⟩
    case defer d =>
     refine ⟨keep _ (keepD d) _, ?_⟩
     rw [← Act.put_comm _ v undef h2, ← Act.put_defers]
     exact h
    case enter f args =>
     refine Calls.mono h fun e w'' he => ?_
     cases e with
     | returned u => exact ⟨keep a hy u, by rw [← Act.put_comm a v u h2]; exact he⟩
     | panicked c => exact hQ _ _ _ he
     | outgrown => exact he
    case row row args => exact Rows.mono h fun u w'' he => ⟨keep a hy u, by rw [← Act.put_comm a v u h2]; exact he⟩
   | halt x w' =>
    cases x <;> simp only [Oper.upon] at h ⊢
    case panic u => exact hQ _ _ _ h
  ·exact .inr ⟨by unfold Oper.asks at *; rw [execOp_put oj hsj a oi.dst v h1] at hasks; exact hasks, hlets⟩
 ·rw [if_neg hw] at h ⊢
  exact ⟨keep a hy _, by rw [← Act.put_comm a v undef h2]; exact h⟩
theorem wpAnyG_first {i : Nat} {oi : Oper} {v : Value} (hi : ops[i]? = some oi) (hsel : ∀ (j : Nat) (o : Oper) cs b, ops[j]? = some o → o.op ≠ .select cs b)
  (hQ : ∀ c a w, Q (.panic c) (a.put oi.dst v) w → Q (.panic c) a w)
  (hGi : ∀ listed w, G listed w ↔ G (listed.setIfInBounds i true) w) :
  ∀ (fuel : Nat) (listed : Array Bool) (a : Act) (w : World),
   (∀ j oj, ops[j]? = some oj → j ≠ i → listed.getD j true = false → (∀ e ∈ oj.after, Region.binds .any e = true → e.on ≠ i) → oi.apart ops oj = true) →
   i ∈ Region.ready .any ops listed → Closed ops listed → YieldsG P ops G i oi v a → G listed w →
   wpAnyG P ops Q G fuel (listed.setIfInBounds i true) (a.put oi.dst v) w → wpAnyG P ops Q G (fuel + 1) listed a w := by
 intro fuel
 induction fuel with
 | zero =>
  intro listed a w _ hr hc hy hG H
  refine ⟨fun h => (by rw [h] at hr; cases hr), fun j hj => ?_⟩
  by_cases hji : j = i
  ·subst hji
   exact hy.wpOp hi hc (mem_ready.1 hr).1 hG ⟨(hGi listed w).1 hG, H⟩
  ·have := ready_mono hj hji
   rw [H.1] at this
   cases this
 | succ fuel ih =>
  intro listed a w hfree hr hc hy hG H
  refine ⟨fun h => (by rw [h] at hr; cases hr), fun j hj => ?_⟩
  by_cases hji : j = i
  ·subst hji
   exact hy.wpOp hi hc (mem_ready.1 hr).1 hG ⟨(hGi listed w).1 hG, H⟩
  ·have h1 := H.2 j (ready_mono hj hji)
   obtain ⟨hjun, oj, hoj, hall⟩ := mem_ready.1 hj
   have hnot : ∀ e ∈ oj.after, Region.binds .any e = true → e.on ≠ i := fun e he hb heq => by
    have h1 := hall e he hb
    have h0 := (mem_ready.1 hr).1
    rw [heq] at h1
    rcases Nat.lt_or_ge i listed.size with h' | h'
    ·simp [h'] at h0 h1; rw [h0] at h1; cases h1
    ·simp [Array.getElem?_eq_none h'] at h1
   have h2 := wpOp_putG hoj (hfree j oj hoj hji hjun hnot) (fun cs b => hsel i oi cs b hi) (fun cs b => hsel j oj cs b hoj) hQ hy h1
   have hfree' : ∀ k ok, ops[k]? = some ok → k ≠ i → (listed.setIfInBounds j true).getD k true = false →
     (∀ e ∈ ok.after, Region.binds .any e = true → e.on ≠ i) → oi.apart ops ok = true := fun k ok hk hki hun hno => by
    refine hfree k ok hk hki ?_ hno
    by_cases hjk : j = k
    ·subst hjk; exact hjun
    ·rw [getD_set_ne true hjk] at hun; exact hun
   refine wpOp_mono (fun a' w' h3 => ?_) h2
   have hG' : G (listed.setIfInBounds j true) w' := by
    refine (hGi _ _).2 ?_
    rw [Array.setIfInBounds_comm _ _ hji]
    exact h3.2.1
   refine ⟨hG', ih (listed.setIfInBounds j true) a' w' hfree' (ready_mono hr (Ne.symm hji)) (hc.set hj) h3.1 hG' ?_⟩
   rw [Array.setIfInBounds_comm _ _ hji]
   exact h3.2.2
theorem wpAnyG_all {rs : List Nat} {fuel : Nat} {listed : Array Bool} {a : Act} {w : World} (hr : Region.ready .any ops listed = rs) (hne : rs ≠ [])
  (h : ∀ i ∈ rs, wpOp P ops Q i (fun a' w' => G (listed.setIfInBounds i true) w' ∧ wpAnyG P ops Q G fuel (listed.setIfInBounds i true) a' w') a w) : wpAnyG P ops Q G (fuel + 1) listed a w :=
 ⟨fun h0 => absurd (hr ▸ h0) hne, hr ▸ h⟩
theorem wpAnyG_weaken {G' : Array Bool → World → Prop} (hG : ∀ l u, G l u → G' l u) : ∀ (fuel : Nat) (listed : Array Bool) (a : Act) (w : World), wpAnyG P ops Q G fuel listed a w → wpAnyG P ops Q G' fuel listed a w
 | 0, _, _, _, h => h
 | fuel + 1, _, _, _, h => ⟨h.1, fun i hi => wpOp_mono (fun a' w' h' => ⟨hG _ _ h'.1, wpAnyG_weaken hG fuel _ a' w' h'.2⟩) (h.2 i hi)⟩
theorem wpAnyG_done {listed : Array Bool} {a : Act} {w : World} (hr : Region.ready .any ops listed = []) (h : Q .normal a w) : ∀ fuel, wpAnyG P ops Q G fuel listed a w
 | 0 => ⟨hr, h⟩
 | _ + 1 => ⟨fun _ => h, by rw [hr]; simp⟩
end orders
theorem slotsOf_eq (l : List Operand) : slotsOf l = l.filterMap fun | .tmp t => some t | _ => none := by
 induction l with
 | nil => rfl
 | cons x xs ih => cases x <;> simp [slotsOf, ih]
theorem looksAt_eq (ops : Array Oper) (o : Oper) : looksAt ops o = o.looksAt ops := by
 unfold looksAt Oper.looksAt
 rw [slotsOf_eq]
 rfl
theorem beq_ne {a b : Nat} (h : (!(Nat.beq a b)) = true) : a ≠ b := by
 rintro rfl
 rw [Nat.beq_refl] at h
 cases h
theorem apartOk_apart {ops : Array Oper} {x y : Oper} (h : apartOk ops x y = true) : x.apart ops y = true := by
 unfold apartOk at h
 unfold Oper.apart
 rw [looksAt_eq, looksAt_eq] at h
 have hh : ∀ (d : Nat) (l : List Nat), (!(has d l)) = true → (!l.contains d) = true := by
  intro d l h
  rw [Bool.not_eq_true', Bool.eq_false_iff] at h ⊢
  intro h'
  exact h (has_mem.2 (by simpa using h'))
 cases hx : x.dst with
 | none =>
  cases hy : y.dst with
  | none => simp
  | some e =>
   rw [hx, hy] at h
   simp only [Bool.true_and] at h ⊢
   exact hh _ _ h
 | some d =>
  cases hy : y.dst with
  | none =>
   rw [hx, hy] at h
   simp only [Bool.and_true] at h ⊢
   simp only [Bool.and_eq_true]
   exact ⟨hh _ _ h, by simp⟩
  | some e =>
   rw [hx, hy] at h
   simp only [Bool.and_eq_true] at h ⊢
   exact ⟨⟨hh _ _ h.1.1, by have := beq_ne h.1.2; simpa using this⟩, hh _ _ h.2⟩
theorem freeNow_spec {ops : Array Oper} {listed : Array Bool} {i : Nat} {oi : Oper} (hi : ops[i]? = some oi) (h : freeNow ops listed i = true) (j : Nat) (oj : Oper)
  (hj : ops[j]? = some oj) (hne : j ≠ i) (hun : listed.getD j true = false) (hno : ∀ e ∈ oj.after, Region.binds .any e = true → e.on ≠ i) : oi.apart ops oj = true := by
 simp only [freeNow, hi, List.all_eq_true, List.mem_range] at h
 have h1 := h j (Array.getElem?_eq_some_iff.1 hj).1
 simp only [hj, hun, Bool.or_false, Bool.or_eq_true] at h1
 rcases h1 with h1 | h1 | h1
 ·exact absurd (Nat.eq_of_beq_eq_true h1) hne
 ·obtain ⟨e, he, hb⟩ := Array.any_eq_true'.1 h1
  simp only [Bool.and_eq_true] at hb
  exact absurd (Nat.eq_of_beq_eq_true hb.2) (hno e he hb.1)
 ·exact apartOk_apart h1
theorem noSelect_at {ops : List Oper} (h : noSelect ops = true) : ∀ (j : Nat) (o : Oper) cs b, ops[j]? = some o → o.op ≠ .select cs b := by
 induction ops with
 | nil => intro j o cs b ho; simp at ho
 | cons x xs ih =>
  intro j o cs b ho
  simp only [noSelect, Bool.and_eq_true] at h
  cases j with
  | zero =>
   simp only [List.getElem?_cons_zero, Option.some.injEq] at ho
   subst ho
   intro heq
   rw [heq] at h
   exact absurd h.1 (by simp)
  | succ j => simp only [List.getElem?_cons_succ] at ho; exact ih h.2 j o cs b ho
mutual
theorem ren_same {n : Nat} : ∀ v : SV, (∀ j ∈ namesOf v, j < n) → renS (rn n []) v = v
 | .int _ _, _ | .bool _, _ | .str _, _ | .nilp, _ | .nilsl, _ | .nilf, _ | .nili, _ | .nilm, _ => by simp [renS]
 | .ptr j off, h => by simp [renS, rn, show Nat.blt j n = true from Nat.ble_eq_true_of_le (h j (by simp [namesOf]))]
 | .ept j sz i off, h => by simp [renS, rn, show Nat.blt j n = true from Nat.ble_eq_true_of_le (h j (by simp [namesOf]))]
 | .mp j, h => by simp [renS, rn, show Nat.blt j n = true from Nat.ble_eq_true_of_le (h j (by simp [namesOf]))]
 | .osl j, h => by simp [renS, rn, show Nat.blt j n = true from Nat.ble_eq_true_of_le (h j (by simp [namesOf]))]
 | .sl j sz ch m, h => by simp [renS, rn, show Nat.blt j n = true from Nat.ble_eq_true_of_le (h j (by simp [namesOf]))]
 | .csl j m, h => by simp [renS, rn, show Nat.blt j n = true from Nat.ble_eq_true_of_le (h j (by simp [namesOf]))]
 | .clo f cs, h => by simp only [renS]; rw [renL_same cs (by simpa [namesOf] using h)]
 | .iface t v, h => by simp only [renS]; rw [ren_same v (by simpa [namesOf] using h)]
 | .agg cs, h => by simp only [renS]; rw [renL_same cs (by simpa [namesOf] using h)]
 | .tup cs, h => by simp only [renS]; rw [renL_same cs (by simpa [namesOf] using h)]
theorem renL_same {n : Nat} : ∀ vs : List SV, (∀ j ∈ namesL vs, j < n) → renL (rn n []) vs = vs
 | [], _ => by simp [renL]
 | v :: vs, h => by
  simp only [renL]
  rw [ren_same v (fun j hj => h j (by simp [namesL, hj])), renL_same vs (fun j hj => h j (by simp [namesL, hj]))]
end
theorem svLt_names {n : Nat} : ∀ {v : SV}, (∀ j ∈ namesOf v, j < n) → svLt n v = true := by
 intro v h
 have := (den_ren (fun _ => .pointer none) n [] v (fun j hj => .inl (h j hj))).2
 have e : ∀ v, (∀ j ∈ namesOf v, j < n) → renS (rn n []) v = v := fun v h => (ren_same v h)
 rw [e v h] at this
 simpa using this
theorem acts_quiet {Z : List Nat} {tab : Tab} {ops : Array Oper} {listed : Array Bool} {i : Nat} {o : Oper} (hi : ops[i]? = some o) (hq : isEff Z tab o = false) : acts Z tab ops (listed.setIfInBounds i true) = acts Z tab ops listed := by
 unfold acts
 congr 1
 funext e
 by_cases hie : i = e
 ·subst hie
  rw [hi]
  simp [hq]
 ·rw [getD_set_ne false hie]
theorem pend_quiet {Z : List Nat} {tab : Tab} {ops : Array Oper} {listed : Array Bool} {i : Nat} {o : Oper} (hi : ops[i]? = some o) (hq : isEff Z tab o = false) : pend Z tab ops (listed.setIfInBounds i true) = pend Z tab ops listed := by
 unfold pend gone; rw [acts_quiet hi hq]
theorem pendX_quiet {L : List Nat} {Z : List Nat} {tab : Tab} {ops : Array Oper} {listed : Array Bool} {i : Nat} {o : Oper} (hi : ops[i]? = some o) (hq : isEff Z tab o = false) : pendX L Z tab ops (listed.setIfInBounds i true) = pendX L Z tab ops listed := by
 unfold pendX gone; rw [acts_quiet hi hq]
theorem pendIn_mono {L L' : List Nat} {Z : List Nat} {tab : Tab} {ops : Array Oper} {G G' : List Nat} (hL : ∀ x, x ∈ L' → x ∈ L) (hG : ∀ x, x ∈ G' → x ∈ G) (h : pendIn L Z tab ops G = true) : pendIn L' Z tab ops G' = true := by
 unfold pendIn at h ⊢
 rw [List.any_eq_true] at h ⊢
 obtain ⟨l, hl, h⟩ := h
 simp only [Bool.and_eq_true, Bool.not_eq_true', Bool.eq_false_iff] at h ⊢
 exact ⟨l, hl, ⟨fun c => h.1.1 (has_mem.2 (hL l (has_mem.1 c))), h.1.2⟩, fun c => h.2 (has_mem.2 (hG l (has_mem.1 c)))⟩
theorem pendX_pend {L : List Nat} {Z : List Nat} {tab : Tab} {ops : Array Oper} {listed : Array Bool} (h : pendX L Z tab ops listed = true) : pend Z tab ops listed = true :=
 pendIn_mono (fun x hx => by cases hx) (fun x hx => hx) h
theorem anc1_mem {ops : Array Oper} {i : Nat} {A : List Nat} {x : Nat} : x ∈ anc1 ops i A ↔ x ∈ A ∨ (i ∈ A ∧ ∃ o, ops[i]? = some o ∧ x ∈ onsOf o) := by
  unfold anc1
  cases hA : has i A with
  | true =>
    have hm := has_mem.1 hA
    cases ho : ops[i]? with
    | none => simp
    | some o => simp only [List.mem_append]; constructor
                · rintro (h | h)
                  · exact .inr ⟨hm, o, rfl, h⟩
                  · exact .inl h
                · rintro (h | ⟨_, o', e, h⟩)
                  · exact .inr h
                  · cases e; exact .inl h
  | false =>
    have hm : ¬ i ∈ A := fun h => by rw [has_mem.2 h] at hA; cases hA
    simp [hm]
theorem ancs_mono {ops : Array Oper} : ∀ (n : Nat) {A B : List Nat}, (∀ x, x ∈ A → x ∈ B) → ∀ x, x ∈ ancs ops n A → x ∈ ancs ops n B
 | 0, _, _, h, x, hx => h x hx
 | n + 1, A, B, h, x, hx => by
  refine ancs_mono n ?_ x hx
  intro y hy
  rw [anc1_mem] at hy ⊢
  rcases hy with hy | ⟨h1, h2⟩
  ·exact .inl (h y hy)
  ·exact .inr ⟨h n h1, h2⟩
theorem acts_mono {Z : List Nat} {tab : Tab} {ops : Array Oper} {listed : Array Bool} {i : Nat} : ∀ x, x ∈ acts Z tab ops listed → x ∈ acts Z tab ops (listed.setIfInBounds i true) := by
 intro x hx
 unfold acts at hx ⊢
 rw [List.mem_filter] at hx ⊢
 refine ⟨hx.1, ?_⟩
 simp only [Bool.and_eq_true] at hx ⊢
 exact ⟨getD_set_true hx.2.1, hx.2.2⟩
theorem pend_back {Z : List Nat} {tab : Tab} {ops : Array Oper} {listed : Array Bool} {i : Nat} (hp : pend Z tab ops (listed.setIfInBounds i true) = true) : pend Z tab ops listed = true :=
 pendIn_mono (fun x hx => hx) (ancs_mono _ acts_mono) hp
theorem pendX_back {L : List Nat} {Z : List Nat} {tab : Tab} {ops : Array Oper} {listed : Array Bool} {i : Nat} (hp : pendX L Z tab ops (listed.setIfInBounds i true) = true) : pendX L Z tab ops listed = true :=
 pendIn_mono (fun x hx => hx) (ancs_mono _ acts_mono) hp
theorem ancs_listed {ops : Array Oper} {listed : Array Bool} (hc : Closed ops listed) : ∀ (n : Nat) {A : List Nat}, (∀ x, x ∈ A → listed.getD x false = true) → ∀ x, x ∈ ancs ops n A → listed.getD x false = true
 | 0, _, h, x, hx => h x hx
 | n + 1, A, h, x, hx => by
  refine ancs_listed hc n ?_ x hx
  intro y hy
  rw [anc1_mem] at hy
  rcases hy with hy | ⟨h1, o, ho, hy⟩
  ·exact h y hy
  ·unfold onsOf at hy
   rw [List.mem_map] at hy
   obtain ⟨ed, hed, rfl⟩ := hy
   rw [List.mem_filter] at hed
   exact hc n o ho (h n h1) ed (Array.mem_toList_iff.1 hed.1) hed.2
theorem pendIn_of_load {L : List Nat} {Z : List Nat} {tab : Tab} {ops : Array Oper} {listed : Array Bool} {i : Nat} {o : Oper} (hi : ops[i]? = some o) (hl : isLd Z tab o = true) (hc : Closed ops listed) (hun : listed.getD i true = false) (hL : has i L = false) : pendIn L Z tab ops (gone Z tab ops listed) = true := by
 unfold pendIn
 rw [List.any_eq_true]
 refine ⟨i, List.mem_range.2 (Array.getElem?_eq_some_iff.1 hi).1, ?_⟩
 rw [hi]
 simp only [hl, hL, Bool.not_false, Bool.true_and, Bool.and_eq_true, Bool.not_eq_true', Bool.eq_false_iff, true_and]
 intro hg
 have := ancs_listed hc ops.size (A := acts Z tab ops listed) (fun x hx => by
  unfold acts at hx
  rw [List.mem_filter, Bool.and_eq_true] at hx
  exact hx.2.1) i (has_mem.1 hg)
 rcases Nat.lt_or_ge i listed.size with h' | h'
 ·simp [h'] at hun this; rw [hun] at this; cases this
 ·simp [Array.getElem?_eq_none h'] at this
theorem pend_of_load {Z : List Nat} {tab : Tab} {ops : Array Oper} {listed : Array Bool} {i : Nat} {o : Oper} (hi : ops[i]? = some o) (hl : isLd Z tab o = true) (hc : Closed ops listed) (hun : listed.getD i true = false) : pend Z tab ops listed = true := pendIn_of_load hi hl hc hun rfl
theorem pendX_of_load {L : List Nat} {Z : List Nat} {tab : Tab} {ops : Array Oper} {listed : Array Bool} {i : Nat} {o : Oper} (hi : ops[i]? = some o) (hl : isLd Z tab o = true) (hc : Closed ops listed) (hun : listed.getD i true = false) (hL : has i L = false) : pendX L Z tab ops listed = true := pendIn_of_load hi hl hc hun hL
theorem lkp_envOut {ops : List Oper} {env : Env} {t : Nat} {v : SV} (h : lkp t (envOut ops env) = some v) : lkp t env = some v ∧ ∀ o ∈ ops, o.dst ≠ some t := by
 have hd : ∀ {env : Env}, lkp t (envOut ops env) = some v → ∀ o ∈ ops, o.dst ≠ some t := by
  intro env
  induction env with
  | nil => intro h; simp [envOut, lkp] at h
  | cons x xs ih =>
   obtain ⟨s, u⟩ := x
   intro h
   simp only [envOut] at h
   by_cases hc : (ops.any (isDst s)) = true
   ·rw [hc, cond_true] at h; exact ih h
   ·rw [Bool.not_eq_true] at hc
    rw [hc, cond_false, lkp_cons] at h
    split at h
    ·rename_i e; subst e
     intro o ho hos
     rw [← Bool.not_eq_true] at hc
     exact hc (List.any_eq_true.2 ⟨o, ho, by unfold isDst; rw [hos]; exact Nat.beq_refl _⟩)
    ·exact ih h
 refine ⟨?_, hd h⟩
 induction env with
 | nil => simp [envOut, lkp] at h
 | cons x xs ih =>
  obtain ⟨s, u⟩ := x
  have h0 := h
  simp only [envOut] at h
  rw [lkp_cons]
  by_cases hc : (ops.any (isDst s)) = true
  ·rw [hc, cond_true] at h
   have hne : ¬ s = t := by
    rintro rfl
    obtain ⟨o, ho, hos⟩ := List.any_eq_true.1 hc
    unfold isDst at hos
    split at hos
    ·rename_i d hdd
     have := Nat.eq_of_beq_eq_true hos
     subst this
     exact hd h0 o ho hdd
    ·cases hos
   rw [if_neg hne]
   exact ih h
  ·rw [Bool.not_eq_true] at hc
   rw [hc, cond_false, lkp_cons] at h
   split
   ·rename_i e; rw [if_pos e] at h; exact h
   ·rename_i e; rw [if_neg e] at h; exact ih h
section
variable {P : Program} {Z : List Nat} {tab : Tab} {T : Type} {cal : Cal T} {S : Bl} {w0 : World} {E : Entry} {n : Nat}
theorem Post.mono {K K' : Ex → Fr → St → O T} {res : O T} (h : ∀ e ν fr st a w, Good S w0 E n ν fr st a w → K e fr st = res → K' e fr st = res) :
  ∀ e a w, Post S w0 E n K res e a w → Post S w0 E n K' res e a w := by
 intro e a w hp
 cases e with
 | normal => obtain ⟨ν, fr, st, hg, hk⟩ := hp; exact ⟨ν, fr, st, hg, h _ _ _ _ _ _ hg hk⟩
 | exit id => obtain ⟨ν, fr, st, hg, hk⟩ := hp; exact ⟨ν, fr, st, hg, h _ _ _ _ _ _ hg hk⟩
 | ret => obtain ⟨ν, fr, st, hg, hk⟩ := hp; exact ⟨ν, fr, st, hg, h _ _ _ _ _ _ hg hk⟩
 | panic ch => obtain ⟨ν, fr, st, e, hg, hc, hk⟩ := hp; exact ⟨ν, fr, st, e, hg, hc, h _ _ _ _ _ _ hg hk⟩
 | goto l => exact hp
 | outgrown => exact hp
def PostD (S : Bl) (w0 : World) (E : Entry) (n : Nat) (d0 : Bool) (envP : Env) (K : Fr → St → O T) (Kp : PV → Fr → St → O T) (res : O T) : Exit → Act → World → Prop
 | .normal, a, w => ∃ ν fr st, Good S w0 E n ν fr (st.wash (d0 || st.dirty)) a w ∧ K fr st = res
 | .panic ch, a, w => ∃ ν fr st e, Good S w0 E n ν fr (st.wash (d0 || st.dirty)) a w ∧ fr.env = envP ∧ ch = panOf e ∧ Kp e fr st = res
 | _, _, _ => False
def GD (Z : List Nat) (tab : Tab) (ops : Array Oper) (L W : List Nat) (νs : Nat → Value) (sts : St) (ws : World) (listed : Array Bool) (w : World) : Prop :=
 (pendX L Z tab ops listed = true → ∀ b, b < ws.heap.size → w.heap[b]? = ws.heap[b]?) ∧
 (pend Z tab ops listed = true → ∀ j, has j W = true → j < sts.nx → ∀ b, νs j = .pointer (some ⟨b, 0, none⟩) → b < ws.heap.size → w.heap[b]? = ws.heap[b]?)
theorem GD.refl {Z : List Nat} {tab : Tab} {ops : Array Oper} {L W : List Nat} {νs : Nat → Value} {sts : St} {ws : World} {listed : Array Bool} : GD Z tab ops L W νs sts ws listed ws := ⟨fun _ _ _ => rfl, fun _ _ _ _ _ _ _ => rfl⟩
theorem has_iff {t : Nat} : ∀ {l : List Nat}, has t l = true ↔ t ∈ l
 | [] => by simp [has]
 | s :: r => by simp only [has, Bool.or_eq_true, List.mem_cons, has_iff]; constructor <;> rintro (h | h) <;> first | exact .inl (Nat.eq_of_beq_eq_true h).symm | exact .inr h | exact .inl (by subst h; exact Nat.beq_refl _)
theorem evA_store {sl : List Nat} {T : Type} {tab : Tab} {cal : Cal T} {W : List Nat} {o : Op} {env : Env} {st : St} (h : storeOk W o env st = true) {K : SV → St → O T} {Kp : PV → St → O T} (hne : evA tab cal sl o env st K Kp ≠ .no) :
  ∃ j o1, has j W = false ∧ W.all (cellsAt st.H) = true ∧ ∀ K' Kp', evA tab cal sl o env st K' Kp' = K' (.tup []) (st.put j o1) := by
 unfold storeOk at h
 split at h
 ·rename_i t a x
  split at h
  ·rename_i j off ha
   simp only [Bool.and_eq_true, Bool.not_eq_true'] at h
   simp only [evA, ha] at hne ⊢
   cases hk : lkp t tab with
   | none => rw [hk] at hne; exact absurd rfl hne
   | some k =>
    cases hx : ofOpd env x with
    | none => rw [hk, hx] at hne; exact absurd rfl hne
    | some v =>
     rw [hk, hx] at hne
     simp only at hne ⊢
     cases hj : lkp j st.H with
     | none => rw [hj] at hne; exact absurd rfl hne
     | some oj =>
      rw [hj] at hne
      cases oj with
      | row own e ls xs => exact absurd rfl hne
      | map t ka va kl vl es => exact absurd rfl hne
      | tab _ _ _ _ _ _ => exact absurd rfl hne
      | opn _ _ _ _ _ _ _ => exact absurd rfl hne
      | ghost => exact absurd rfl hne
      | cells T' vs =>
       simp only at hne ⊢
       by_cases hc : (Nat.beq v.cellsOf.length k.size && Nat.ble (off + k.size) vs.length && v.cellsOf.all isLeaf) = true
       ·refine ⟨j, .cells T' (setPart off v.cellsOf vs), h.1, h.2, fun K' Kp' => ?_⟩
        rw [hc, ifb_true]
       ·rw [Bool.not_eq_true] at hc; rw [hc] at hne; exact absurd rfl hne
  ·cases h
 ·cases h
theorem evStep_sound (hT : tabChk P tab = true) (hC : CalOk P cal) (d0 : Bool) {ops : Array Oper} {L W : List Nat} (hsel : noSelect ops.toList = true)
  {envP : Env} (hP : ∀ t v, lkp t envP = some v → ∀ o ∈ ops.toList, o.dst ≠ some t) {K : Fr → St → O T} {Kp : PV → Fr → St → O T} {res : O T} (hne : res ≠ .no) (i f : Nat) (listed : Array Bool) {R : List Nat → St → Fr → St → O T}
  (HR : ∀ (νs : Nat → Value) (sts : St) (ws : World), RelW S w0 νs sts ws → ∀ (sl : List Nat) (ν : Nat → Value) (fr : Fr) (st : St) (a : Act) (w : World), Good S w0 E n ν fr (st.wash (d0 || st.dirty)) a w → EnvOk ν n st.nx ⟨envP, fr.dfs, fr.base, []⟩ a → Step νs sts ws ν st w →
   GD Z tab ops L W νs sts ws (listed.setIfInBounds i true) w → R sl sts fr st = res → wpAnyG P ops (PostD S w0 E n d0 envP K Kp res) (GD Z tab ops L W νs sts ws) f (listed.setIfInBounds i true) a w)
  (νs : Nat → Value) (sts : St) (ws : World) (hRs : RelW S w0 νs sts ws) (sl : List Nat) (ν : Nat → Value) (fr : Fr) (st : St) (a : Act) (w : World) (hg : Good S w0 E n ν fr (st.wash (d0 || st.dirty)) a w) (hE' : EnvOk ν n st.nx ⟨envP, fr.dfs, fr.base, []⟩ a) (hst : Step νs sts ws ν st w)
  (hc : Closed ops listed) (hG : GD Z tab ops L W νs sts ws listed w) (hri : i ∈ Region.ready .any ops listed) {o : Oper} (hoi : ops[i]? = some o) (hfree : isEff Z tab o = false → freeNow ops listed i = true)
  (h : evStep Z tab cal L W n ops sts envP i listed sl fr st R Kp = res) :
  (isEff Z tab o = false ∧ wpAnyG P ops (PostD S w0 E n d0 envP K Kp res) (GD Z tab ops L W νs sts ws) (f + 1) listed a w) ∨
  (isEff Z tab o = true ∧ wpOp P ops (PostD S w0 E n d0 envP K Kp res) i (fun a' w' => GD Z tab ops L W νs sts ws (listed.setIfInBounds i true) w' ∧ wpAnyG P ops (PostD S w0 E n d0 envP K Kp res) (GD Z tab ops L W νs sts ws) f (listed.setIfInBounds i true) a' w') a w) := by
 unfold evStep at h
 rw [hoi] at h
 simp only at h
 have hmem : o ∈ ops.toList := by
  have := Array.getElem?_toList (xs := ops) (i := i)
  rw [hoi] at this
  exact List.mem_of_getElem? this
 by_cases hd : okDst n o.dst = true
 case neg => rw [Bool.not_eq_true] at hd; rw [hd] at h; exact absurd h.symm hne
 rw [hd, ifb_true] at h
 have hdst : ∀ t, o.dst = some t → t < n := by
  intro t ht
  rw [ht] at hd
  exact Nat.le_of_ble_eq_true hd
 have putP : ∀ (ν' : Nat → Value) (st' : St) (a' : Act) (v : Value), EnvOk ν' n st'.nx ⟨envP, fr.dfs, fr.base, []⟩ a' → EnvOk ν' n st'.nx ⟨envP, fr.dfs, fr.base, []⟩ (a'.put o.dst v) := by
  intro ν' st' a' v hE
  cases hod : o.dst with
  | none => exact hE
  | some d =>
   refine ⟨by simp [Act.put, hE.size], fun t u hu => ?_, hE.dfs, hE.dlt⟩
   have := hE.get t u hu
   refine ⟨?_, this.2⟩
   have hdt : d ≠ t := fun e => hP t u hu o hmem (e ▸ hod)
   simp [Act.put, hdt, this.1]
 have quiet : isEff Z tab o = false → ∀ sl fr' v, Good S w0 E n ν fr' (st.wash (d0 || st.dirty)) a w → fr'.dfs = fr.dfs → fr'.base = fr.base → svLt st.nx v = true → YieldsG P ops (GD Z tab ops L W νs sts ws) i o (den ν v) a →
   R sl sts (fr'.put o.dst v) st = res →
   (isEff Z tab o = false ∧ wpAnyG P ops (PostD S w0 E n d0 envP K Kp res) (GD Z tab ops L W νs sts ws) (f + 1) listed a w) ∨ (isEff Z tab o = true ∧ wpOp P ops (PostD S w0 E n d0 envP K Kp res) i (fun a' w' => GD Z tab ops L W νs sts ws (listed.setIfInBounds i true) w' ∧ wpAnyG P ops (PostD S w0 E n d0 envP K Kp res) (GD Z tab ops L W νs sts ws) f (listed.setIfInBounds i true) a' w') a w) := by
  intro hq sl fr' v hg' hdf hba hv hy hk
  refine .inl ⟨hq, ?_⟩
  have hr := hri
  have hGi : ∀ listed w, GD Z tab ops L W νs sts ws listed w ↔ GD Z tab ops L W νs sts ws (listed.setIfInBounds i true) w := by
   intro listed w
   unfold GD
   rw [pend_quiet hoi hq, pendX_quiet hoi hq]
  refine wpAnyG_first hoi (fun j o cs b hj => noSelect_at hsel j o cs b (by rw [Array.getElem?_toList]; exact hj)) ?_ hGi f listed a w (freeNow_spec hoi (hfree hq)) hr hc hy hG ?_
  ·intro ch a' w' hp
   obtain ⟨ν', fr'', st', e, hg'', hen, hch, hk'⟩ := hp
   refine ⟨ν', fr'', st', e, ⟨hg''.rel, ⟨?_, ?_, ?_, hg''.env.dlt⟩, hg''.frb, hg''.step⟩, hen, hch, hk'⟩
   ·have := hg''.env.size
    cases hod : o.dst <;> rw [hod] at this <;> simpa [Act.put] using this
   ·intro t u hu
    have hget := hg''.env.get t u hu
    refine ⟨?_, hget.2⟩
    rw [hen] at hu
    cases hod : o.dst with
    | none => rw [hod] at hget; exact hget.1
    | some d =>
     have hdt : d ≠ t := fun e => hP t u hu o hmem (e ▸ hod)
     rw [hod] at hget
     simpa [Act.put, Array.getElem?_setIfInBounds, hdt] using hget.1
   ·have := hg''.env.dfs
    cases hod : o.dst <;> rw [hod] at this <;> exact this
  ·refine HR νs sts ws hRs _ ν _ st _ w (hg'.put hdst hv) ?_ hst ((hGi _ _).1 hG) hk
   have := putP ν st a (den ν v) hE'
   have e1 : (fr'.put o.dst v).dfs = fr.dfs := by cases o.dst <;> exact hdf
   have e2 : (fr'.put o.dst v).base = fr.base := by cases o.dst <;> exact hba
   rw [e1, e2]
   exact this
 have run : ∀ (sl0 : List Nat) (sl : SV → List Nat) fr', Good S w0 E n ν fr' (st.wash (d0 || st.dirty)) a w → fr'.dfs = fr.dfs → fr'.base = fr.base → Region.wanted o (yielded ops a.tmps) = true →
   doD Z tab cal sl0 L W ops sts envP i o listed fr' st (fun v sts st => R (sl v) sts (fr'.put o.dst v) st) Kp = res →
   (isEff Z tab o = false ∧ wpAnyG P ops (PostD S w0 E n d0 envP K Kp res) (GD Z tab ops L W νs sts ws) (f + 1) listed a w) ∨ (isEff Z tab o = true ∧ wpOp P ops (PostD S w0 E n d0 envP K Kp res) i (fun a' w' => GD Z tab ops L W νs sts ws (listed.setIfInBounds i true) w' ∧ wpAnyG P ops (PostD S w0 E n d0 envP K Kp res) (GD Z tab ops L W νs sts ws) f (listed.setIfInBounds i true) a' w') a w) := by
  intro sl0 sl fr' hg' hdf hba hw hk
  unfold doD at hk
  by_cases hq : isQ tab o.op = true
  ·rw [hq, ifb_true] at hk
   obtain ⟨v, hk', hv, hrun⟩ := evQ_run (P := P) hT (H := st.H) hg'.rel.facts hg'.env o hk hne
   exact quiet (by simp [isEff, hq]) _ fr' v hg' hdf hba hv (.inl ⟨hw, fun _ w' _ _ _ => hrun w'⟩) hk'
  ·rw [Bool.not_eq_true] at hq
   rw [hq, ifb_false] at hk
   by_cases hz : isLd Z tab o = true
   ·have hl : isLoad tab o.op = true := by unfold isLd at hz; rw [Bool.and_eq_true] at hz; exact hz.1
    rw [hz, ifb_true] at hk
    obtain ⟨j, v, o', hk0, hv, hj, hrun⟩ := evLoad_run (P := P) (ν := νs) (st := sts) (w := ws) (fr := fr') (a := a) hT (fun x v hx hin => by
     rw [(ofOpd_den hg'.env hx).1]
     exact (den_congr hst.agree v (svLt_names fun j hj => by obtain ⟨q, hq⟩ := hin j hj; exact (hRs.lt j q hq).1)).symm) hRs o hl hk hne
    by_cases hLW : (!(has i L) || (has j W && cellsAt sts.H j)) = true
    ·simp only at hk0
     rw [hLW, ifb_true] at hk0
     refine quiet (by simp [isEff, hz]) _ fr' v hg' hdf hba (svLt_mono hst.nx v hv) (.inl ⟨hw, fun listed' w' hc' hun hG' => ?_⟩) hk0
     have := hrun w' (fun b hb hon => by
      by_cases hL : has i L = true
      ·rw [hL, Bool.not_true, Bool.false_or, Bool.and_eq_true] at hLW
       obtain ⟨h1, h2⟩ := hLW
       unfold cellsAt at h2
       rw [hj] at h2
       cases o' with
       | row own e ls xs => cases h2
       | map t ka va kl vl es => cases h2
       | tab _ _ _ _ _ _ => cases h2
       | opn _ _ _ _ _ _ _ => cases h2
       | ghost => cases h2
       | cells T' vs =>
        obtain ⟨b', hb', _⟩ := hRs.sat j _ hj
        simp [mineL, seenL, hb', blk] at hon
        subst hon
        exact hG'.2 (pend_of_load hoi hz hc' hun) j h1 (hRs.lt j _ hj).1 _ hb' hb
      ·rw [Bool.not_eq_true] at hL
       exact hG'.1 (pendX_of_load hoi hz hc' hun hL) b hb)
     rw [den_congr hst.agree v hv] at this
     exact this
    ·rw [Bool.not_eq_true] at hLW
     simp only at hk0
     rw [hLW] at hk0
     exact absurd hk0.symm hne
   ·rw [Bool.not_eq_true] at hz
    rw [hz, ifb_false] at hk
    have heff : isEff Z tab o = true := by simp [isEff, hq, hz]
    by_cases hl : (isLoad tab o.op && !openAt tab o.op fr'.env st.H) = true
    ·rw [hl, ifb_true] at hk
     obtain ⟨j, v, o', hk0, hv, hj, hrun⟩ := evLoad_run (P := P) (ν := ν) (st := st) (w := w) (fr := fr') (a := a) hT (fun x v hx hin => (ofOpd_den hg'.env hx).1) (hg'.rel.wash st.dirty) o (by simp only [Bool.and_eq_true] at hl; exact hl.1) hk hne
     refine .inr ⟨heff, ?_⟩
     unfold Go.wpOp
     rw [hoi]
     simp only [hw, if_true]
     refine .inl ?_
     have hG1 : GD Z tab ops L W νs sts ws (listed.setIfInBounds i true) w := ⟨fun hp => hG.1 (pendX_back hp), fun hp => hG.2 (pend_back hp)⟩
     refine wp_value (hrun w (fun b _ _ => rfl)) ⟨hG1, ?_⟩
     refine HR νs sts ws hRs _ ν _ st _ w (hg'.put hdst hv) ?_ hst hG1 hk0
     have := putP ν st a (den ν v) hE'
     have e1 : (fr'.put o.dst v).dfs = fr.dfs := by cases o.dst <;> exact hdf
     have e2 : (fr'.put o.dst v).base = fr.base := by cases o.dst <;> exact hba
     rw [e1, e2]
     exact this
    rw [Bool.not_eq_true] at hl
    rw [hl, ifb_false] at hk
    refine .inr ⟨heff, ?_⟩
    unfold Go.wpOp
    rw [hoi]
    simp only [hw, if_true]
    refine .inl ?_
    have step : ∀ ν' st' v w', RelW S w0 ν' st' w' → Step ν st w ν' st' w' → svLt st'.nx v = true →
      ifb (pend Z tab ops (listed.setIfInBounds i true)) (ifb st'.dirty (ifb (!(pendX L Z tab ops (listed.setIfInBounds i true)) && storeOk W o.op fr'.env st) (R (sl v) sts (fr'.put o.dst v) st') .no)
       (R (sl v) st' (fr'.put o.dst v) st')) (R (sl v) sts (fr'.put o.dst v) st') = res →
      (st'.dirty = true → storeOk W o.op fr'.env st = true → ∃ j o1, has j W = false ∧ W.all (cellsAt st.H) = true ∧ st' = st.put j o1) →
      GD Z tab ops L W νs sts ws (listed.setIfInBounds i true) w' ∧ wpAnyG P ops (PostD S w0 E n d0 envP K Kp res) (GD Z tab ops L W νs sts ws) f (listed.setIfInBounds i true) (a.put o.dst (den ν' v)) w' := by
     intro ν' st' v w' hR hs hv hk' hput
     have hst' := hst.trans hs
     have hcont : GD Z tab ops L W νs sts ws (listed.setIfInBounds i true) w' ∧ ∃ νs1 sts1 ws1, RelW S w0 νs1 sts1 ws1 ∧ Step νs1 sts1 ws1 ν' st' w' ∧ GD Z tab ops L W νs1 sts1 ws1 (listed.setIfInBounds i true) w' ∧
       (∀ l u, GD Z tab ops L W νs1 sts1 ws1 l u → GD Z tab ops L W νs sts ws l u) ∧ R (sl v) sts1 (fr'.put o.dst v) st' = res := by
      by_cases hp : pend Z tab ops (listed.setIfInBounds i true) = true
      ·rw [hp, ifb_true] at hk'
       cases hv' : st'.dirty with
       | false =>
        rw [hv', ifb_false] at hk'
        refine ⟨⟨fun _ => hst'.same hv', fun _ j _ _ b _ hb => hst'.same hv' b hb⟩, ν', st', w', hR, Step.refl _ _ _, GD.refl, fun l u h => ⟨fun hp b hb => ?_, fun hp j hjW hjn b hνb hb => ?_⟩, hk'⟩
        ·rw [h.1 hp b (Nat.lt_of_lt_of_le hb hst'.size)]
         exact hst'.same hv' b hb
        ·rw [h.2 hp j hjW (Nat.lt_of_lt_of_le hjn hst'.nx) b (by rw [← hst'.agree j hjn]; exact hνb) (Nat.lt_of_lt_of_le hb hst'.size)]
         exact hst'.same hv' b hb
       | true =>
        rw [hv', ifb_true] at hk'
        by_cases hok : (!(pendX L Z tab ops (listed.setIfInBounds i true)) && storeOk W o.op fr'.env st) = true
        ·rw [hok, ifb_true] at hk'
         simp only [Bool.and_eq_true, Bool.not_eq_true'] at hok
         obtain ⟨j1, o1, hj1, hall, rfl⟩ := hput hv' hok.2
         have hG' : GD Z tab ops L W νs sts ws (listed.setIfInBounds i true) w' := by
          refine ⟨fun h => (by rw [hok.1] at h; cases h), fun hp j hjW hjn b hνb hb => ?_⟩
          rw [← hG.2 (pend_back hp) j hjW hjn b hνb hb]
          have hcl := List.all_eq_true.1 hall j (has_iff.1 hjW)
          unfold cellsAt at hcl
          cases hlj : lkp j st.H with
          | none => rw [hlj] at hcl; cases hcl
          | some oj =>
           rw [hlj] at hcl
           cases oj with
           | row own e ls xs => cases hcl
           | map t ka va kl vl es => cases hcl
           | tab _ _ _ _ _ _ => cases hcl
           | opn _ _ _ _ _ _ _ => cases hcl
           | ghost => cases hcl
           | cells T' vs =>
            have hne1 : ¬ j1 = j := by rintro rfl; rw [hjW] at hj1; cases hj1
            have hlj' : lkp j (st.put j1 o1).H = some (.cells T' vs) := by
             show lkp j ((j1, o1) :: st.H) = _
             rw [lkp_cons, if_neg hne1]; exact hlj
            obtain ⟨b1, hb1, hc1⟩ := hg'.rel.sat j _ hlj
            obtain ⟨b2, hb2, hc2⟩ := hR.sat j _ hlj'
            have hjlt := (hg'.rel.lt j _ hlj)
            have e1 : b1 = b := by
             have := hst.agree j hjn
             rw [hνb, hb1] at this
             cases this; rfl
            have e2 : b2 = b1 := by
             have := hs.agree j hjlt.1
             rw [hb1, hb2] at this
             cases this; rfl
            subst e1 e2
            rw [hc1, hc2, denL_congr hs.agree vs hjlt.2]
         exact ⟨hG', νs, sts, ws, hRs, hst', hG', fun _ _ h => h, hk'⟩
        ·rw [Bool.not_eq_true] at hok; rw [hok] at hk'; exact absurd hk'.symm hne
      ·rw [Bool.not_eq_true] at hp
       rw [hp] at hk'
       have hpx : pendX L Z tab ops (listed.setIfInBounds i true) = false := by
        cases hx : pendX L Z tab ops (listed.setIfInBounds i true) with
        | false => rfl
        | true => rw [pendX_pend hx] at hp; cases hp
       have hG' : GD Z tab ops L W νs sts ws (listed.setIfInBounds i true) w' := ⟨fun h => (by rw [hpx] at h; cases h), fun h => (by rw [hp] at h; cases h)⟩
       exact ⟨hG', νs, sts, ws, hRs, hst', hG', fun _ _ h => h, hk'⟩
     obtain ⟨hc1, νs1, sts1, ws1, hR1, hs1, hG1, hmo, hk1⟩ := hcont
     refine ⟨hc1, wpAnyG_weaken hmo _ _ _ _ (HR νs1 sts1 ws1 hR1 _ ν' _ st' _ w' ((hg'.next (hR.wash _) (hs.wash d0)).put hdst hv) ?_ hs1 hG1 hk1)⟩
     have := putP ν' st' a (den ν' v) (hE'.mono hs.nx hs.agree)
     have e1 : (fr'.put o.dst v).dfs = fr.dfs := by cases o.dst <;> exact hdf
     have e2 : (fr'.put o.dst v).base = fr.base := by cases o.dst <;> exact hba
     rw [e1, e2]
     exact this
    have pstep : ∀ ν' st' e w', RelW S w0 ν' st' w' → Step ν st w ν' st' w' → Kp e ⟨envP, fr'.dfs, fr'.base, []⟩ st' = res → PostD S w0 E n d0 envP K Kp res (.panic (panOf e)) a w' := by
     intro ν' st' e w' hR hs hk'
     have hgn := hg'.next (hR.wash (d0 || st'.dirty)) (hs.wash d0)
     refine ⟨ν', ⟨envP, fr'.dfs, fr'.base, []⟩, st', e, ⟨hgn.rel, ?_, hgn.frb, hgn.step⟩, rfl, rfl, hk'⟩
     rw [hdf, hba]
     exact hE'.mono hs.nx hs.agree
    by_cases hst : storeOk W o.op fr'.env st = true
    ·obtain ⟨j1, o1, hj1, hall, heq⟩ := evA_store hst (by rw [hk]; exact hne)
     have hk2 := hk
     rw [heq] at hk2
     let K2 : SV → St → O T := fun v st' => @ite _ (st' = st.put j1 o1) (Classical.propDecidable _) (ifb (pend Z tab ops (listed.setIfInBounds i true)) (ifb st'.dirty (ifb (!(pendX L Z tab ops (listed.setIfInBounds i true)) && storeOk W o.op fr'.env st) (R (sl v) sts (fr'.put o.dst v) st') .no)
       (R (sl v) st' (fr'.put o.dst v) st')) (R (sl v) sts (fr'.put o.dst v) st')) .no
     have hk3 : evA tab cal sl0 o.op fr'.env st K2 (fun e st' => Kp e ⟨envP, fr'.dfs, fr'.base, []⟩ st') = res := by
      rw [heq]
      show K2 (.tup []) (st.put j1 o1) = res
      simp only [K2, if_pos]
      exact hk2
     refine evA_sound (st := st) hT hC (hg'.rel.wash st.dirty) hg'.env o hk3 hne ?_ ?_
     ·intro ν' st' v w' hR hs hv hk'
      by_cases e : st' = st.put j1 o1
      ·simp only [K2, if_pos e] at hk'
       exact step ν' st' v w' hR hs hv hk' (fun _ _ => ⟨j1, o1, hj1, hall, e⟩)
      ·simp only [K2, if_neg e] at hk'
       exact absurd hk'.symm hne
     ·intro ν' st' e w' hR hs hk'
      exact pstep ν' st' e w' hR hs hk'
    ·refine evA_sound (st := st) hT hC (hg'.rel.wash st.dirty) hg'.env o hk hne ?_ ?_
     ·intro ν' st' v w' hR hs hv hk'
      exact step ν' st' v w' hR hs hv hk' (fun _ h => absurd h hst)
     ·intro ν' st' e w' hR hs hk'
      exact pstep ν' st' e w' hR hs hk'
 have skip : ∀ sl fr', Good S w0 E n ν fr' (st.wash (d0 || st.dirty)) a w → fr'.dfs = fr.dfs → fr'.base = fr.base → Region.wanted o (yielded ops a.tmps) = false → R sl sts (fr'.put o.dst (.tup [])) st = res →
   (isEff Z tab o = false ∧ wpAnyG P ops (PostD S w0 E n d0 envP K Kp res) (GD Z tab ops L W νs sts ws) (f + 1) listed a w) ∨ (isEff Z tab o = true ∧ wpOp P ops (PostD S w0 E n d0 envP K Kp res) i (fun a' w' => GD Z tab ops L W νs sts ws (listed.setIfInBounds i true) w' ∧ wpAnyG P ops (PostD S w0 E n d0 envP K Kp res) (GD Z tab ops L W νs sts ws) f (listed.setIfInBounds i true) a' w') a w) := by
  intro sl fr' hg' hdf hba hwf hk
  have hu : den ν (.tup []) = undef := by simp [den, denL, undef]
  have hl : svLt st.nx (.tup []) = true := by simp [svLt, belowL]
  by_cases heff : isEff Z tab o = true
  ·refine .inr ⟨heff, ?_⟩
   unfold Go.wpOp
   rw [hoi]
   simp only [hwf, Bool.false_eq_true, if_false]
   have hG1 : GD Z tab ops L W νs sts ws (listed.setIfInBounds i true) w := by
    exact ⟨fun hp => hG.1 (pendX_back hp), fun hp => hG.2 (pend_back hp)⟩
   refine ⟨hG1, ?_⟩
   have hgp := hg'.put hdst hl
   rw [hu] at hgp
   refine HR νs sts ws hRs _ ν _ st _ w hgp ?_ hst hG1 hk
   have e1 : (fr'.put o.dst (.tup [])).dfs = fr.dfs := by cases o.dst <;> exact hdf
   have e2 : (fr'.put o.dst (.tup [])).base = fr.base := by cases o.dst <;> exact hba
   rw [e1, e2]
   exact putP ν st a undef hE'
  ·rw [Bool.not_eq_true] at heff
   exact quiet heff _ _ (.tup []) hg' hdf hba hl (.inr ⟨hwf, hu⟩) hk
 split at h
 ·rename_i hgd
  exact run _ (fun v => settle sl (fr.put o.dst v).env o) fr hg rfl rfl (wanted_none hgd) h
 ·rename_i j want hgd
  split at h
  ·rename_i d hdj
   split at h
   ·rename_i b hb
    have hbt := hg.env.get d _ hb
    have hy := yielded_of hdj hbt.1
    have hg' : Good S w0 E n ν (fr.put (some d) (.bool b)) (st.wash (d0 || st.dirty)) a w := by
     refine ⟨hg.rel, ⟨hg.env.size, ?_, hg.env.dfs, hg.env.dlt⟩, hg.frb, hg.step⟩
     intro t u hu
     simp only [Fr.put, lkp_cons] at hu
     split at hu
     ·rename_i e; subst e; cases hu; exact hbt
     ·exact hg.env.get t u hu
    have hw := wanted_some hgd hy
    rw [O.test_eq] at h
    cases b <;> cases want <;> simp only at h
    ·exact run _ (fun v => settle (d :: sl) ((fr.put (some d) (.bool false)).put o.dst v).env o) _ hg' rfl rfl (by rw [hw]; rfl) h
    ·exact skip _ _ hg' rfl rfl (by rw [hw]; rfl) h
    ·exact skip _ _ hg' rfl rfl (by rw [hw]; rfl) h
    ·exact run _ (fun v => settle (d :: sl) ((fr.put (some d) (.bool true)).put o.dst v).env o) _ hg' rfl rfl (by rw [hw]; rfl) h
   ·rename_i hb
    have hbt := hg.env.get d _ hb
    exact skip _ fr hg rfl rfl (wanted_not hgd (yielded_tup hdj hbt.1)) h
   ·exact absurd h.symm hne
  ·exact absurd h.symm hne
theorem otherOf_spec {Z : List Nat} {tab : Tab} {ops : Array Oper} {i j : Nat} {listed : Array Bool} (h : otherOf Z tab ops i listed = some j) : ∃ a b, readyNow ops listed = [a, b] ∧ ((a = i ∧ j = b) ∨ (b = i ∧ j = a)) := by
 unfold otherOf at h
 split at h
 ·split at h
  ·rename_i a b hr
   refine ⟨a, b, hr, ?_⟩
   by_cases h1 : Nat.beq a i = true
   ·rw [h1, cond_true] at h; cases h; exact .inl ⟨Nat.eq_of_beq_eq_true h1, rfl⟩
   ·rw [Bool.not_eq_true] at h1
    rw [h1, cond_false] at h
    by_cases h2 : Nat.beq b i = true
    ·rw [h2, cond_true] at h; cases h; exact .inr ⟨Nat.eq_of_beq_eq_true h2, rfl⟩
    ·rw [Bool.not_eq_true] at h2; rw [h2] at h; cases h
  ·cases h
 ·cases h
theorem evD_sound (hT : tabChk P tab = true) (hC : CalOk P cal) (d0 : Bool) {ops : Array Oper} {L W : List Nat} (hsel : noSelect ops.toList = true)
  {envP : Env} (hP : ∀ t v, lkp t envP = some v → ∀ o ∈ ops.toList, o.dst ≠ some t) {K : Fr → St → O T} {Kp : PV → Fr → St → O T} {res : O T} (hne : res ≠ .no) :
  ∀ (f : Nat) (order : List Nat) (νs : Nat → Value) (sts : St) (ws : World), RelW S w0 νs sts ws → ∀ (listed : Array Bool) (sl : List Nat) (ν : Nat → Value) (fr : Fr) (st : St) (a : Act) (w : World), Good S w0 E n ν fr (st.wash (d0 || st.dirty)) a w → EnvOk ν n st.nx ⟨envP, fr.dfs, fr.base, []⟩ a → Step νs sts ws ν st w →
   Closed ops listed → GD Z tab ops L W νs sts ws listed w → orderOk Z tab ops f order listed = true →
   evD Z tab cal L W n ops envP K Kp f order listed sl sts fr st = res →
   wpAnyG P ops (PostD S w0 E n d0 envP K Kp res) (GD Z tab ops L W νs sts ws) f listed a w := by
 intro f
 induction f with
 | zero =>
  intro order νs sts ws hRs listed sl ν fr st a w hg hE' hst hc hG ho h
  cases order with
  | nil =>
   refine wpAnyG_done ?_ ⟨ν, ⟨fr.env, fr.dfs, fr.base, sl⟩, st, ⟨hg.rel, ⟨hg.env.size, hg.env.get, hg.env.dfs, hg.env.dlt⟩, hg.frb, hg.step⟩, by simpa only [evD] using h⟩ _
   simp only [orderOk, List.isEmpty_iff] at ho
   exact ho
  | cons i c => simp [orderOk] at ho
 | succ f ih =>
  intro order νs sts ws hRs listed sl ν fr st a w hg hE' hst hc hG ho h
  cases order with
  | nil =>
   refine wpAnyG_done ?_ ⟨ν, ⟨fr.env, fr.dfs, fr.base, sl⟩, st, ⟨hg.rel, ⟨hg.env.size, hg.env.get, hg.env.dfs, hg.env.dlt⟩, hg.frb, hg.step⟩, by simpa only [evD] using h⟩ _
   simp only [orderOk, List.isEmpty_iff] at ho
   exact ho
  | cons i c =>
   simp only [orderOk] at ho
   cases hoi : ops[i]? with
   | none => rw [hoi] at ho; cases ho
   | some o =>
    rw [hoi] at ho
    simp only at ho
    have one : ∀ (i1 : Nat) (c1 : List Nat) (o1 : Oper), ops[i1]? = some o1 → i1 ∈ Region.ready .any ops listed → (isEff Z tab o1 = false → freeNow ops listed i1 = true) → orderOk Z tab ops f c1 (listed.setIfInBounds i1 true) = true →
      evStep Z tab cal L W n ops sts envP i1 listed sl fr st (evD Z tab cal L W n ops envP K Kp f c1 (listed.setIfInBounds i1 true)) Kp = res →
      (isEff Z tab o1 = false ∧ wpAnyG P ops (PostD S w0 E n d0 envP K Kp res) (GD Z tab ops L W νs sts ws) (f + 1) listed a w) ∨
      (isEff Z tab o1 = true ∧ wpOp P ops (PostD S w0 E n d0 envP K Kp res) i1 (fun a' w' => GD Z tab ops L W νs sts ws (listed.setIfInBounds i1 true) w' ∧ wpAnyG P ops (PostD S w0 E n d0 envP K Kp res) (GD Z tab ops L W νs sts ws) f (listed.setIfInBounds i1 true) a' w') a w) := by
     intro i1 c1 o1 ho1 hr1 hf1 hok1 hs1
     refine evStep_sound hT hC d0 hsel hP hne i1 f listed ?_ νs sts ws hRs sl ν fr st a w hg hE' hst hc hG hr1 ho1 hf1 hs1
     intro νs' sts' ws' hRs' sl' ν' fr' st' a' w' hg1 hE1 hst1 hG1 hk1
     exact ih c1 νs' sts' ws' hRs' _ sl' ν' fr' st' a' w' hg1 hE1 hst1 (hc.set hr1) hG1 hok1 hk1
    simp only [evD] at h
    by_cases heff : isEff Z tab o = true
    ·rw [heff, cond_true] at ho
     split at ho
     ·rename_i b hrb
      rw [Bool.and_eq_true] at ho
      have hb : b = i := Nat.eq_of_beq_eq_true ho.1
      subst hb
      have hno : otherOf Z tab ops b listed = none := by unfold otherOf; rw [hoi]; simp only [heff]; rw [hrb]
      rw [hno] at h
      have hr : Region.ready .any ops listed = [b] := hrb
      rcases one b c o hoi (by rw [hr]; simp) (fun e => by rw [heff] at e; cases e) ho.2 h with ⟨e, _⟩ | ⟨_, hw⟩
      ·rw [heff] at e; cases e
      ·refine wpAnyG_all hr (by simp) ?_
       intro i' hi'
       obtain rfl := List.mem_singleton.1 hi'
       exact hw
     ·rename_i b1 b2 hrb
      rw [Bool.and_eq_true] at ho
      cases hot : otherOf Z tab ops i listed with
      | none => rw [hot] at ho; cases ho.2
      | some j =>
       rw [hot] at ho h
       simp only [Bool.and_eq_true] at ho h
       obtain ⟨_, ⟨hpj, ho1⟩, ho2⟩ := ho
       cases hoj : ops[j]? with
       | none => rw [hoj] at hpj; cases hpj
       | some p =>
        rw [hoj] at hpj
        simp only at hpj
        obtain ⟨h1, h2⟩ := O.same_ne h hne
        obtain ⟨x, y, hxy, hcase⟩ := otherOf_spec hot
        have hr : Region.ready .any ops listed = [x, y] := hxy
        have hi : i ∈ Region.ready .any ops listed := by rw [hr]; rcases hcase with ⟨rfl, rfl⟩ | ⟨rfl, rfl⟩ <;> simp
        have hj : j ∈ Region.ready .any ops listed := by rw [hr]; rcases hcase with ⟨rfl, rfl⟩ | ⟨rfl, rfl⟩ <;> simp
        rcases one i c o hoi hi (fun e => by rw [heff] at e; cases e) ho1 h1 with ⟨e, _⟩ | ⟨_, hwi⟩
        ·rw [heff] at e; cases e
        ·rcases one j (fore Z tab ops f (listed.setIfInBounds j true) (i :: rid j c)) p hoj hj (fun e => by rw [hpj] at e; cases e) ho2 h2 with ⟨e, _⟩ | ⟨_, hwj⟩
         ·rw [hpj] at e; cases e
         ·refine wpAnyG_all hr (by simp) ?_
          intro i' hi'
          simp only [List.mem_cons, List.not_mem_nil, or_false] at hi'
          rcases hcase with ⟨rfl, rfl⟩ | ⟨rfl, rfl⟩ <;> rcases hi' with rfl | rfl <;> first | exact hwi | exact hwj
     ·cases ho
    ·rw [Bool.not_eq_true] at heff
     rw [heff, cond_false, Bool.and_eq_true, Bool.and_eq_true] at ho
     have hno : otherOf Z tab ops i listed = none := by unfold otherOf; rw [hoi]; simp only [heff]
     rw [hno] at h
     rcases one i c o hoi (has_mem.1 ho.1.2) (fun _ => ho.1.1) ho.2 h with ⟨_, hw⟩ | ⟨e, _⟩
     ·exact hw
     ·rw [heff] at e; cases e
theorem evD_region {sl0 L W : List Nat} (hT : tabChk P tab = true) (hC : CalOk P cal) (hM : P.follows .mixedOrders = true) {ops : Array Oper} {id : Nat} {order : List Nat} {res : O T} (hne : res ≠ .no)
  (ho : orderOk Z tab ops order.length order (Array.replicate ops.size false) = true) (hl : order.length = ops.size) (hsel : noSelect ops.toList = true) {K : Fr → St → O T} {Kp : PV → Fr → St → O T} {ν : Nat → Value} {fr : Fr} {st : St} {a : Act} {w : World} (hg : Good S w0 E n ν fr st a w)
  {K0 : Ex → Fr → St → O T} (hK : ∀ fr st', K fr st' = K0 .normal fr (st'.wash (st.dirty || st'.dirty))) (hKp : ∀ e fr st', Kp e fr st' = K0 (.panic e) fr (st'.wash (st.dirty || st'.dirty)))
  (h : evD Z tab cal L W n ops (envOut ops.toList fr.env) K Kp order.length order (Array.replicate ops.size false) sl0 (st.wash false) fr (st.wash false) = res) :
  (Code.region id ops true).wp P (Post S w0 E n K0 res) a w := by
 have hb : Below w.heap.size w w.drew := (Below.refl _ _).drew
 have hR := hg.rel.below hb
 have hs : Step ν st w ν st w.drew := Step.below ν st hb
 have hg' := hg.next hR hs
 have hwash : (st.wash false).wash (st.dirty || (st.wash false).dirty) = st := by cases st; simp [St.wash]
 refine wp_mono (wp_region_any hM (wpAny_of_G (G := GD Z tab ops L W ν (st.wash false) w.drew) (Q := PostD S w0 E n st.dirty (envOut ops.toList fr.env) K Kp res) _ _ _ _ ?_)) ?_
 ·have hP : ∀ t v, lkp t (envOut ops.toList fr.env) = some v → ∀ o ∈ ops.toList, o.dst ≠ some t := fun t v hv => (lkp_envOut hv).2
  refine evD_sound hT hC st.dirty hsel hP hne ops.size order _ _ _ (hR.wash false) _ _ ν fr (st.wash false) a w.drew (by rw [hwash]; exact hg') ⟨hg'.env.size, fun t v hv => hg'.env.get t v (lkp_envOut hv).1, hg'.env.dfs, hg'.env.dlt⟩ (Step.refl _ _ _) ?_ GD.refl (by rw [hl] at ho; exact ho) (by rw [hl] at h; exact h)
  intro e o _ he
  simp [Array.getElem?_replicate] at he
  split at he <;> cases he
 ·intro e a w hp
  cases e with
  | normal => obtain ⟨ν', fr', st', h1, h2⟩ := hp; exact ⟨ν', fr', _, h1, by rw [← hK]; exact h2⟩
  | panic ch => obtain ⟨ν', fr', st', e, h1, _, h3, h5⟩ := hp; exact ⟨ν', fr', _, e, h1, h3, by rw [← hKp]; exact h5⟩
  | exit id => exact hp.elim
  | ret => exact hp.elim
  | goto l => exact hp.elim
  | outgrown => exact hp.elim
end
end Go.Aq
end
section
namespace Go.Aq
open Go.RowKit (Below)
set_option linter.unusedVariables false
section
variable {P : Program} {tab : Tab} {T : Type} {cal : Cal T} {S : Bl} {w0 : World} {E : Entry} {n : Nat}
theorem ev_sound (hT : tabChk P tab = true) (hC : CalOk P cal) (hM : P.follows .mixedOrders = true) (nt : Notes) (k : Nat) {res : O T} (hne : res ≠ .no) : ∀ (c : Code) (K : Ex → Fr → St → O T) (ν : Nat → Value) (fr : Fr) (st : St) (a : Act) (w : World),
  Good S w0 E n ν fr st a w → ev tab cal n nt k c fr st K = res → c.wp P (Post S w0 E n K res) a w := by
 intro c
 induction c with
 | skip => intro K ν fr st a w hg h; exact wp_skip ⟨ν, fr, st, hg, h⟩
 | region id ops draw =>
  intro K ν fr st a w hg h
  cases draw with
  | true =>
   simp only [ev] at h
   split at h
   ·rename_i order _
    by_cases hc : (orderOk (keepsOf id nt).2.2 tab ops order.length order (Array.replicate ops.size false) && Nat.beq order.length ops.size && noSelect ops.toList) = true
    ·rw [hc, ifb_true] at h
     simp only [Bool.and_eq_true] at hc
     exact evD_region hT hC hM hne hc.1.1 (Nat.eq_of_beq_eq_true hc.1.2) hc.2 hg (fun _ _ => rfl) (fun _ _ _ => rfl) h
    ·rw [Bool.not_eq_true] at hc; rw [hc] at h; exact absurd h.symm hne
   ·exact absurd h.symm hne
  | false =>
   have := evOps_sound (P := P) (S := S) (w0 := w0) (E := E) (n := n) hT hC (ops := ops) hne ops.toList fr.sl 0 rfl ν fr st a w hg h
   rw [show List.range' 0 ops.toList.length = List.range ops.size by simp [List.range_eq_range']] at this
   refine wp_mono (wp_region this) ?_
   refine Post.mono ?_
   intro e ν fr st a w _ hk
   cases e <;> first | exact hk | exact absurd hk.symm hne
 | seq x y ihx ihy =>
  intro K ν fr st a w hg h
  refine wp_seq (wp_mono (ihx _ ν fr st a w hg h) ?_)
  intro e a' w' hp
  cases e with
  | normal =>
   obtain ⟨ν', fr', st', hg', hk⟩ := hp
   simp only [seqK] at hk
   split at hk
   ·exact ihy K ν' fr' st' a' w' hg' hk
   ·obtain ⟨ν'', fr'', st'', hg'', hk'⟩ := cutTo_sound hk hne hg'
    rw [hide_eq] at hk'
    exact ihy K ν'' fr'' st'' a' w' hg'' hk'
  | exit id => exact hp
  | ret => exact hp
  | panic ch => exact hp
  | goto l => exact hp
  | outgrown => exact hp
 | cond c x y ihx ihy =>
  intro K ν fr st a w hg h
  simp only [ev] at h
  split at h
  ·rename_i t hc
   have hd := ofOpd_den hg.env hc
   refine wp_cond (t := t) (by rw [hd.1]; simp [den]) ?_
   rw [O.test_eq] at h
   cases t
   ·exact ihy K ν fr st a w hg h
   ·exact ihx K ν fr st a w hg h
  ·exact absurd h.symm hne
 | block id x ih =>
  intro K ν fr st a w hg h
  refine wp_block (wp_mono (ih _ ν fr st a w hg h) ?_)
  intro e a' w' hp
  cases e with
  | exit id' =>
   obtain ⟨ν', fr', st', hg', hk⟩ := hp
   simp only [Exit.inBlock]
   simp only [blockK] at hk
   by_cases e : id' = id
   ·subst e
    rw [if_pos rfl]
    rw [Nat.beq_refl] at hk
    exact ⟨ν', fr', st', hg', hk⟩
   ·rw [if_neg e]
    rw [show Nat.beq id' id = false from Bool.eq_false_iff.2 fun e' => e (Nat.eq_of_beq_eq_true e')] at hk
    exact ⟨ν', fr', st', hg', hk⟩
  | normal => exact hp
  | ret => exact hp
  | panic ch => exact hp
  | goto l => exact hp
  | outgrown => exact hp
 | loop x ih =>
  intro K ν fr st a w hg h
  simp only [ev] at h
  split at h
  ·rename_i m _
   refine wp_loop_ghost (fun m a w => ∃ ν fr st, Good S w0 E n ν fr st a w ∧ evTurns (fun fr st K => ev tab cal n nt k x fr st K) K m fr st = res) m ⟨ν, fr, st, hg, h⟩ ?_
   intro m a w ⟨ν, fr, st, hg, hk⟩
   cases m with
   | zero => exact absurd hk.symm hne
   | succ m =>
    simp only [evTurns] at hk
    refine wp_mono (ih _ ν fr st a w hg hk) ?_
    intro e a' w' hp
    cases e with
    | normal =>
     obtain ⟨ν', fr', st', hg', hk'⟩ := hp
     exact ⟨m, Nat.lt_succ_self m, ν', fr', st', hg', hk'⟩
    | exit id => exact hp
    | ret => exact hp
    | panic ch => exact hp
    | goto l => exact hp
    | outgrown => exact hp
  ·split at h
   ·rename_i c _
    obtain ⟨ν0, fr0, st0, hg0, hk0⟩ := cutTo_sound h hne hg
    refine wp_loop_ghost (fun m a w => ∃ ν fr st, Good S w0 E n ν fr st a w ∧ evLoop (fun fr st K => ev tab cal n nt k x fr st K) c K m fr st = res) k ⟨ν0, fr0, st0, hg0, hk0⟩ ?_
    intro m a w ⟨ν, fr, st, hg, hk⟩
    cases m with
    | zero => exact absurd hk.symm hne
    | succ m =>
     simp only [evLoop] at hk
     refine wp_mono (ih _ ν fr st a w hg hk) ?_
     intro e a' w' hp
     cases e with
     | normal =>
      obtain ⟨ν', fr', st', hg', hk'⟩ := hp
      obtain ⟨ν'', fr'', st'', hg'', hk''⟩ := cutTo_sound hk' hne hg'
      exact ⟨m, Nat.lt_succ_self m, ν'', fr'', st'', hg'', hk''⟩
     | exit id => exact hp
     | ret => exact hp
     | panic ch => exact hp
     | goto l => exact hp
     | outgrown => exact hp
   ·exact absurd h.symm hne
 | exit id => intro K ν fr st a w hg h; exact wp_exit ⟨ν, fr, st, hg, h⟩
 | ret => intro K ν fr st a w hg h; exact wp_ret ⟨ν, fr, st, hg, h⟩
 | rangeFunc f ps x y _ _ => intro K ν fr st a w hg h; exact absurd h.symm hne
 | scope x _ => intro K ν fr st a w hg h; exact absurd h.symm hne
 | label l => intro K ν fr st a w hg h; exact absurd h.symm hne
 | goto l => intro K ν fr st a w hg h; exact absurd h.symm hne
 | refuse why => intro K ν fr st a w hg h; exact absurd h.symm hne
theorem argEnv_get (ν : Nat → Value) (nx : Nat) : ∀ (args : List SV) (i : Nat), belowL nx args = true → ∀ (pre : List Value), pre.length = i → ∀ (m : Nat) (t : Nat) (v : SV), lkp t (argEnv args i) = some v →
  ((pre ++ denL ν args).toArray ++ Array.replicate m undef)[t]? = some (den ν v) ∧ svLt nx v = true
 | [], i, _, pre, _, m, t, v, h => by simp [argEnv, lkp] at h
 | x :: xs, i, hb, pre, hp, m, t, v, h => by
  simp only [argEnv, lkp_cons] at h
  simp only [belowL, Bool.and_eq_true] at hb
  split at h
  ·rename_i e; subst e; cases h
   refine ⟨?_, hb.1⟩
   rw [Array.getElem?_append_left (by simp [denL, hp])]
   simp [denL, ← hp]
  ·have := argEnv_get ν nx xs (i + 1) hb.2 (pre ++ [den ν x]) (by simp [hp]) m t v h
   simpa [denL] using this
def resOne (tmps : Array Value) : ResultVar → Sem Value
 | .tmp t => pure (tmps.getD t undef)
 | .cell x t => do loadVar t (← asAddr (tmps.getD x undef))
theorem results_eq (fn : Func) (tmps : Array Value) : results fn tmps = (do let vs ← fn.results.mapM (resOne tmps); pure (if h : vs.size = 1 then vs[0] else .tuple vs)) := rfl
theorem resVals_run (hT : tabChk P tab = true) {ν : Nat → Value} {fr : Fr} {st : St} {a : Act} {w : World} (hg : Good S w0 E n ν fr st a w) : ∀ {rs : List ResultVar} {vs : List SV}, resVals tab fr st rs = some vs →
  (rs.mapM (resOne a.tmps)).run P w = .ok (denL ν vs) w ∧ belowL st.nx vs = true
 | [], vs, h => by cases h; simp [denL, belowL]
 | .tmp t :: rs, vs, h => by
  simp only [resVals] at h
  split at h
  ·rename_i v hv
   split at h
   ·rename_i vs' hvs
    cases h
    have ih := resVals_run hT hg hvs
    have hd := hg.env.get t v hv
    have hone : (resOne a.tmps (.tmp t)).run P w = .ok (den ν v) w := by simp [resOne, Array.getD_eq_getD_getElem?, hd.1]
    simp only [List.mapM_cons, Sem.run_bind, Sem.run_pure, Result.andThen_ok, hone, ih.1, denL, belowL, ih.2, hd.2, Bool.and_self, and_self]
   ·cases h
  ·cases h
 | .cell x t :: rs, vs, h => by
  simp only [resVals] at h
  split at h
  ·rename_i j off k hx hk
   split at h
   ·rename_i T' cs hj
    split at h
    ·rename_i v hv
     split at h
     ·rename_i vs' hvs
      cases h
      have ih := resVals_run hT hg hvs
      have hd := hg.env.get x _ hx
      obtain ⟨b, hb, hc⟩ := hg.rel.sat j _ hj
      have hlt : belowL st.nx cs = true := (hg.rel.lt j _ hj).2
      have hl := run_loadVar (P := P) (tyOk hT hk) hc hv
      have hv' := partOf_lt hlt hv
      have hget : a.tmps.getD x undef = .pointer (some ⟨b, off, none⟩) := by simp [Array.getD_eq_getD_getElem?, hd.1, den, hb, blk]
      have hone : (resOne a.tmps (.cell x t)).run P w = .ok (den ν v) w := by simp only [resOne, hget, asAddr, Sem.run_bind, Sem.run_pure, Result.andThen_ok, hl]
      simp only [List.mapM_cons, Sem.run_bind, Sem.run_pure, Result.andThen_ok, hone, ih.1, denL, belowL, ih.2, hv', Bool.and_self, and_self]
     ·cases h
    ·cases h
   ·cases h
  ·cases h
theorem results_run (hT : tabChk P tab = true) {ν : Nat → Value} {fr : Fr} {st : St} {a : Act} {w : World} (hg : Good S w0 E n ν fr st a w) {fn : Func} {vs : List SV} (h : resVals tab fr st fn.results.toList = some vs) :
  (results fn a.tmps).run P w = .ok (den ν (resVal vs)) w ∧ svLt st.nx (resVal vs) = true := by
 have hr := resVals_run (P := P) hT hg h
 constructor
 ·rw [results_eq]
  simp only [Sem.run_bind]
  rw [← Array.toArray_toList (xs := fn.results)]
  rw [List.mapM_toArray]
  simp only [Sem.run_map, hr.1, Result.andThen_ok, Sem.run_pure]
  clear hr h
  congr 1
  match vs with
  | [] => simp [denL, resVal, den]
  | [v] => simp [denL, resVal]
  | v :: u :: vs => simp [denL, resVal, den]
 ·match vs, hr.2 with
  | [], _ => simp [resVal, svLt, belowL]
  | [v], h => simpa [resVal, belowL] using h
  | v :: u :: vs, h => simpa only [resVal, svLt] using h
def CalPostB {T : Type} (b : Nat) (S : Bl) (w0 : World) (ν : Nat → Value) (st : St) (w : World) (K : SV → St → O T) (Kp : PV → St → O T) (res : O T) : Ending → World → Prop
 | .returned v, w' => ∃ ν' st' r, RelW S w0 ν' st' w' ∧ Step ν ⟨b, st.dirty, []⟩ w ν' st' w' ∧ v = den ν' r ∧ svLt st'.nx r = true ∧ K r st' = res
 | .panicked ch, w' => ∃ ν' st' e, RelW S w0 ν' st' w' ∧ Step ν ⟨b, st.dirty, []⟩ w ν' st' w' ∧ ch = panOf e ∧ Kp e st' = res
 | .outgrown, _ => False
theorem evFn_sound {sl : List Nat} {b : Nat} (hT : tabChk P tab = true) (hC : CalOk P cal) (hM : P.follows .mixedOrders = true) (f : FuncId) (fn : Func) (hf : P.funcs[f]? = some fn) (nt : Notes) (k : Nat) {args : List SV} (ha : Nat.ble args.length fn.ntmps = true) {st : St} {K : SV → St → O T} {Kp : PV → St → O T} {ν : Nat → Value} {w : World} (hbx : b ≤ st.nx)
  (hR : RelW S w0 ν st w) (hb : belowL st.nx args = true) {res : O T} (h : evFn tab cal fn nt k b args sl st K Kp = res) (hne : res ≠ .no) :
  Calls P f (denL ν args).toArray w (CalPostB b S w0 ν st w K Kp res) := by
 unfold evFn at h
 cases hc : fn.body with
 | some c =>
  rw [show bodyOf fn = c by unfold bodyOf; rw [hc]] at h
  rw [hc] at h
  simp only [Option.isSome_some, ifb] at h
  refine calls_of_wp hf hc ?_
  have ha := Nat.le_of_ble_eq_true ha
  have hg : Good S w0 ⟨ν, ⟨b, st.dirty, []⟩, w⟩ fn.ntmps ν ⟨argEnv args 0, [], b, sl⟩ st { tmps := (denL ν args).toArray ++ Array.replicate (fn.ntmps - (denL ν args).toArray.size) undef, defers := [] } w := by
   refine ⟨hR, ⟨?_, ?_, rfl, rfl⟩, rfl, ⟨hbx, fun _ _ => rfl, id, Nat.le_refl _, fun _ _ _ => rfl⟩⟩
   ·simp [denL_length]; omega
   ·intro t v hv
    exact argEnv_get ν st.nx args 0 hb [] rfl _ t v hv
  refine wp_mono (ev_sound hT hC hM nt k hne c _ ν _ st _ w hg h) ?_
  have fin : ∀ ν' fr st' (a : Act) w', Good S w0 ⟨ν, ⟨b, st.dirty, []⟩, w⟩ fn.ntmps ν' fr st' a w' → fr.dfs = [] → ∀ vs, resVals tab fr st' fn.results.toList = some vs → K (resVal vs) st' = res →
    a.defers = [] ∧ ∃ v, (results fn a.tmps).run P w' = .ok v w' ∧ CalPostB b S w0 ν st w K Kp res (.returned v) w' := by
   intro ν' fr st' a w' hg' hd vs hvs hk
   have hr := results_run (P := P) hT hg' hvs
   exact ⟨by rw [hg'.env.dfs, hd]; simp [denL], _, hr.1, ν', st', resVal vs, hg'.rel, hg'.step, rfl, hr.2, hk⟩
  intro e a w' hp
  cases e with
  | normal =>
   obtain ⟨ν', fr, st', hg', hk⟩ := hp
   simp only [finK] at hk
   cases hd : fr.dfs with
   | nil =>
    rw [hd] at hk
    simp only at hk
    cases hvs : resVals tab fr st' fn.results.toList with
    | none => rw [hvs] at hk; exact absurd hk.symm hne
    | some vs => rw [hvs] at hk; exact fin ν' fr st' a w' hg' hd vs hvs hk
   | cons d ds => rw [hd] at hk; exact absurd hk.symm hne
  | ret =>
   obtain ⟨ν', fr, st', hg', hk⟩ := hp
   simp only [finK] at hk
   cases hd : fr.dfs with
   | nil =>
    rw [hd] at hk
    simp only at hk
    cases hvs : resVals tab fr st' fn.results.toList with
    | none => rw [hvs] at hk; exact absurd hk.symm hne
    | some vs => rw [hvs] at hk; exact fin ν' fr st' a w' hg' hd vs hvs hk
   | cons d ds => rw [hd] at hk; exact absurd hk.symm hne
  | exit id =>
   obtain ⟨ν', fr, st', hg', hk⟩ := hp
   exact absurd hk.symm hne
  | panic ch =>
   obtain ⟨ν', fr, st', e, hg', rfl, hk⟩ := hp
   simp only [finK] at hk
   cases hd : fr.dfs with
   | nil =>
    rw [hd] at hk
    exact ⟨by rw [hg'.env.dfs, hd]; simp [denL], ν', st', e, hg'.rel, hg'.step, rfl, hk⟩
   | cons d ds => rw [hd] at hk; exact absurd hk.symm hne
  | goto l => exact hp.elim
  | outgrown => exact hp.elim
 | none => rw [hc] at h; exact absurd h.symm hne
end
end Go.Aq
end
section
namespace Go.Aq
open Go.RowKit (Below)
set_option linter.unusedVariables false
mutual
def Sh.fresh : Sh → Bool
 | .leaf _ => true
 | .row own _ _ => own
 | .map _ _ _ _ _ => true
 | .tab own _ f => own && f.fresh
 | .box _ f => f.fresh
 | .agg f => f.fresh
def Shs.fresh : Shs → Bool
 | .one s _ => s.fresh
 | .cons s r => s.fresh && r.fresh
 | .pin _ r => r.fresh
 | .pins _ => true
end
mutual
def Sh.seen : Sh → Bool
 | .leaf _ => true
 | .row own _ _ => !own
 | .map _ _ _ _ _ => false
 | .tab own _ f => !own && f.tabOk
 | .box _ _ => false
 | .agg f => f.seen
def Shs.seen : Shs → Bool
 | .one s _ => s.seen
 | .cons s r => s.seen && r.seen
 | .pin _ r => r.seen
 | .pins _ => true
end
def valS : Sh → List SV → SV
 | .agg _, cs => .agg cs
 | _, [v] => v
 | _, _ => .tup []
def giveA (γ : List Nat) : (as : Shs) → as.T → Nat → List SV × List HO
 | .one s ps, x, nx => (valS s (giveS γ s x nx).1 :: ps.map (pinV γ), (giveS γ s x nx).2)
 | .cons s r, x, nx => (valS s (giveS γ s x.1 nx).1 :: (giveA γ r x.2 (nx + (giveS γ s x.1 nx).2.length)).1, (giveS γ s x.1 nx).2 ++ (giveA γ r x.2 (nx + (giveS γ s x.1 nx).2.length)).2)
 | .pin p r, x, nx => (pinV γ p :: (giveA γ r x nx).1, (giveA γ r x nx).2)
 | .pins ps, _, _ => (ps.map (pinV γ), [])
section
variable {α : Type}
noncomputable def takeV (γ : List Nat) (fz : Bool) : (s : Sh) → SV → Heap → (s.T → Heap → O α) → O α
 | .agg f, .agg cs, H, K => takeF γ fz f cs H K
 | .leaf l, v, H, K => match l.dec v with
  | some x => K x H
  | none => .no
 | .row own t ls, v, H, K => takeRow fz own t ls v H K
 | .map t ka va kl vl, v, H, K => takeMap t ka va kl vl v H K
 | .tab own t f, v, H, K => takeS γ fz (.tab own t f) [v] H K
 | .box t f, v, H, K => takeS γ fz (.box t f) [v] H K
 | _, _, _, _ => .no
noncomputable def takeA (γ : List Nat) (fz : Bool) : (as : Shs) → List SV → Heap → (as.T → Heap → O α) → O α
 | .one s ps, v :: vs, H, K => ifb (pinsOk γ ps vs) (takeV γ fz s v H K) .no
 | .cons s r, v :: vs, H, K => takeV γ fz s v H fun x H => takeA γ fz r vs H fun y H => K (x, y) H
 | .pin p r, v :: vs, H, K => ifb (pinOk γ p v) (takeA γ fz r vs H K) .no
 | .pins ps, vs, H, K => ifb (pinsOk γ ps vs) (K () H) .no
 | _, _, _, _ => .no
end
def frzW : Sh → SV → St → St
 | .agg f, .agg cs, st => frzF f cs st
 | s, v, st => frzS s [v] st
def frzA : Shs → List SV → St → St
 | .one s _, v :: _, st => frzW s v st
 | .cons s r, v :: vs, st => frzA r vs (frzW s v st)
 | .pin _ r, _ :: vs, st => frzA r vs st
 | _, _, st => st
def valIs : Sh → List Value → Value → Prop
 | .agg _, cs, v => v = .agg cs.toArray
 | _, cs, v => cs = [v]
def repV (w : World) (α : Nat → Value) (Av : Nat → Prop) (s : Sh) (x : s.T) (v : Value) (F : List Nat) : Prop :=
 ∃ cs, repS w α Av s x cs F ∧ valIs s cs v
def repA (w : World) (α : Nat → Value) (Av : Nat → Prop) : (as : Shs) → as.T → List Value → List Nat → Prop
 | .one s ps, x, vs, F => ∃ v, vs = v :: ps.map (pinD α) ∧ repV w α Av s x v F
 | .cons s r, x, vs, F => ∃ v vs' F1 F2, vs = v :: vs' ∧ F = F1 ++ F2 ∧ repV w α Av s x.1 v F1 ∧ repA w α Av r x.2 vs' F2
 | .pin p r, x, vs, F => ∃ us, vs = pinD α p :: us ∧ repA w α Av r x us F
 | .pins ps, _, vs, F => vs = ps.map (pinD α) ∧ F = []
theorem frzW_sound {S : Bl} {w0 w : World} (s : Sh) (v : SV) {ν : Nat → Value} {st : St} (hR : RelW S w0 ν st w) : ∃ ν', Frz S w0 w ν st ν' (frzW s v st) := by
 unfold frzW
 split
 ·exact frzF_sound _ _ hR
 ·exact frzS_sound _ _ hR
theorem frzA_sound {S : Bl} {w0 w : World} : ∀ (f : Shs) (vs : List SV) {ν : Nat → Value} {st : St}, RelW S w0 ν st w → ∃ ν', Frz S w0 w ν st ν' (frzA f vs st)
 | .one s _, [], ν, st, hR => ⟨ν, Frz.refl hR⟩
 | .one s _, v :: _, ν, st, hR => frzW_sound s v hR
 | .cons s r, [], ν, st, hR => ⟨ν, Frz.refl hR⟩
 | .cons s r, v :: vs, ν, st, hR => by
  obtain ⟨ν1, h1⟩ := frzW_sound s v hR
  obtain ⟨ν2, h2⟩ := frzA_sound r vs h1.rel
  exact ⟨ν2, h1.trans h2⟩
 | .pin _ r, [], ν, st, hR => ⟨ν, Frz.refl hR⟩
 | .pin _ r, _ :: vs, ν, st, hR => frzA_sound r vs hR
 | .pins _, vs, ν, st, hR => by cases vs <;> exact ⟨ν, Frz.refl hR⟩
section
variable {S : Bl} {w0 : World} {w : World} {α : Nat → Value} {Av : Nat → Prop} {γ : List Nat} {n : Nat}
theorem valS_den {ν : Nat → Value} {s : Sh} {cs : List SV} {vs : List Value} {v : Value} (h : denL ν cs = vs) (hv : valIs s vs v) : den ν (valS s cs) = v := by
 cases s with
 | agg f => simp only [valIs] at hv; subst hv; simp only [valS, den]; rw [h]
 | leaf l =>
  simp only [valIs] at hv
  subst hv
  match cs, h with
  | [c], h => show den ν c = v; simpa [denL] using h
  | [], h => simp [denL] at h
  | _ :: _ :: _, h => simp [denL] at h
 | row own t ls =>
  simp only [valIs] at hv
  subst hv
  match cs, h with
  | [c], h => show den ν c = v; simpa [denL] using h
  | [], h => simp [denL] at h
  | _ :: _ :: _, h => simp [denL] at h
 | map t ka va kl vl =>
  simp only [valIs] at hv
  subst hv
  match cs, h with
  | [c], h => show den ν c = v; simpa [denL] using h
  | [], h => simp [denL] at h
  | _ :: _ :: _, h => simp [denL] at h
 | tab own t f =>
  simp only [valIs] at hv
  subst hv
  match cs, h with
  | [c], h => show den ν c = v; simpa [denL] using h
  | [], h => simp [denL] at h
  | _ :: _ :: _, h => simp [denL] at h
 | box t f =>
  simp only [valIs] at hv
  subst hv
  match cs, h with
  | [c], h => show den ν c = v; simpa [denL] using h
  | [], h => simp [denL] at h
  | _ :: _ :: _, h => simp [denL] at h
theorem valS_lt {m : Nat} {s : Sh} {cs : List SV} (h : belowL m cs = true) : svLt m (valS s cs) = true := by
 cases s with
 | agg f => simpa only [valS, svLt] using h
 | leaf l =>
  match cs, h with
  | [c], h => simpa [valS, belowL] using h
  | [], h => simp [valS, svLt, belowL]
  | _ :: _ :: _, h => simp [valS, svLt, belowL]
 | row own t ls =>
  match cs, h with
  | [c], h => simpa [valS, belowL] using h
  | [], h => simp [valS, svLt, belowL]
  | _ :: _ :: _, h => simp [valS, svLt, belowL]
 | map t ka va kl vl =>
  match cs, h with
  | [c], h => simpa [valS, belowL] using h
  | [], h => simp [valS, svLt, belowL]
  | _ :: _ :: _, h => simp [valS, svLt, belowL]
 | tab own t f =>
  match cs, h with
  | [c], h => simpa [valS, belowL] using h
  | [], h => simp [valS, svLt, belowL]
  | _ :: _ :: _, h => simp [valS, svLt, belowL]
 | box t f =>
  match cs, h with
  | [c], h => simpa [valS, belowL] using h
  | [], h => simp [valS, svLt, belowL]
  | _ :: _ :: _, h => simp [valS, svLt, belowL]
theorem giveV_sound (s : Sh) (x : s.T) (v : Value) (F : List Nat) (ν : Nat → Value) (st : St) (hR : RelW S w0 ν st w) (hr : repV w α Av s x v F) (hF : Free S w0 w ν st Av F) (hG : Gam γ n α ν st.nx) (hl : s.lt n = true) :
  ∃ ν', Given S w0 w ν st Av F (giveS γ s x st.nx).2 ν' ∧ den ν' (valS s (giveS γ s x st.nx).1) = v ∧ svLt (st.nx + (giveS γ s x st.nx).2.length) (valS s (giveS γ s x st.nx).1) = true := by
 obtain ⟨cs, hcs, hval⟩ := hr
 obtain ⟨ν', g, a3, a4⟩ := giveS_sound s x cs F ν st hR hcs hF hG hl
 exact ⟨ν', g, valS_den a3 hval, valS_lt a4⟩
theorem giveA_sound : ∀ (f : Shs) (x : f.T) (vs : List Value) (F : List Nat) (ν : Nat → Value) (st : St), RelW S w0 ν st w → repA w α Av f x vs F → Free S w0 w ν st Av F → Gam γ n α ν st.nx → f.lt n = true →
  ∃ ν', Given S w0 w ν st Av F (giveA γ f x st.nx).2 ν' ∧ denL ν' (giveA γ f x st.nx).1 = vs ∧ belowL (st.nx + (giveA γ f x st.nx).2.length) (giveA γ f x st.nx).1 = true
 | .one s ps, x, vs, F, ν, st, hR, hr, hF, hG, hl => by
  obtain ⟨v, rfl, hr⟩ := hr
  simp only [Shs.lt, Bool.and_eq_true] at hl
  obtain ⟨ν', h1, h2, h3⟩ := giveV_sound s x v F ν st hR hr hF hG hl.1
  have hG' := hG.mono (nx' := st.nx + (giveS γ s x st.nx).2.length) (by omega) h1.2.1
  obtain ⟨p1, p2⟩ := pinsV_den hG' hl.2
  exact ⟨ν', h1, by simp only [giveA, denL, h2, p1], by simp only [giveA, belowL, h3, Bool.true_and]; exact p2⟩
 | .cons s r, x, vs, F, ν, st, hR, hr, hF, hG, hl => by
  obtain ⟨v, vs', F1, F2, rfl, rfl, h1, h2⟩ := hr
  simp only [Shs.lt, Bool.and_eq_true] at hl
  obtain ⟨ν1, g1, a3, a4⟩ := giveV_sound s x.1 v F1 ν st hR h1 hF.left hG hl.1
  have hG1 : Gam γ n α ν1 (st.adds (giveS γ s x.1 st.nx).2).nx := hG.mono (by rw [adds_nx]; omega) g1.2.1
  obtain ⟨ν2, g2, b3, b4⟩ := giveA_sound r x.2 vs' F2 ν1 _ g1.1 h2 (hF.right g1) hG1 hl.2
  have g := g1.trans g2
  have b2 := g2.2.1
  rw [adds_nx] at b2 b3 b4 g
  refine ⟨ν2, g, ?_, ?_⟩
  ·simp only [giveA, denL]
   rw [b3, ← den_congr b2 _ a4, a3]
  ·simp only [giveA, belowL, List.length_append, Bool.and_eq_true]
   exact ⟨svLt_mono (by omega) _ a4, by rw [← Nat.add_assoc]; exact b4⟩
 | .pin p r, x, vs, F, ν, st, hR, hr, hF, hG, hl => by
  obtain ⟨us, rfl, hr⟩ := hr
  simp only [Shs.lt, Bool.and_eq_true] at hl
  obtain ⟨ν', g, h2, h3⟩ := giveA_sound r x us F ν st hR hr hF hG hl.2
  have hG' := hG.mono (nx' := st.nx + (giveA γ r x st.nx).2.length) (by omega) g.2.1
  obtain ⟨p1, p2⟩ := pinV_den hG' hl.1
  exact ⟨ν', g, by simp only [giveA, denL, p1, h2], by simp only [giveA, belowL, p2, Bool.true_and]; exact h3⟩
 | .pins ps, x, vs, F, ν, st, hR, hr, hF, hG, hl => by
  obtain ⟨rfl, rfl⟩ := hr
  obtain ⟨p1, p2⟩ := pinsV_den hG hl
  exact ⟨ν, Given.refl hR _ _, p1, p2⟩
end
end Go.Aq
end
section
namespace Go.Aq
open Go.RowKit (Below)
set_option linter.unusedVariables false
section
variable {β : Type} {S : Bl} {w0 : World} {ν : Nat → Value} {st : St} {w : World}
theorem takeV_sound {γ : List Nat} {fz : Bool} {α : Nat → Value} {Av : Nat → Prop} (hR : RelW S w0 ν st w) (hG : GamT γ α ν) {res : O β} (hne : res ≠ .no) (s : Sh) (v : SV) (H : Heap) (K : s.T → Heap → O β) (hs : ∀ j o, lkp j H = some o → lkp j st.H = some o) (hA : Hangs fz ν H Av) (h : takeV γ fz s v H K = res) :
  ∃ x H' F, K x H' = res ∧ repV w α Av s x (den ν v) F ∧ Taken ν H H' F := by
 cases s with
 | leaf l =>
  obtain ⟨x, H', F, h1, h2, h3⟩ := leaf_sound (ν := ν) (w := w) (α := α) (Av := Av) hne l v H K h
  exact ⟨x, H', F, h1, ⟨_, h2, rfl⟩, h3⟩
 | row own t ls =>
  obtain ⟨x, H', F, h1, h2, h3⟩ := row_sound (α := α) hR hne fz own t ls v H K hs hA h
  exact ⟨x, H', F, h1, ⟨_, h2, rfl⟩, h3⟩
 | map t ka va kl vl =>
  obtain ⟨x, H', F, h1, h2, h3⟩ := map_sound (α := α) (Av := Av) hR hne t ka va kl vl v H K hs h
  exact ⟨x, H', F, h1, ⟨_, h2, rfl⟩, h3⟩
 | tab own t f =>
  obtain ⟨x, H', F, h1, h2, h3⟩ := takeS_sound hR hG hne (.tab own t f) [v] H K hs hA h
  exact ⟨x, H', F, h1, ⟨_, h2, rfl⟩, h3⟩
 | box t f =>
  obtain ⟨x, H', F, h1, h2, h3⟩ := takeS_sound hR hG hne (.box t f) [v] H K hs hA h
  exact ⟨x, H', F, h1, ⟨_, h2, rfl⟩, h3⟩
 | agg f =>
  cases v with
  | agg cs =>
   obtain ⟨x, H', F, h1, h2, h3⟩ := takeF_sound hR hG hne f cs H K hs hA h
   exact ⟨x, H', F, h1, ⟨denL ν cs, h2, by simp [den, valIs]⟩, h3⟩
  | _ => exact absurd h.symm hne
theorem takeA_sound {γ : List Nat} {fz : Bool} {α : Nat → Value} {Av : Nat → Prop} (hR : RelW S w0 ν st w) (hG : GamT γ α ν) {res : O β} (hne : res ≠ .no) : ∀ (f : Shs) (vs : List SV) (H : Heap) (K : f.T → Heap → O β), (∀ j o, lkp j H = some o → lkp j st.H = some o) → Hangs fz ν H Av → takeA γ fz f vs H K = res →
  ∃ x H' F, K x H' = res ∧ repA w α Av f x (denL ν vs) F ∧ Taken ν H H' F
 | .one s ps, [], H, K, hs, hA, h => by unfold takeA at h; exact absurd h.symm hne
 | .one s ps, v :: vs, H, K, hs, hA, h => by
  unfold takeA at h
  by_cases hp : pinsOk γ ps vs = true
  ·rw [hp, ifb_true] at h
   obtain ⟨x, H', F, h1, h2, h3⟩ := takeV_sound hR hG hne s v H K hs hA h
   exact ⟨x, H', F, h1, ⟨_, by simp only [denL, pins_sound hG hp], h2⟩, h3⟩
  ·rw [Bool.not_eq_true] at hp; rw [hp] at h; exact absurd h.symm hne
 | .cons s r, [], H, K, hs, hA, h => by unfold takeA at h; exact absurd h.symm hne
 | .cons s r, v :: vs, H, K, hs, hA, h => by
  unfold takeA at h
  obtain ⟨x, H1, F1, h1, r1, t1⟩ := takeV_sound hR hG hne s v H _ hs hA h
  obtain ⟨y, H2, F2, h2, r2, t2⟩ := takeA_sound hR hG hne r vs H1 _ (t1.sub hs) (hA.sub t1) h1
  exact ⟨(x, y), H2, F1 ++ F2, h2, ⟨_, _, F1, F2, by simp only [denL], rfl, r1, r2⟩, t1.trans hR hs t2⟩
 | .pin p r, [], H, K, hs, hA, h => by unfold takeA at h; exact absurd h.symm hne
 | .pin p r, v :: vs, H, K, hs, hA, h => by
  unfold takeA at h
  by_cases hp : pinOk γ p v = true
  ·rw [hp, ifb_true] at h
   obtain ⟨x, H', F, h1, h2, h3⟩ := takeA_sound hR hG hne r vs H K hs hA h
   exact ⟨x, H', F, h1, ⟨_, by simp only [denL, pin_sound hG hp], h2⟩, h3⟩
  ·rw [Bool.not_eq_true] at hp; rw [hp] at h; exact absurd h.symm hne
 | .pins ps, vs, H, K, hs, hA, h => by
  unfold takeA at h
  by_cases hp : pinsOk γ ps vs = true
  ·rw [hp, ifb_true] at h
   exact ⟨(), H, [], h, ⟨pins_sound hG hp, rfl⟩, Taken.refl ν H⟩
  ·rw [Bool.not_eq_true] at hp; rw [hp] at h; exact absurd h.symm hne
end
abbrev Obs := List (TypeId × Shs)
def ObT : Obs → Type
 | [] => Unit
 | [o] => o.2.T
 | o :: p :: os => o.2.T × ObT (p :: os)
def St.set (st : St) (j : Nat) (o : HO) : St := ⟨st.nx, st.dirty, (j, o) :: st.H⟩
def giveOb (γ : List Nat) (j : Nat) (o : TypeId × Shs) (x : o.2.T) (st : St) : St := (st.adds (giveF γ o.2 x st.nx).2).set j (.cells o.1 (giveF γ o.2 x st.nx).1)
def giveO (γ : List Nat) : (i : Nat) → (os : Obs) → ObT os → St → St
 | _, [], _, st => st
 | i, [o], x, st => giveOb γ (nth γ i) o x st
 | i, o :: p :: os, x, st => giveO γ (Nat.succ i) (p :: os) x.2 (giveOb γ (nth γ i) o x.1 st)
noncomputable def takeOb {β : Type} (γ : List Nat) (j : Nat) (o : TypeId × Shs) (H : Heap) (K : o.2.T → Heap → O β) : O β :=
 match lkp j H with
 | some (.cells T vs) => ifb (Nat.beq o.1 T) (takeF γ true o.2 vs (del j H) K) .no
 | _ => .no
noncomputable def takeO {β : Type} (γ : List Nat) : (i : Nat) → (os : Obs) → Heap → (ObT os → Heap → O β) → O β
 | _, [], H, K => K () H
 | i, [o], H, K => takeOb γ (nth γ i) o H K
 | i, o :: p :: os, H, K => takeOb γ (nth γ i) o H fun x H => takeO γ (Nat.succ i) (p :: os) H fun y H => K (x, y) H
def repOb (w : World) (α : Nat → Value) (Av : Nat → Prop) (o : TypeId × Shs) (x : o.2.T) (a : Value) (F : List Nat) : Prop :=
 ∃ b cs F', a = .pointer (some ⟨b, 0, none⟩) ∧ w.heap[b]? = some (.cells cs.toArray o.1 (0, 0)) ∧ repF w α Av o.2 x cs F' ∧ F = b :: F'
def repO (w : World) (α : Nat → Value) (Av : Nat → Prop) : (i : Nat) → (os : Obs) → ObT os → List Nat → Prop
 | _, [], _, F => F = []
 | i, [o], x, F => repOb w α Av o x (α i) F
 | i, o :: p :: os, x, F => ∃ F1 F2, F = F1 ++ F2 ∧ repOb w α Av o x.1 (α i) F1 ∧ repO w α Av (Nat.succ i) (p :: os) x.2 F2
def frzO (γ : List Nat) : (i : Nat) → Obs → St → St
 | _, [], st => st
 | i, o :: os, st => frzO γ (Nat.succ i) os (match lkp (nth γ i) st.H with
  | some (.cells _ vs) => frzF o.2 vs st
  | _ => st)
theorem frzO_sound {S : Bl} {w0 w : World} {γ : List Nat} : ∀ (os : Obs) (i : Nat) {ν : Nat → Value} {st : St}, RelW S w0 ν st w → ∃ ν', Frz S w0 w ν st ν' (frzO γ i os st)
 | [], i, ν, st, hR => ⟨ν, Frz.refl hR⟩
 | o :: os, i, ν, st, hR => by
  unfold frzO
  split
  ·obtain ⟨ν1, h1⟩ := frzF_sound o.2 _ hR
   obtain ⟨ν2, h2⟩ := frzO_sound os (Nat.succ i) h1.rel
   exact ⟨ν2, h1.trans h2⟩
  ·exact frzO_sound os (Nat.succ i) hR
def obsFresh : Obs → Bool
 | [] => true
 | o :: os => o.2.fresh && obsFresh os
def obsLt (n : Nat) : Obs → Bool
 | [] => true
 | o :: os => o.2.lt n && obsLt n os
section
variable {β : Type} {S : Bl} {w0 : World} {ν : Nat → Value} {st : St} {w : World} {γ : List Nat} {α : Nat → Value} {Av : Nat → Prop}
theorem takeOb_sound (hR : RelW S w0 ν st w) (hG : GamT γ α ν) {res : O β} (hne : res ≠ .no) {i : Nat} (hi : i < γ.length) (o : TypeId × Shs) (H : Heap) (K : o.2.T → Heap → O β) (hs : ∀ j o, lkp j H = some o → lkp j st.H = some o) (hA : Hangs true ν H Av) (h : takeOb γ (nth γ i) o H K = res) :
  ∃ x H' F, K x H' = res ∧ repOb w α Av o x (α i) F ∧ Taken ν H H' F := by
 unfold takeOb at h
 split at h
 ·rename_i T vs hj
  by_cases hc : Nat.beq o.1 T = true
  ·rw [hc, ifb_true] at h
   obtain ⟨b, hb, hcell⟩ := hR.sat _ _ (hs _ _ hj)
   have hα : α i = .pointer (some ⟨b, 0, none⟩) := by rw [← hG i hi]; simp only [den]; rw [hb]; rfl
   have t1 : Taken ν H (del (nth γ i) H) [b] := by
    have := Taken.one hR hs hj
    simpa [mineL, hb, blk] using this
   obtain ⟨x, H', F, h1, h2, h3⟩ := takeF_sound hR hG hne o.2 vs _ K (t1.sub hs) (hA.sub t1) h
   refine ⟨x, H', b :: F, h1, ⟨b, denL ν vs, F, hα, ?_, h2, rfl⟩, t1.trans hR hs h3⟩
   rw [Nat.eq_of_beq_eq_true hc]; exact hcell
  ·rw [Bool.not_eq_true] at hc; rw [hc] at h; exact absurd h.symm hne
 ·exact absurd h.symm hne
theorem takeO_sound (hR : RelW S w0 ν st w) (hG : GamT γ α ν) {res : O β} (hne : res ≠ .no) : ∀ (os : Obs) (i : Nat), i + os.length ≤ γ.length → ∀ (H : Heap) (K : ObT os → Heap → O β), (∀ j o, lkp j H = some o → lkp j st.H = some o) → Hangs true ν H Av → takeO γ i os H K = res →
  ∃ x H' F, K x H' = res ∧ repO w α Av i os x F ∧ Taken ν H H' F
 | [], i, hi, H, K, hs, hA, h => ⟨(), H, [], h, rfl, Taken.refl ν H⟩
 | [o], i, hi, H, K, hs, hA, h => takeOb_sound hR hG hne (by simp only [List.length_cons, List.length_nil] at hi; omega) o H K hs hA h
 | o :: p :: os, i, hi, H, K, hs, hA, h => by
  unfold takeO at h
  simp only [List.length_cons] at hi
  obtain ⟨x, H1, F1, h1, r1, t1⟩ := takeOb_sound hR hG hne (by omega) o H _ hs hA h
  obtain ⟨y, H2, F2, h2, r2, t2⟩ := takeO_sound hR hG hne (p :: os) (Nat.succ i) (by simp only [List.length_cons]; omega) H1 _ (t1.sub hs) (hA.sub t1) h1
  exact ⟨(x, y), H2, F1 ++ F2, h2, ⟨F1, F2, rfl, r1, r2⟩, t1.trans hR hs t2⟩
theorem RelW.set (h : RelW S w0 ν st w) {j b : Nat} {T : TypeId} {vs : List SV} (hj : j < st.nx) (hb : ν j = .pointer (some ⟨b, 0, none⟩)) (hc : w.heap[b]? = some (.cells (denL ν vs).toArray T (0, 0))) (hl : belowL st.nx vs = true)
  (hS : S b ∨ w0.heap.size ≤ b) (ha : ∀ i o, lkp i st.H = some o → b ∉ mineL ν i o ∧ b ∉ seenL ν i o) : RelW S w0 ν (st.set j (.cells T vs)) w := by
 have hm : mineL ν j (.cells T vs) = [b] := by simp [mineL, hb, blk]
 refine h.setG (o := .cells T vs) hj hl ⟨b, hb, hc⟩ (by rw [hm]; simp) (fun c hc => by rw [hm] at hc; simp at hc; subst hc; exact hS) (fun c hc => by cases hc) (fun c hc i q _ hq => by rw [hm] at hc; simp at hc; subst hc; exact ha i q hq) (fun c hc => by cases hc) (fun c _ hc => by cases hc) st.dirty
def GivenS (S : Bl) (w0 : World) (w : World) (ν : Nat → Value) (st : St) (Av : Nat → Prop) (F : List Nat) (st' : St) (ν' : Nat → Value) : Prop :=
 RelW S w0 ν' st' w ∧ st.nx ≤ st'.nx ∧ st'.dirty = st.dirty ∧ (∀ j, j < st.nx → ν j = ν' j) ∧
  (∀ j o b, lkp j st'.H = some o → (b ∈ mineL ν' j o → (∃ i o', lkp i st.H = some o' ∧ b ∈ mineL ν i o') ∨ b ∈ F) ∧ (b ∈ seenL ν' j o → (∃ i o', lkp i st.H = some o' ∧ b ∈ seenL ν i o') ∨ Av b))
theorem GivenS.refl (hR : RelW S w0 ν st w) (Av : Nat → Prop) (F : List Nat) : GivenS S w0 w ν st Av F st ν := ⟨hR, Nat.le_refl _, rfl, fun _ _ => rfl, fun j o b hj => ⟨fun hb => .inl ⟨j, o, hj, hb⟩, fun hb => .inl ⟨j, o, hj, hb⟩⟩⟩
theorem GivenS.trans {ν1 ν2 : Nat → Value} {st1 st2 : St} {F1 F2 : List Nat} (h : GivenS S w0 w ν st Av F1 st1 ν1) (k : GivenS S w0 w ν1 st1 Av F2 st2 ν2) : GivenS S w0 w ν st Av (F1 ++ F2) st2 ν2 := by
 refine ⟨k.1, Nat.le_trans h.2.1 k.2.1, k.2.2.1.trans h.2.2.1, fun j hj => (h.2.2.2.1 j hj).trans (k.2.2.2.1 j (Nat.lt_of_lt_of_le hj h.2.1)), ?_⟩
 intro j o b hj
 refine ⟨fun hb => ?_, fun hb => ?_⟩
 ·rcases (k.2.2.2.2 j o b hj).1 hb with ⟨i, o', ho', hm⟩ | hm
  ·rcases (h.2.2.2.2 i o' b ho').1 hm with h | h
   ·exact .inl h
   ·exact .inr (by simp [h])
  ·exact .inr (by simp [hm])
 ·rcases (k.2.2.2.2 j o b hj).2 hb with ⟨i, o', ho', hm⟩ | hm
  ·exact (h.2.2.2.2 i o' b ho').2 hm
  ·exact .inr hm
theorem Free.rightS {ν1 : Nat → Value} {st1 : St} {F1 F2 : List Nat} (h : Free S w0 w ν st Av (F1 ++ F2)) (g : GivenS S w0 w ν st Av F1 st1 ν1) : Free S w0 w ν1 st1 Av F2 := by
 have hnd := List.nodup_append.1 h.nodup
 refine ⟨hnd.2.1, fun b hb => h.mine b (by simp [hb]), fun b hb j o hj => ⟨fun hb' => ?_, fun hb' => ?_⟩, fun b hb => ⟨(h.av b hb).1, fun hb' => (h.av b hb).2.1 (by simp [hb']), (h.av b hb).2.2.1, fun j o hj hb' => ?_⟩⟩
 ·rcases (g.2.2.2.2 j o b hj).1 hb' with ⟨i, o', ho', hm⟩ | hm
  ·exact (h.apart b (by simp [hb]) i o' ho').1 hm
  ·exact hnd.2.2 b hm b hb rfl
 ·rcases (g.2.2.2.2 j o b hj).2 hb' with ⟨i, o', ho', hm⟩ | hm
  ·exact (h.apart b (by simp [hb]) i o' ho').2 hm
  ·exact (h.av b hm).2.1 (by simp [hb])
 ·rcases (g.2.2.2.2 j o b hj).1 hb' with ⟨i, o', ho', hm⟩ | hm
  ·exact (h.av b hb).2.2.2 i o' ho' hm
  ·exact (h.av b hb).2.1 (by simp [hm])
def GamO (γ : List Nat) (n : Nat) (α : Nat → Value) (ν : Nat → Value) (nx : Nat) : Prop := n = γ.length ∧ ∀ k, k < n → nth γ k < nx ∧ ν (nth γ k) = α k ∧ ∃ b, α k = .pointer (some ⟨b, 0, none⟩)
theorem GamO.mono {γ : List Nat} {n : Nat} {α ν ν' : Nat → Value} {nx nx' : Nat} (h : GamO γ n α ν nx) (hx : nx ≤ nx') (hv : ∀ j, j < nx → ν j = ν' j) : GamO γ n α ν' nx' :=
 ⟨h.1, fun k hk => ⟨Nat.lt_of_lt_of_le (h.2 k hk).1 hx, by rw [← hv _ (h.2 k hk).1]; exact (h.2 k hk).2.1, (h.2 k hk).2.2⟩⟩
theorem GamO.gam {γ : List Nat} {n : Nat} {α ν : Nat → Value} {nx : Nat} (h : GamO γ n α ν nx) : Gam γ n α ν nx :=
 ⟨h.1, fun k hk => by
  obtain ⟨h1, h2, b, h3⟩ := h.2 k hk
  refine ⟨h1, ?_⟩
  simp only [αOf, den]
  rw [h2, h3]; rfl⟩
theorem giveOb_sound {n : Nat} {i : Nat} (hi : i < n) (o : TypeId × Shs) (x : o.2.T) (F : List Nat) (hR : RelW S w0 ν st w) (hr : repOb w α Av o x (α i) F) (hF : Free S w0 w ν st Av F) (hG : GamO γ n α ν st.nx) (hl : o.2.lt n = true) :
  ∃ ν', GivenS S w0 w ν st Av F (giveOb γ (nth γ i) o x st) ν' := by
 obtain ⟨b, cs, F', ha, hc, hrep, rfl⟩ := hr
 have hF' : Free S w0 w ν st Av F' := ⟨(List.nodup_cons.1 hF.nodup).2, fun c hc => hF.mine c (by simp [hc]), fun c hc => hF.apart c (by simp [hc]), fun c hc => ⟨(hF.av c hc).1, fun h => (hF.av c hc).2.1 (by simp [h]), (hF.av c hc).2.2⟩⟩
 obtain ⟨ν', g, h2, h3⟩ := giveF_sound o.2 x cs F' ν st hR hrep hF' hG.gam hl
 obtain ⟨g1, g2, _⟩ := hG.2 i hi
 have hn : nth γ i < (st.adds (giveF γ o.2 x st.nx).2).nx := by rw [adds_nx]; omega
 have hb' : ν' (nth γ i) = .pointer (some ⟨b, 0, none⟩) := by rw [← g.2.1 _ g1, g2, ha]
 refine ⟨ν', ?_, by show st.nx ≤ (st.adds _).nx; rw [adds_nx]; omega, by show (st.adds _).dirty = _; exact adds_dirty _ st, g.2.1, ?_⟩
 ·refine g.1.set hn (b := b) hb' ?_ ?_ (hF.mine b (by simp)) ?_
  ·rw [h2]; exact hc
  ·rw [adds_nx]; exact h3
  ·intro j q hj
   refine ⟨fun hbm => ?_, fun hbm => ?_⟩
   ·rcases (g.2.2 j q b hj).1 hbm with ⟨o', ho', hm⟩ | hm
    ·exact (hF.apart b (by simp) j o' ho').1 hm
    ·exact (List.nodup_cons.1 hF.nodup).1 hm
   ·rcases (g.2.2 j q b hj).2 hbm with ⟨o', ho', hm⟩ | hm
    ·exact (hF.apart b (by simp) j o' ho').2 hm
    ·exact (hF.av b hm).2.1 (by simp)
 ·intro j q c hj
  simp only [giveOb, St.set, lkp_cons] at hj
  split at hj
  ·rename_i e
   subst e
   cases hj
   refine ⟨fun hcq => ?_, fun hcq => by cases hcq⟩
   simp [mineL, hb', blk] at hcq
   exact .inr (by simp [hcq])
  ·refine ⟨fun hcq => ?_, fun hcq => ?_⟩
   ·rcases (g.2.2 j q c hj).1 hcq with ⟨o', h⟩ | h
    ·exact .inl ⟨j, o', h⟩
    ·exact .inr (by simp [h])
   ·rcases (g.2.2 j q c hj).2 hcq with ⟨o', h⟩ | h
    ·exact .inl ⟨j, o', h⟩
    ·exact .inr h
theorem giveO_sound {n : Nat} : ∀ (os : Obs) (i : Nat), i + os.length ≤ n → ∀ (x : ObT os) (F : List Nat) (ν : Nat → Value) (st : St), RelW S w0 ν st w → repO w α Av i os x F → Free S w0 w ν st Av F → GamO γ n α ν st.nx → obsLt n os = true →
  ∃ ν', GivenS S w0 w ν st Av F (giveO γ i os x st) ν'
 | [], i, hi, x, F, ν, st, hR, hr, hF, hG, hl => ⟨ν, GivenS.refl hR Av F⟩
 | [o], i, hi, x, F, ν, st, hR, hr, hF, hG, hl => by
  simp only [obsLt, Bool.and_eq_true] at hl
  exact giveOb_sound (by simp only [List.length_cons, List.length_nil] at hi; omega) o x F hR hr hF hG hl.1
 | o :: p :: os, i, hi, x, F, ν, st, hR, hr, hF, hG, hl => by
  obtain ⟨F1, F2, rfl, r1, r2⟩ := hr
  rw [obsLt, Bool.and_eq_true] at hl
  simp only [List.length_cons] at hi
  obtain ⟨ν1, g1⟩ := giveOb_sound (by omega) o x.1 F1 hR r1 hF.left hG hl.1
  obtain ⟨ν2, g2⟩ := giveO_sound (p :: os) (Nat.succ i) (by simp only [List.length_cons]; omega) x.2 F2 ν1 _ g1.1 r2 (hF.rightS g1) (hG.mono g1.2.1 g1.2.2.2.1) hl.2
  exact ⟨ν2, g1.trans g2⟩
end
end Go.Aq
end
section
namespace Go.Aq
open Go.RowKit (Below)
set_option linter.unusedVariables false
theorem O.sum_ex : ∃ B : (ε α β : Type) → O (ε ⊕ α) → (ε → O β) → (α → O β) → O β, ∀ ε α β m g f, B ε α β m g f = (match m with | .ok (.inl e) => g e | .ok (.inr a) => f a | .pan _ => .no | .no => .no) := ⟨_, fun _ _ _ _ _ _ => rfl⟩
noncomputable def O.sum {ε α β : Type} (m : O (ε ⊕ α)) (g : ε → O β) (f : α → O β) : O β := Classical.choose O.sum_ex ε α β m g f
theorem O.sum_eq {ε α β : Type} (m : O (ε ⊕ α)) (g : ε → O β) (f : α → O β) : O.sum m g f = (match m with | .ok (.inl e) => g e | .ok (.inr a) => f a | .pan _ => .no | .no => .no) := Classical.choose_spec O.sum_ex ε α β m g f
@[simp] theorem O.sum_inl {ε α β : Type} (e : ε) (g : ε → O β) (f : α → O β) : O.sum (.ok (.inl e)) g f = g e := O.sum_eq _ _ _
@[simp] theorem O.sum_inr {ε α β : Type} (a : α) (g : ε → O β) (f : α → O β) : O.sum (.ok (.inr a)) g f = f a := O.sum_eq _ _ _
def Lf.gl : (l : Lf) → l.T → GL
 | .int k, n => .int k n
 | .bool, b => .bool b
 | .str, s => .str s
def glsOf : (ls : List Lf) → LT ls → List GL
 | [], _ => []
 | [l], x => [l.gl x]
 | l :: m :: ls, x => l.gl x.1 :: glsOf (m :: ls) x.2
def Lf.ungl : (l : Lf) → GL → Option l.T
 | .int k, .int k' n => bif decide (k = k') then some n else none
 | .bool, .bool b => some b
 | .str, .str s => some s
 | _, _ => none
def unglsOf : (ls : List Lf) → List GL → Option (LT ls)
 | [], [] => some ()
 | [l], [g] => l.ungl g
 | l :: m :: ls, g :: gs => match l.ungl g with
  | some x => match unglsOf (m :: ls) gs with
   | some y => some (x, y)
   | none => none
  | none => none
 | _, _ => none
theorem ungl_of {l : Lf} {g : GL} {x : l.T} (h : l.ungl g = some x) : g = l.gl x := by
 cases l <;> cases g <;> simp only [Lf.ungl, reduceCtorEq] at h
 ·rename_i k k' n
  by_cases hk : k = k'
  ·subst hk
   rw [decide_eq_true rfl, cond_true] at h
   rw [← Option.some.inj h]; rfl
  ·rw [decide_eq_false hk, cond_false] at h; cases h
 ·rw [← Option.some.inj h]; rfl
 ·rw [← Option.some.inj h]; rfl
theorem ungls_one (l : Lf) (g : GL) : unglsOf [l] [g] = l.ungl g := rfl
theorem ungls_more (l m : Lf) (ls : List Lf) (g : GL) (gs : List GL) : unglsOf (l :: m :: ls) (g :: gs) = (match l.ungl g with
  | some x => match unglsOf (m :: ls) gs with
   | some y => some (x, y)
   | none => none
  | none => none) := rfl
theorem ungls_of : ∀ (ls : List Lf) (gs : List GL) (x : LT ls), unglsOf ls gs = some x → gs = glsOf ls x := by
 intro ls
 induction ls with
 | nil =>
  intro gs x h
  cases gs with
  | nil => rfl
  | cons _ _ => exact nomatch h
 | cons l ls ih =>
  intro gs x h
  cases ls with
  | nil =>
   cases gs with
   | nil => exact nomatch h
   | cons g gs =>
    cases gs with
    | nil => rw [ungls_one] at h; rw [ungl_of h]; rfl
    | cons _ _ => exact nomatch h
  | cons m ls =>
   cases gs with
   | nil => exact nomatch h
   | cons g gs =>
    rw [ungls_more] at h
    split at h
    ·rename_i y hy
     split at h
     ·rename_i z hz
      rw [← Option.some.inj h, ungl_of hy, ih gs z hz]; rfl
     ·exact nomatch h
    ·exact nomatch h
inductive AK where
 | unit
 | val (s : Sh)
 | pin (p : Pin)
 | tup (f : Shs)
 | pins (ps : List Pin)
 | pan (t : TypeId) (agg : Bool) (l : Lf) (ls : List Lf)
 | pan0 (t : TypeId) (agg : Bool)
def AK.T : AK → Type
 | .unit => Unit
 | .val s => s.T
 | .pin _ => Unit
 | .tup f => f.T
 | .pins _ => Unit
 | .pan _ _ l ls => LT (l :: ls)
 | .pan0 _ _ => Unit
def AK.fresh : AK → Bool
 | .val s => s.fresh
 | .tup f => f.fresh
 | _ => true
def AK.lt (n : Nat) : AK → Bool
 | .val s => s.lt n
 | .pin p => p.lt n
 | .tup f => f.lt n
 | .pins ps => ps.all (Pin.lt n)
 | _ => true
def PT : AK → Obs → Type
 | .unit, os => ObT os
 | .pin _, os => ObT os
 | .pins _, os => ObT os
 | .pan0 _ _, os => ObT os
 | .val s, [] => s.T
 | .val s, o :: os => s.T × ObT (o :: os)
 | .tup f, [] => f.T
 | .tup f, o :: os => f.T × ObT (o :: os)
 | .pan _ _ l ls, [] => LT (l :: ls)
 | .pan _ _ l ls, o :: os => LT (l :: ls) × ObT (o :: os)
def mkP : (k : AK) → (os : Obs) → k.T → ObT os → PT k os
 | .unit, _, _, g => g
 | .pin _, _, _, g => g
 | .pins _, _, _, g => g
 | .pan0 _ _, _, _, g => g
 | .val _, [], x, _ => x
 | .val _, _ :: _, x, g => (x, g)
 | .tup _, [], x, _ => x
 | .tup _, _ :: _, x, g => (x, g)
 | .pan _ _ _ _, [], x, _ => x
 | .pan _ _ _ _, _ :: _, x, g => (x, g)
def prK : (k : AK) → (os : Obs) → PT k os → k.T
 | .unit, _, _ => ()
 | .pin _, _, _ => ()
 | .pins _, _, _ => ()
 | .pan0 _ _, _, _ => ()
 | .val _, [], x => x
 | .val _, _ :: _, x => x.1
 | .tup _, [], x => x
 | .tup _, _ :: _, x => x.1
 | .pan _ _ _ _, [], x => x
 | .pan _ _ _ _, _ :: _, x => x.1
def prO : (k : AK) → (os : Obs) → PT k os → ObT os
 | .unit, _, g => g
 | .pin _, _, g => g
 | .pins _, _, g => g
 | .pan0 _ _, _, g => g
 | .val _, [], _ => ()
 | .val _, _ :: _, x => x.2
 | .tup _, [], _ => ()
 | .tup _, _ :: _, x => x.2
 | .pan _ _ _ _, [], _ => ()
 | .pan _ _ _ _, _ :: _, x => x.2
theorem prK_mk (k : AK) (os : Obs) (x : k.T) (g : ObT os) : prK k os (mkP k os x g) = x := by
 cases k <;> cases os <;> rfl
theorem prO_mk (k : AK) (os : Obs) (x : k.T) (g : ObT os) : prO k os (mkP k os x g) = g := by
 cases k <;> cases os <;> rfl
inductive Pth where
 | arg (i c : Nat)
 | fld (k off : Nat)
def pth1 (vs : List SV) (H : Heap) (γ : List Nat) : Pth → Option Nat
 | .arg i c => match vs[i]? with
  | some v => match v.cellsOf[c]? with
   | some (.ptr j 0) => some j
   | _ => none
  | none => none
 | .fld k off => match lkp (nth γ k) H with
  | some (.cells _ cs) => match cs[off]? with
   | some (.ptr j 0) => some j
   | _ => none
  | _ => none
def bindG (vs : List SV) (H : Heap) : List Pth → List Nat → Option (List Nat)
 | [], γ => some γ
 | p :: ps, γ => match pth1 vs H γ p with
  | some j => bindG vs H ps (γ ++ [j])
  | none => none
theorem bindG_pre {vs : List SV} {H : Heap} : ∀ {ps : List Pth} {γ γ' : List Nat}, bindG vs H ps γ = some γ' → ∃ e, γ' = γ ++ e
 | [], γ, γ', h => ⟨[], by simp [bindG] at h; simp [h]⟩
 | p :: ps, γ, γ', h => by
  simp only [bindG] at h
  split at h
  ·obtain ⟨e, he⟩ := bindG_pre h
   exact ⟨_ :: e, by rw [he, List.append_assoc]; rfl⟩
  ·cases h
theorem nth_app : ∀ {γ e : List Nat} {k : Nat}, k < γ.length → nth (γ ++ e) k = nth γ k
 | [], _, _, h => by cases h
 | _ :: _, _, 0, _ => rfl
 | _ :: r, e, k + 1, h => by simp only [List.cons_append, nth]; exact nth_app (by simpa using h)
theorem nth_app2 : ∀ {γ e : List Nat} {k : Nat}, nth (γ ++ e) (γ.length + k) = nth e k
 | [], e, k => by simp
 | j :: r, e, k => by
  simp only [List.cons_append, List.length_cons]
  rw [show r.length + 1 + k = (r.length + k) + 1 by omega]
  simp only [nth]; exact nth_app2
theorem nth_range' : ∀ {m k a : Nat}, k < m → nth (List.range' a m) k = a + k
 | 0, _, _, h => by cases h
 | m + 1, 0, a, _ => rfl
 | m + 1, k + 1, a, h => by
  rw [List.range'_succ]
  simp only [nth]
  rw [nth_range' (by omega)]; omega
structure Alt where
 k : AK
 new : Obs
 bd : List Pth
inductive As where
 | none
 | some (f : Shs)
def As.T : As → Type
 | .none => Unit
 | .some f => f.T
def As.seen : As → Bool
 | .none => true
 | .some f => f.seen
def As.lt (n : Nat) : As → Bool
 | .none => true
 | .some f => f.lt n
structure Ct where
 as : As
 ob : Obs
 outs : List Alt
def AltsT (ob : Obs) : List Alt → Type
 | [] => Empty
 | [a] => PT a.k (ob ++ a.new)
 | a :: b :: r => PT a.k (ob ++ a.new) ⊕ AltsT ob (b :: r)
def isAlt (ob : Obs) : (l : List Alt) → AltsT ob l → ((a : Alt) → PT a.k (ob ++ a.new) → Prop) → Prop
 | [], _, _ => False
 | [a], y, P => P a y
 | a :: _ :: _, .inl y, P => P a y
 | _ :: b :: r, .inr z, P => isAlt ob (b :: r) z P
theorem isAlt_and {ob : Obs} : ∀ {l : List Alt} {z : AltsT ob l} {P Q : (a : Alt) → PT a.k (ob ++ a.new) → Prop}, isAlt ob l z P → isAlt ob l z Q → ∃ a ∈ l, ∃ y, P a y ∧ Q a y
 | [], _, _, _, h, _ => h.elim
 | [a], y, _, _, h, k => ⟨a, by simp, y, h, k⟩
 | a :: _ :: _, .inl y, _, _, h, k => ⟨a, by simp, y, h, k⟩
 | _ :: b :: r, .inr z, _, _, h, k => by
  obtain ⟨a, ha, y, h1, h2⟩ := isAlt_and (l := b :: r) h k
  exact ⟨a, List.mem_cons_of_mem _ ha, y, h1, h2⟩
def giveAs (γ : List Nat) : (a : As) → a.T → Nat → List SV × List HO
 | .none, _, _ => ([], [])
 | .some f, x, nx => giveA γ f x nx
noncomputable def takeAs {β : Type} (γ : List Nat) (fz : Bool) : (a : As) → List SV → Heap → (a.T → O β) → O β
 | .none, [], _, K => K ()
 | .some f, vs, H, K => takeA γ fz f vs H fun x _ => K x
 | _, _, _, _ => .no
def frzAs : As → List SV → St → St
 | .none, _, st => st
 | .some f, vs, st => frzA f vs st
def frzK : AK → SV → St → St
 | .val s, v, st => frzW s v st
 | .tup f, .tup vs, st => frzA f vs st
 | _, _, st => st
def repAs (w : World) (α : Nat → Value) (Av : Nat → Prop) : (a : As) → a.T → List Value → Prop
 | .none, _, vs => vs = []
 | .some f, x, vs => repA w α Av f x vs []
def giveK {T : Type} (γ : List Nat) (st : St) (K : SV → St → O T) (Kp : PV → St → O T) : (k : AK) → k.T → O T
 | .unit, _ => K (.tup []) st
 | .val s, x => K (valS s (giveS γ s x st.nx).1) (st.adds (giveS γ s x st.nx).2)
 | .pin p, _ => K (pinV γ p) st
 | .tup f, x => K (.tup (giveA γ f x st.nx).1) (st.adds (giveA γ f x st.nx).2)
 | .pins ps, _ => K (.tup (ps.map (pinV γ))) st
 | .pan t g l ls, x => Kp ⟨t, g, glsOf (l :: ls) x⟩ st
 | .pan0 t g, _ => Kp ⟨t, g, []⟩ st
noncomputable def takeK {β : Type} (γ : List Nat) : (k : AK) → SV → Heap → (k.T → O β) → O β
 | .unit, .tup [], _, K => K ()
 | .val s, v, H, K => takeV γ true s v H fun x _ => K x
 | .pin p, v, _, K => ifb (pinOk γ p v) (K ()) .no
 | .tup f, .tup vs, H, K => takeA γ true f vs H fun x _ => K x
 | .pins ps, .tup vs, _, K => ifb (pinsOk γ ps vs) (K ()) .no
 | _, _, _, _ => .no
noncomputable def takeP {β : Type} : (k : AK) → PV → (k.T → O β) → O β
 | .pan t g l ls, ⟨t', g', gs⟩, K => ifb (Nat.beq t t' && sameB g g') (match unglsOf (l :: ls) gs with
  | some x => K x
  | none => .no) .no
 | .pan0 t g, ⟨t', g', gs⟩, K => ifb (Nat.beq t t' && sameB g g' && gs.isEmpty) (K ()) .no
 | _, _, _ => .no
def fitPin : Pin → SV → Bool
 | .nil, .nilp => true
 | .ref _, .ptr _ _ => true
 | _, _ => false
def fitPins : List Pin → List SV → Bool
 | [], [] => true
 | p :: ps, v :: vs => fitPin p v && fitPins ps vs
 | _, _ => false
def fitA : Shs → List SV → Bool
 | .one _ ps, _ :: vs => fitPins ps vs
 | .cons _ r, _ :: vs => fitA r vs
 | .pin p r, v :: vs => fitPin p v && fitA r vs
 | .pins ps, vs => fitPins ps vs
 | _, _ => false
def fitK : AK → SV → Bool
 | .unit, _ => true
 | .val _, _ => true
 | .pin p, v => fitPin p v
 | .tup f, .tup vs => fitA f vs
 | .pins ps, .tup vs => fitPins ps vs
 | _, _ => false
def fitP : AK → PV → Bool
 | .pan t g _ _, e => Nat.beq t e.t && sameB g e.agg
 | .pan0 t g, e => Nat.beq t e.t && sameB g e.agg
 | _, _ => false
def resL : SV → List SV
 | .tup vs => vs
 | v => [v]
noncomputable def takeAlt {β : Type} (ob : Obs) (γ : List Nat) (a : Alt) (vs : List SV) (Fz : St → St) (st : St) (X : List Nat → Heap → (a.k.T → O β) → O β) (k : PT a.k (ob ++ a.new) → O β) : O β :=
 foldJs (opns st.H) st fun st => match bindG vs st.H a.bd γ with
 | some γ' => ifb (Nat.ble (ob ++ a.new).length γ'.length) (takeO γ' 0 (ob ++ a.new) (Fz (frzO γ' 0 (ob ++ a.new) st)).H fun g H => X γ' H fun x => k (mkP a.k (ob ++ a.new) x g)) .no
 | none => .no
noncomputable def outK {β : Type} (ob : Obs) (γ : List Nat) : (l : List Alt) → SV → St → (AltsT ob l → O β) → O β
 | [], _, _, _ => .no
 | [a], v, st, k => takeAlt ob γ a (resL v) (frzK a.k v) st (fun γ' H K => takeK γ' a.k v H K) k
 | a :: b :: r, v, st, k => match fitK a.k v with
  | true => takeAlt ob γ a (resL v) (frzK a.k v) st (fun γ' H K => takeK γ' a.k v H K) fun y => k (.inl y)
  | false => outK ob γ (b :: r) v st fun z => k (.inr z)
noncomputable def outP {β : Type} (ob : Obs) (γ : List Nat) : (l : List Alt) → PV → St → (AltsT ob l → O β) → O β
 | [], _, _, _ => .no
 | [a], e, st, k => takeAlt ob γ a [] id st (fun _ _ K => takeP a.k e K) k
 | a :: b :: r, e, st, k => match fitP a.k e with
  | true => takeAlt ob γ a [] id st (fun _ _ K => takeP a.k e K) fun y => k (.inl y)
  | false => outP ob γ (b :: r) e st fun z => k (.inr z)
noncomputable def altsV {T : Type} (ob : Obs) : (l : List Alt) → AltsT ob l → ((a : Alt) → PT a.k (ob ++ a.new) → O T) → O T
 | [], _, _ => .no
 | [a], y, k => k a y
 | a :: b :: r, z, k => O.sum (.ok z) (k a) fun z => altsV ob (b :: r) z k
noncomputable def altsK {T : Type} (ob : Obs) : (l : List Alt) → O (AltsT ob l) → ((a : Alt) → PT a.k (ob ++ a.new) → O T) → O T
 | [], _, _ => .no
 | [a], m, k => O.bind m (k a)
 | a :: b :: r, m, k => O.sum m (k a) fun z => altsV ob (b :: r) z k
theorem altsV_is {T : Type} {ob : Obs} {k : (a : Alt) → PT a.k (ob ++ a.new) → O T} {res : O T} (hne : res ≠ .no) : ∀ {l : List Alt} {z : AltsT ob l}, altsV ob l z k = res → isAlt ob l z fun a y => k a y = res
 | [], _, h => absurd h.symm hne
 | [a], y, h => h
 | a :: b :: r, .inl y, h => (O.sum_inl y (k a) (fun z => altsV ob (b :: r) z k)).symm.trans h
 | a :: b :: r, .inr z, h => altsV_is (l := b :: r) hne ((O.sum_inr z (k a) (fun z => altsV ob (b :: r) z k)).symm.trans h)
theorem bind_is {α β : Type} {m : O α} {f : α → O β} {res : O β} (hne : res ≠ .no) (h : O.bind m f = res) : ∃ z, m = .ok z ∧ f z = res := by
 unfold O.bind at h
 rw [O.both_eq] at h
 cases m with
 | ok z => exact ⟨z, rfl, h⟩
 | pan e => exact absurd h.symm hne
 | no => exact absurd h.symm hne
theorem sum_is {ε α β : Type} {m : O (ε ⊕ α)} {g : ε → O β} {f : α → O β} {res : O β} (hne : res ≠ .no) (h : O.sum m g f = res) : ∃ z, m = .ok z ∧ O.sum (.ok z) g f = res := by
 cases m with
 | ok z => exact ⟨z, rfl, h⟩
 | pan e => rw [O.sum_eq] at h; exact absurd h.symm hne
 | no => rw [O.sum_eq] at h; exact absurd h.symm hne
theorem altsK_is {T : Type} {ob : Obs} {k : (a : Alt) → PT a.k (ob ++ a.new) → O T} {res : O T} (hne : res ≠ .no) : ∀ {l : List Alt} {m : O (AltsT ob l)}, altsK ob l m k = res → ∃ z, m = .ok z ∧ isAlt ob l z fun a y => k a y = res
 | [], _, h => absurd h.symm hne
 | [a], m, h => bind_is hne h
 | a :: b :: r, m, h => by
  obtain ⟨z, h1, h2⟩ := sum_is (ε := PT a.k (ob ++ a.new)) (α := AltsT ob (b :: r)) hne h
  exact ⟨z, h1, altsV_is (l := a :: b :: r) hne h2⟩
def Any : Nat → Prop := fun _ => True
def repE (w : World) (α : Nat → Value) (Av : Nat → Prop) : (k : AK) → k.T → Ending → List Nat → Prop
 | .unit, _, .returned v, F => v = .tuple #[] ∧ F = []
 | .val s, x, .returned v, F => repV w α Av s x v F
 | .pin p, _, .returned v, F => v = pinD α p ∧ F = []
 | .tup f, x, .returned v, F => ∃ vs, v = .tuple vs.toArray ∧ repA w α Av f x vs F
 | .pins ps, _, .returned v, F => v = .tuple (ps.map (pinD α)).toArray ∧ F = []
 | .pan t g l ls, x, .panicked ch, F => ch = panOf ⟨t, g, glsOf (l :: ls) x⟩ ∧ F = []
 | .pan0 t g, _, .panicked ch, F => ch = panOf ⟨t, g, []⟩ ∧ F = []
 | _, _, _, _ => False
structure Keep (F : List Nat) (w w' : World) : Prop where
 os : w'.os = w.os
 tape : w'.tape = w.tape
 output : w'.output = w.output
 size : w.heap.size ≤ w'.heap.size
 heap : ∀ b, b < w.heap.size → b ∉ F → w'.heap[b]? = w.heap[b]?
def FnPostC (w : World) (C : Ct) (α : Nat → Value) (F0 : List Nat) (Z : Nat → Prop) (m : O (AltsT C.ob C.outs)) (e : Ending) (w' : World) : Prop :=
 ∃ z, m = .ok z ∧ Keep F0 w w' ∧ isAlt C.ob C.outs z fun a y => ∃ α' F1 F2 Z', (∀ k, k < C.ob.length → α' k = α k) ∧ repO w' α' Z' 0 (C.ob ++ a.new) (prO a.k _ y) F1 ∧ repE w' α' Z' a.k (prK a.k _ y) e F2 ∧ (F1 ++ F2).Nodup ∧ (∀ b ∈ F1 ++ F2, b ∈ F0 ∨ w.heap.size ≤ b) ∧
  ∀ b, Z' b → (Z b ∨ b ∈ F0 ∨ w.heap.size ≤ b) ∧ b ∉ F1 ++ F2 ∧ b < w'.heap.size
def FnOkC (P : Program) (f : FuncId) (C : Ct) (S : C.as.T → ObT C.ob → O (AltsT C.ob C.outs)) : Prop :=
 ∀ x g, S x g ≠ .no → ∀ w vs α F0 (Z : Nat → Prop), (∀ b, Z b → b < w.heap.size ∧ b ∉ F0) → repO w α Z 0 C.ob g F0 → F0.Nodup → repAs w α Z C.as x vs → Calls P f vs.toArray w (FnPostC w C α F0 Z (S x g))
def altOk (ob : Obs) (a : Alt) : Bool := obsLt (ob ++ a.new).length (ob ++ a.new) && a.k.lt (ob ++ a.new).length
def Ct.good (C : Ct) : Bool := C.as.seen && C.as.lt C.ob.length && obsLt C.ob.length C.ob && C.outs.all (altOk C.ob)
def Ct.ret (C : Ct) : Bool := !(C.outs.all fun a => a.k.fresh && obsFresh (C.ob ++ a.new))
section
variable {β : Type} {S : Bl} {w0 : World} {ν : Nat → Value} {st : St} {w : World} {γ : List Nat} {α : Nat → Value}
theorem repO_ptr : ∀ {os : Obs} {i : Nat} {x : ObT os} {F : List Nat} {Av : Nat → Prop}, repO w α Av i os x F → ∀ k, i ≤ k → k < i + os.length → ∃ b, α k = .pointer (some ⟨b, 0, none⟩)
 | [], i, _, _, _, _, k, h1, h2 => by simp at h2; omega
 | [o], i, x, F, Av, h, k, h1, h2 => by
  obtain ⟨b, _, _, hb, _⟩ := h
  have : k = i := by simp at h2; omega
  subst this; exact ⟨b, hb⟩
 | o :: p :: os, i, x, F, Av, h, k, h1, h2 => by
  obtain ⟨F1, F2, _, ⟨b, _, _, hb, _⟩, h'⟩ := h
  by_cases e : k = i
  ·subst e; exact ⟨b, hb⟩
  ·exact repO_ptr h' k (by omega) (by simp only [List.length_cons] at h2 ⊢; omega)
theorem repO_lt {w : World} : ∀ {os : Obs} {i : Nat} {x : ObT os} {F : List Nat} {Av : Nat → Prop}, os = [] → repO w α Av i os x F → F = []
 | [], _, _, _, _, _, h => h
 | _ :: _, _, _, _, _, e, _ => by cases e
theorem takeO_names (hR : RelW S w0 ν st w) {res : O β} (hne : res ≠ .no) : ∀ (os : Obs) (i : Nat) (H : Heap) (K : ObT os → Heap → O β), (∀ j o, lkp j H = some o → lkp j st.H = some o) → takeO γ i os H K = res →
  ∀ k, i ≤ k → k < i + os.length → nth γ k < st.nx ∧ ν (nth γ k) = den ν (.ptr (nth γ k) 0)
 | [], i, H, K, hs, h, k, h1, h2 => by simp at h2; omega
 | [o], i, H, K, hs, h, k, h1, h2 => by
  have : k = i := by simp at h2; omega
  subst this
  unfold takeO takeOb at h
  split at h
  ·rename_i T vs hj
   obtain ⟨b, hb, _⟩ := hR.sat _ _ (hs _ _ hj)
   exact ⟨(hR.lt _ _ (hs _ _ hj)).1, by simp only [den]; rw [hb]; rfl⟩
  ·exact absurd h.symm hne
 | o :: p :: os, i, H, K, hs, h, k, h1, h2 => by
  unfold takeO at h
  by_cases e : k = i
  ·subst e
   unfold takeOb at h
   split at h
   ·rename_i T vs hj
    obtain ⟨b, hb, _⟩ := hR.sat _ _ (hs _ _ hj)
    exact ⟨(hR.lt _ _ (hs _ _ hj)).1, by simp only [den]; rw [hb]; rfl⟩
   ·exact absurd h.symm hne
  ·unfold takeOb at h
   split at h
   ·rename_i T vs hj
    by_cases hc : Nat.beq o.1 T = true
    ·rw [hc, ifb_true] at h
     obtain ⟨x, H', F, h1', _, t1⟩ := takeF_sound (γ := γ) (fz := true) (α := fun k => den ν (.ptr (nth γ k) 0)) (Av := Any) hR (fun k _ => rfl) hne o.2 vs _ _ (fun j q hq => hs j q (lkp_del_some hq).2) (fun _ _ _ _ _ => trivial) h
     exact takeO_names hR hne (p :: os) (Nat.succ i) H' _ (fun j q hq => hs j q (lkp_del_some (t1.1 j q hq)).2) h1' k (by omega) (by simp only [List.length_cons] at h2 ⊢; omega)
    ·rw [Bool.not_eq_true] at hc; rw [hc] at h; exact absurd h.symm hne
   ·exact absurd h.symm hne
mutual
theorem seen_S {Av : Nat → Prop} : ∀ (s : Sh) (x : s.T) (vs : List Value) (F : List Nat), s.seen = true → repS w α Av s x vs F → F = []
 | .leaf l, x, vs, F, _, h => h.2
 | .row own t ls, x, vs, F, hs, h => by
  obtain ⟨v, _, _, _, hF, _⟩ := h
  cases own with
  | true => simp [Sh.seen] at hs
  | false => rw [hF]; rfl
 | .map _ _ _ _ _, x, vs, F, hs, h => by cases hs
 | .tab own t f, x, vs, F, hs, h => by
  simp only [Sh.seen, Bool.and_eq_true] at hs
  have hk : (Sh.tab own t f).tabOk = true := by
   obtain ⟨v, us, F0, F1, _, _, h1, _⟩ := h
   simp only [Sh.tabOk, hs.1, hs.2, Bool.true_and]
   exact Nat.ble_eq_true_of_le h1
  exact (tabOk_S (w := w) (α := α) (Av := Av) (.tab own t f) hk).2 x vs F h
 | .box _ _, x, vs, F, hs, h => by cases hs
 | .agg f, x, vs, F, hs, h => seen_F f x vs F hs h
theorem seen_F {Av : Nat → Prop} : ∀ (f : Shs) (x : f.T) (vs : List Value) (F : List Nat), f.seen = true → repF w α Av f x vs F → F = []
 | .one s ps, x, vs, F, hs, h => by
  obtain ⟨us, _, h⟩ := h
  exact seen_S s x us F hs h
 | .cons s r, x, vs, F, hs, h => by
  obtain ⟨_, _, F1, F2, _, rfl, h1, h2⟩ := h
  simp only [Shs.seen, Bool.and_eq_true] at hs
  rw [seen_S s x.1 _ F1 hs.1 h1, seen_F r x.2 _ F2 hs.2 h2]; rfl
 | .pin p r, x, vs, F, hs, h => by
  obtain ⟨us, _, h⟩ := h
  exact seen_F r x us F hs h
 | .pins ps, x, vs, F, hs, h => h.2
end
theorem seen_A {Av : Nat → Prop} : ∀ (f : Shs) (x : f.T) (vs : List Value) (F : List Nat), f.seen = true → repA w α Av f x vs F → F = []
 | .one s ps, x, vs, F, hs, h => by
  obtain ⟨v, _, cs, h, _⟩ := h
  exact seen_S s x cs F hs h
 | .cons s r, x, vs, F, hs, h => by
  obtain ⟨_, _, F1, F2, _, rfl, ⟨cs, h1, _⟩, h2⟩ := h
  simp only [Shs.seen, Bool.and_eq_true] at hs
  rw [seen_S s x.1 cs F1 hs.1 h1, seen_A r x.2 _ F2 hs.2 h2]; rfl
 | .pin p r, x, vs, F, hs, h => by
  obtain ⟨us, _, h⟩ := h
  exact seen_A r x us F hs h
 | .pins ps, x, vs, F, hs, h => h.2
theorem takeAs_sound {Av : Nat → Prop} {fz : Bool} (hR : RelW S w0 ν st w) (hG : GamT γ α ν) {res : O β} (hne : res ≠ .no) (as : As) (hsn : as.seen = true) (vs : List SV) (H : Heap) (K : as.T → O β) (hs : ∀ j o, lkp j H = some o → lkp j st.H = some o) (hA : Hangs fz ν H Av) (h : takeAs γ fz as vs H K = res) :
  ∃ x, K x = res ∧ repAs w α Av as x (denL ν vs) := by
 cases as with
 | none =>
  cases vs with
  | nil => exact ⟨(), h, rfl⟩
  | cons _ _ => exact absurd h.symm hne
 | some f =>
  obtain ⟨x, H', F, h1, h2, h3⟩ := takeA_sound hR hG hne f vs H _ hs hA h
  refine ⟨x, h1, ?_⟩
  have := seen_A f x _ F hsn h2
  subst this
  exact h2
theorem takeK_sound {Av : Nat → Prop} (hR : RelW S w0 ν st w) (hG : GamT γ α ν) {res : O β} (hne : res ≠ .no) (k : AK) (v : SV) (H : Heap) (K : k.T → O β) (hs : ∀ j o, lkp j H = some o → lkp j st.H = some o) (hA : Hangs true ν H Av) (h : takeK γ k v H K = res) :
  ∃ x H' F, K x = res ∧ repE w α Av k x (.returned (den ν v)) F ∧ Taken ν H H' F := by
 cases k with
 | unit =>
  cases v with
  | tup vs =>
   cases vs with
   | nil => exact ⟨(), H, [], h, ⟨by simp [den, denL], rfl⟩, Taken.refl ν H⟩
   | cons _ _ => exact absurd h.symm hne
  | _ => exact absurd h.symm hne
 | val s =>
  obtain ⟨x, H', F, h1, h2, h3⟩ := takeV_sound hR hG hne s v H _ hs hA h
  exact ⟨x, H', F, h1, h2, h3⟩
 | pin p =>
  simp only [takeK] at h
  by_cases hp : pinOk γ p v = true
  ·rw [hp, ifb_true] at h
   exact ⟨(), H, [], h, ⟨pin_sound hG hp, rfl⟩, Taken.refl ν H⟩
  ·rw [Bool.not_eq_true] at hp; rw [hp] at h; exact absurd h.symm hne
 | tup f =>
  cases v with
  | tup vs =>
   obtain ⟨x, H', F, h1, h2, h3⟩ := takeA_sound hR hG hne f vs H _ hs hA h
   exact ⟨x, H', F, h1, ⟨_, by simp [den], h2⟩, h3⟩
  | _ => exact absurd h.symm hne
 | pins ps =>
  cases v with
  | tup vs =>
   simp only [takeK] at h
   by_cases hp : pinsOk γ ps vs = true
   ·rw [hp, ifb_true] at h
    exact ⟨(), H, [], h, ⟨by simp only [den]; rw [pins_sound hG hp], rfl⟩, Taken.refl ν H⟩
   ·rw [Bool.not_eq_true] at hp; rw [hp] at h; exact absurd h.symm hne
  | _ => exact absurd h.symm hne
 | pan t g l ls => cases v <;> exact absurd h.symm hne
 | pan0 t g => cases v <;> exact absurd h.symm hne
theorem takeP_sound {Av : Nat → Prop} {res : O β} (hne : res ≠ .no) (k : AK) (e : PV) (K : k.T → O β) (h : takeP k e K = res) : ∃ x, K x = res ∧ repE w α Av k x (.panicked (panOf e)) [] := by
 obtain ⟨t', g', gs⟩ := e
 cases k with
 | pan t g l ls =>
  simp only [takeP] at h
  by_cases hc : (Nat.beq t t' && sameB g g') = true
  ·rw [hc, ifb_true] at h
   simp only [Bool.and_eq_true] at hc
   obtain rfl := Nat.eq_of_beq_eq_true hc.1
   obtain rfl := sameB_eq hc.2
   split at h
   ·rename_i x hx
    exact ⟨x, h, by rw [ungls_of (l :: ls) gs x hx], rfl⟩
   ·exact absurd h.symm hne
  ·rw [Bool.not_eq_true] at hc; rw [hc] at h; exact absurd h.symm hne
 | pan0 t g =>
  simp only [takeP] at h
  by_cases hc : (Nat.beq t t' && sameB g g' && gs.isEmpty) = true
  ·rw [hc, ifb_true] at h
   simp only [Bool.and_eq_true, List.isEmpty_iff] at hc
   obtain ⟨⟨hc1, hc2⟩, rfl⟩ := hc
   obtain rfl := Nat.eq_of_beq_eq_true hc1
   obtain rfl := sameB_eq hc2
   exact ⟨(), h, rfl, rfl⟩
  ·rw [Bool.not_eq_true] at hc; rw [hc] at h; exact absurd h.symm hne
 | _ => exact absurd h.symm hne
end
end Go.Aq
end
