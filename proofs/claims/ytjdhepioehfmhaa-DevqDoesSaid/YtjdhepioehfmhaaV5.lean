/- The evaluator is right: rows. -/
import Derived.Test.YtjdhepioehfmhaaV4
import Derived.Laws.OwnMore
import Derived.Laws.BytesString
namespace Go.Aq
open Go.RowKit (Below)
set_option linter.unusedVariables false

theorem run_storeCells_thaw (P : Program) (g o : Nat) (t : TypeId) (fz : Nat × Nat) : ∀ (vs : List Value) (i : Nat) (cur : Array Value) (w : World), w.heap[g]? = some (.cells cur t fz) → Thawed cur.size fz → o + i + vs.length ≤ cur.size → (∀ v ∈ vs, v.oneCell' = true) →
    (storeCells ⟨g, o, none⟩ vs i).run P w = .ok () (w.setRow g (cur.toList.take (o + i) ++ vs ++ cur.toList.drop (o + i + vs.length)).toArray)
  | [], i, cur, w, hg, _, _, _ => by
    simp only [storeCells, List.append_nil, List.length_nil, Nat.add_zero, List.take_append_drop, Array.toArray_toList]
    rw [setRow_self w g cur t fz hg]
    rfl
  | v :: rest, i, cur, w, hg, hz, hl, h1 => by
    have hi : o + i < cur.size := by simp at hl; omega
    have hadd : (⟨g, o, none⟩ : Addr).add i = ⟨g, o + i, none⟩ := add_plain g o i
    have hcell : w.cell? ⟨g, o + i, none⟩ = some cur[o + i] := by simp [World.cell?, hg, hi]
    have hfro : w.frozen? ⟨g, o + i, none⟩ = false := by
      have := hz (o + i) hi
      simp only [World.frozen?, hg]
      rw [Bool.and_eq_false_iff]
      simp only [decide_eq_false_iff_not]
      omega
    have hst : (store ((⟨g, o, none⟩ : Addr).add i) v).run P w = .ok () (w.setRow g (cur.setIfInBounds (o + i) v)) := by
      rw [hadd, run_store P w _ v _ (h1 v (by simp)), hcell]
      simp [hfro, setCell_eq_setRow w g (o + i) cur t fz v hg]
    have ih := run_storeCells_thaw P g o t fz rest (i + 1) (cur.setIfInBounds (o + i) v) (w.setRow g (cur.setIfInBounds (o + i) v)) (setRow_heap w g cur _ t _ hg) (by simpa using hz) (by simp at hl ⊢; omega) (fun x hx => h1 x (by simp [hx]))
    simp only [storeCells, Sem.run_bind, hst, Result.andThen_ok, ih, setRow_setRow]
    congr 3
    have e := list_seg_step cur.toList (o + i) v rest (by simp at hl ⊢; omega)
    simpa [Array.toList_setIfInBounds, Nat.add_assoc] using e

/-- The cells of a row can be read. -/
def Reads (w : World) (v : Value) (ls : List Lf) (xs : List (LT ls)) : Prop :=
  (v = .slice none 0 0 ∧ xs = []) ∨ ∃ a cap, v = .slice (some a) xs.length cap ∧ xs.length ≤ cap ∧ ∀ i u, (flat ls xs)[i]? = some u → w.cell? (a.add i) = some u
theorem RowSat.reads {w : World} {v : Value} {own : Bool} {t : TypeId} {ls : List Lf} {xs : List (LT ls)} (h : RowSat w v own t ls xs) : Reads w v ls xs := by
  rcases h with h | ⟨a, cap, hv, hc, h1, h2⟩
  · exact .inl h
  · refine .inr ⟨a, cap, hv, hc, ?_⟩
    cases own with
    | false => exact (h1 rfl).1
    | true =>
      obtain ⟨e1, e2, _, cur, fz, e4, _, _, e7⟩ := h2 rfl
      obtain ⟨b, o, sp⟩ := a
      simp only at e1 e2
      subst e1; subst e2
      intro i u hu
      have hlt : i < xs.length * ls.length := by
        have := (List.getElem?_eq_some_iff.1 hu).1
        rwa [flat_length] at this
      rw [add_plain, Nat.zero_add, cell_of_row w b i cur t fz e4]
      rw [← e7, List.getElem?_take, if_pos hlt] at hu
      simpa using hu

theorem posI_cons {l : Int} {ls : List Int} (h : posI (l :: ls) = true) : 0 ≤ l ∧ posI ls = true := by
  simpa [posI] using h
theorem sumI_cons (l : Int) (ls : List Int) : sumI (l :: ls) = l + sumI ls := by
  cases ls <;> simp [sumI]
theorem sumI_nonneg : ∀ {ls : List Int}, posI ls = true → 0 ≤ sumI ls
  | [], _ => by simp [sumI]
  | l :: ls, h => by
    have h := posI_cons h
    have := sumI_nonneg h.2
    rw [sumI_cons]; omega
theorem chop_cap (sz : Nat) : ∀ (ch : List Int) (p : Addr × Nat), posI ch = true → (chop sz ch p).2 = p.2 - (sumI ch).toNat
  | [], p, _ => by simp [chop, sumI]
  | l :: ls, p, h => by
    have h := posI_cons h
    have := sumI_nonneg h.2
    simp only [chop]
    rw [chop_cap sz ls _ h.2, sumI_cons]
    omega
theorem chop_add (sz b o : Nat) : ∀ (ch : List Int) (k c : Nat), posI ch = true → sumI ch < (c : Int) → (chop sz ch (⟨b, o + k * sz, none⟩, c)).1 = ⟨b, o + (k + (sumI ch).toNat) * sz, none⟩
  | [], k, c, _, _ => by simp [chop, sumI]
  | l :: ls, k, c, h, hc => by
    have h := posI_cons h
    have hn := sumI_nonneg h.2
    rw [sumI_cons] at hc
    simp only [chop]
    rw [if_neg (by omega), add_plain, show o + k * sz + l.toNat * sz = o + (k + l.toNat) * sz by rw [Nat.add_mul]; omega, chop_add sz b o ls (k + l.toNat) (c - l.toNat) h.2 (by omega), sumI_cons]
    congr 2
    rw [show (l + sumI ls).toNat = l.toNat + (sumI ls).toNat by omega, Nat.add_assoc]
theorem chop_snoc (sz : Nat) (l : Int) : ∀ (ch : List Int) (p : Addr × Nat), chop sz (ch ++ [l]) p = ((if (chop sz ch p).2 = l.toNat then (chop sz ch p).1 else (chop sz ch p).1.add (l.toNat * sz)), (chop sz ch p).2 - l.toNat)
  | [], p => rfl
  | m :: ls, p => by simp only [List.cons_append, chop]; exact chop_snoc sz l ls _

/-- What is known of a name's value, whatever the world. -/
def RowFacts (ν : Nat → Value) (H : Heap) : Prop := ∀ j own t ls xs, lkp j H = some (.row own t ls xs) → ls ≠ [] ∧ RowVal (ν j) xs.length
theorem RelW.facts {S : Nat → Prop} {w0 : World} {ν : Nat → Value} {st : St} {w : World} (h : RelW S w0 ν st w) : RowFacts ν st.H := fun j own t ls xs hj => ⟨(h.sat j _ hj).1, (h.sat j _ hj).2.rowVal (h.sat j _ hj).1⟩

structure SlOk (ν : Nat → Value) (H : Heap) (nx : Nat) (v : SV) (s : Sl) : Prop where
  at_ : lkp s.j H = some (.row s.own s.t s.ls s.xs)
  ne : s.ls ≠ []
  val : RowVal (ν s.j) s.xs.length
  is : den ν v = cutV s.ls.length s.ch s.n (ν s.j)
  whole : s.ch = [] → s.ok = true ∨ s.n < 0 ∨ s.xs.length < s.n
theorem slOf_ok {ν : Nat → Value} {H : Heap} {nx : Nat} (hF : RowFacts ν H) {v : SV} {s : Sl} (h : slOf H v = some s) : SlOk ν H nx v s ∧ (svLt nx v = true → s.j < nx) := by
  have whole : ∀ s : Sl, s.ch = [] → s.ok = true ∨ s.n < 0 ∨ s.xs.length < s.n := by
    intro s hs
    unfold Sl.ok
    rw [hs]
    simp only [decide_eq_true_eq]
    omega
  unfold slOf at h
  split at h
  · rename_i j
    split at h
    · rename_i own t ls xs hj
      cases h
      have hf := hF j own t ls xs hj
      refine ⟨⟨hj, hf.1, hf.2, ?_, whole _⟩, fun hv => by simpa [svLt] using hv⟩
      simp only [den]
      rcases hf.2 with ⟨e, hn⟩ | ⟨a, cap, e, _⟩
      · rw [e]; rfl
      · rw [e]; simp [hdr, cutV, chop]
    · cases h
  · rename_i j sz ch n
    split at h
    · rename_i own t ls xs hj
      by_cases hb : Nat.beq sz ls.length = true
      · rw [hb, cond_true] at h
        have hb := Nat.eq_of_beq_eq_true hb
        subst hb
        cases h
        have hf := hF j own t ls xs hj
        exact ⟨⟨hj, hf.1, hf.2, rfl, whole _⟩, fun hv => by simpa [svLt] using hv⟩
      · rw [Bool.not_eq_true] at hb; rw [hb] at h; cases h
    · cases h
  · cases h
theorem Sl.ok_spec {s : Sl} (h : s.ok = true) : posI s.ch = true ∧ 0 ≤ s.n ∧ sumI s.ch + s.n ≤ (s.xs.length : Int) := by
  unfold Sl.ok at h
  split at h
  · rename_i hc
    rw [hc]
    simp only [decide_eq_true_eq] at h
    exact ⟨rfl, h.1, by simpa [sumI] using h.2⟩
  · simp only [Bool.and_eq_true, decide_eq_true_eq] at h
    exact h
/-- A slice's value: nil, or an address and what is left from it on. -/
theorem SlOk.shape {ν : Nat → Value} {H : Heap} {nx : Nat} {v : SV} {s : Sl} (h : SlOk ν H nx v s) (hk : s.ok = true) :
    (den ν v = .slice none 0 0 ∧ ν s.j = .slice none 0 0 ∧ s.n = 0 ∧ s.xs.length = 0) ∨
    ∃ a cap, ν s.j = .slice (some a) s.xs.length cap ∧ den ν v = .slice (some (chop s.ls.length s.ch (a, cap)).1) s.n.toNat (cap - (sumI s.ch).toNat) ∧ s.n.toNat ≤ cap - (sumI s.ch).toNat ∧ s.xs.length ≤ cap ∧
      (0 < s.n → a.spot = none ∧ (chop s.ls.length s.ch (a, cap)).1 = ⟨a.block, a.off + (sumI s.ch).toNat * s.ls.length, none⟩) := by
  obtain ⟨h1, h2, h3⟩ := Sl.ok_spec hk
  have h4 := sumI_nonneg h1
  rcases h.val with ⟨e, hn⟩ | ⟨a, cap, e, hc, hsp⟩
  · refine .inl ⟨by rw [h.is, e]; rfl, e, by omega, hn⟩
  · refine .inr ⟨a, cap, e, ?_, by omega, hc, fun hpos => ?_⟩
    · rw [h.is, e]
      simp only [cutV, chop_cap _ _ _ h1]
    · have hs := hsp (by omega)
      obtain ⟨b, o, sp⟩ := a
      simp only at hs
      subst hs
      refine ⟨rfl, ?_⟩
      have := chop_add s.ls.length b o s.ch 0 cap h1 (by omega)
      simpa using this

theorem flat_sub (ls : List Lf) (xs : List (LT ls)) (lo n : Nat) (i : Nat) (u : Value) (h : (flat ls ((xs.drop lo).take n))[i]? = some u) : (flat ls xs)[lo * ls.length + i]? = some u := by
  rw [flat_take, flat_drop, List.getElem?_take] at h
  split at h
  · rwa [List.getElem?_drop] at h
  · cases h

/-- The elements that a slice has can be read. -/
theorem evList_reads {T : Type} {S : Nat → Prop} {w0 : World} {ν : Nat → Value} {st : St} {w : World} (hR : RelW S w0 ν st w) {v : SV} {K : (ls : List Lf) → TypeId → List (LT ls) → O T} {res : O T}
    (h : evList st.H v K = res) (hne : res ≠ .no) :
    ∃ j o ls t xs, K ls t xs = res ∧ ls ≠ [] ∧ lkp j st.H = some o ∧ (v = .osl j ∨ ∃ sz ch n, v = .sl j sz ch n) ∧ ∀ w', (∀ b, b < w.heap.size → onOf (ν j) o = some b → w'.heap[b]? = w.heap[b]?) → Reads w' (den ν v) ls xs := by
  unfold evList at h
  split at h
  · rename_i j
    split at h
    · rename_i own t ls xs hj
      have hs := hR.sat j _ hj
      refine ⟨j, _, ls, t, xs, h, hs.1, hj, .inl rfl, fun w' hw => ?_⟩
      have := (hs.2.congr (w' := w') (fun b hb => hw b (hoSat_lt hs b hb) hb)).reads
      rcases this with ⟨e, hx⟩ | ⟨a, cap, e, hl, hc⟩
      · exact .inl ⟨by simp only [den, e]; rfl, hx⟩
      · exact .inr ⟨a, cap, by simp only [den, e]; rfl, hl, hc⟩
    · exact absurd h.symm hne
  · rename_i hnot
    split at h
    · rename_i s hs
      obtain ⟨hok, h⟩ := O.chk_ne h hne
      obtain ⟨hS, -⟩ := slOf_ok (nx := st.nx) hR.facts hs
      have hsat := hR.sat s.j _ hS.at_
      refine ⟨s.j, _, s.ls, s.t, _, h, hS.ne, hS.at_, ?_, fun w' hw => ?_⟩
      · unfold slOf at hs
        split at hs
        · rename_i j; exact absurd rfl (hnot j)
        · rename_i j sz ch n
          split at hs
          · rename_i own' t' ls' xs' _
            by_cases hb : Nat.beq sz ls'.length = true
            · rw [hb, cond_true] at hs; cases hs; exact .inr ⟨_, _, _, rfl⟩
            · rw [Bool.not_eq_true] at hb; rw [hb] at hs; cases hs
          · cases hs
        · cases hs
      obtain ⟨h1, h2, h3⟩ := Sl.ok_spec hok
      have h4 := sumI_nonneg h1
      have hrd := (hsat.2.congr (w' := w') (fun b hb => hw b (hoSat_lt hsat b hb) hb)).reads
      have hlen : (sub s.xs (sumI s.ch) s.n).length = s.n.toNat := by simp [sub]; omega
      rcases hS.shape hok with ⟨e1, _, e3, e4⟩ | ⟨a, cap, e1, e2, e8, _, e5⟩
      · refine .inl ⟨e1, ?_⟩
        have : (sub s.xs (sumI s.ch) s.n).length = 0 := by omega
        exact List.eq_nil_of_length_eq_zero this
      · refine .inr ⟨_, _, by rw [hlen]; exact e2, by rw [hlen]; exact e8, fun i u hu => ?_⟩
        have hpos : 0 < s.n := by
          rcases Int.lt_or_le 0 s.n with h | h
          · exact h
          · have : sub s.xs (sumI s.ch) s.n = [] := List.eq_nil_of_length_eq_zero (by omega)
            rw [this] at hu; simp [flat] at hu
        obtain ⟨e6, e7⟩ := e5 hpos
        have hu' := flat_sub _ _ _ _ _ _ hu
        rcases hrd with ⟨e, _⟩ | ⟨a', cap', e, _, hc⟩
        · rw [e1] at e; cases e
        · rw [e1] at e
          cases e
          have := hc _ _ hu'
          obtain ⟨b, o, sp⟩ := a
          simp only at e6 e7
          subst e6
          rw [e7, add_plain]
          rw [add_plain] at this
          rw [Nat.add_assoc]
          exact this
    · exact absurd h.symm hne

/-- A new row. -/
theorem RelW.newRow {S : Nat → Prop} {w0 : World} {ν : Nat → Value} {st : St} {w : World} (h : RelW S w0 ν st w) (t : TypeId) (ls : List Lf) (hls : ls ≠ []) (xs : List (LT ls)) (cur : Array Value) (fz : Nat × Nat) (cap : Nat)
    (hc : xs.length ≤ cap) (hm : cap ≤ maxLen) (hsz : cur.size = cap * ls.length) (hz : Thawed cur.size fz) (hcur : cur.toList.take (xs.length * ls.length) = flat ls xs) :
    RelW S w0 (upd ν st.nx (.slice (some ⟨w.heap.size, 0, none⟩) xs.length cap)) (st.add (.row true t ls xs)) (w.alloc (.cells cur t fz)) := by
  refine h.fresh _ _ _ rfl ⟨hls, ?_⟩ ?_ rfl
  · rw [upd_new]
    refine .inr ⟨⟨w.heap.size, 0, none⟩, cap, rfl, hc, (fun h => by cases h), fun _ => ⟨rfl, rfl, hm, cur, fz, ?_, hsz, hz, hcur⟩⟩
    show (w.heap.push _)[_]? = _
    simp
  · intro b hb
    simpa [mineOf] using hb.symm
theorem thawed_zero (n : Nat) : Thawed n (0, 0) := fun i _ h => by omega
theorem thawed_past (n : Nat) (k : Nat) : Thawed n (n, k) := fun i hi h => by omega

/-- An own row, some of its elements other ones. -/
theorem RelW.setElems {S : Nat → Prop} {w0 : World} {ν : Nat → Value} {st : St} {w : World} (h : RelW S w0 ν st w) {j : Nat} {t : TypeId} {ls : List Lf} {xs xs' : List (LT ls)} (hj : lkp j st.H = some (.row true t ls xs)) (hl : xs'.length = xs.length)
    {a : Addr} {n cap : Nat} (hv : ν j = .slice (some a) n cap) {cur cur' : Array Value} {fz : Nat × Nat} (hc : w.heap[a.block]? = some (.cells cur t fz)) (hsz : cur'.size = cur.size) (hx : cur'.toList.take (xs.length * ls.length) = flat ls xs') :
    RelW S w0 ν (st.put j (.row true t ls xs')) (w.setRow a.block cur') := by
  have hs := h.sat j _ hj
  have hm : ∀ ys, mineOf (ν j) (.row true t ls ys) = some a.block := fun ys => by rw [hv]; rfl
  refine h.turn hj ⟨rfl, rfl, rfl, by simp⟩ (by rw [hm, hm]) (by rw [hv]; rfl) (fun c hc' => setRow_other w a.block c _ (fun e => hc' (by rw [hm, e]))) rfl ⟨hs.1, ?_⟩
  rcases hs.2 with ⟨e, _⟩ | ⟨a', cap', e, hle, _, h2⟩
  · rw [hv] at e; cases e
  · rw [hv] at e
    injection e with e1 e2 e3
    injection e1 with e1
    subst e1; subst e2; subst e3
    obtain ⟨f1, f2, f3, cur0, fz0, f4, f5, f6, f7⟩ := h2 rfl
    rw [hc] at f4
    injection f4 with f4
    injection f4 with g1 g2 g3
    subst g1; subst g3
    refine .inr ⟨a, cap, by rw [hv, hl], by rw [hl]; exact hle, (fun h => by cases h), fun _ => ⟨f1, f2, f3, cur', fz, setRow_heap w a.block _ _ t fz hc, by rw [hsz]; exact f5, by rw [hsz]; exact f6, by rw [hl]; exact hx⟩⟩
/-- What an own row is, if it is not nil. -/
theorem RelW.ownRow {S : Nat → Prop} {w0 : World} {ν : Nat → Value} {st : St} {w : World} (h : RelW S w0 ν st w) {j : Nat} {t : TypeId} {ls : List Lf} {xs : List (LT ls)} (hj : lkp j st.H = some (.row true t ls xs)) :
    (ν j = .slice none 0 0 ∧ xs = []) ∨ ∃ b cap cur fz, ν j = .slice (some ⟨b, 0, none⟩) xs.length cap ∧ xs.length ≤ cap ∧ cap ≤ maxLen ∧ w.heap[b]? = some (.cells cur t fz) ∧ cur.size = cap * ls.length ∧ Thawed cur.size fz ∧ cur.toList.take (xs.length * ls.length) = flat ls xs := by
  rcases (h.sat j _ hj).2 with h | ⟨a, cap, e, hle, _, h2⟩
  · exact .inl h
  · obtain ⟨f1, f2, f3, cur, fz, f4, f5, f6, f7⟩ := h2 rfl
    obtain ⟨b, o, sp⟩ := a
    simp only at f1 f2
    subst f1; subst f2
    exact .inr ⟨b, cap, cur, fz, e, hle, f3, f4, f5, f6, f7⟩
end Go.Aq
