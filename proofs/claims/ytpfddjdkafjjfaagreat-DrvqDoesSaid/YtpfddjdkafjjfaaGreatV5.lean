/- The evaluator is right: rows. -/
import Derived.Test.YtpfddjdkafjjfaaGreatV4
import Derived.MapKept
import Derived.Laws.OwnMore
import Derived.Laws.BytesString
namespace Go.Aq
open Go.RowKit (Below)
set_option linter.unusedVariables false

theorem run_storeCells_thaw (P : Program) (g o : Nat) (t : TypeId) (fz : Nat × Nat) : ∀ (vs : List Value) (i : Nat) (cur : Array Value) (w : World), w.heap[g]? = some (.cells cur t fz) → Thawed cur.size fz → o + i + vs.length ≤ cur.size → (∀ v ∈ vs, v.oneCell' = true) →
    (storeCells ⟨g, o, none⟩ vs i).run P w = .ok () (w.setRow g (cur.toList.take (o + i) ++ vs ++ cur.toList.drop (o + i + vs.length)).toArray)
  | [], i, cur, w, hg, _, _, _ => by
    simp only [storeCells, List.append_nil, List.length_nil, Nat.add_zero, List.take_append_drop, Array.toArray_toList]
    rw [setRow_self w g cur t fz hg]
    rfl
  | v :: rest, i, cur, w, hg, hz, hl, h1 => by
    have hi : o + i < cur.size := by simp at hl; omega
    have hadd : (⟨g, o, none⟩ : Addr).add i = ⟨g, o + i, none⟩ := add_plain g o i
    have hcell : w.cell? ⟨g, o + i, none⟩ = some cur[o + i] := by simp [World.cell?, hg, hi]
    have hfro : w.frozen? ⟨g, o + i, none⟩ = false := by
      have := hz (o + i) hi
      simp only [World.frozen?, hg]
      rw [Bool.and_eq_false_iff]
      simp only [decide_eq_false_iff_not]
      omega
    have hst : (store ((⟨g, o, none⟩ : Addr).add i) v).run P w = .ok () (w.setRow g (cur.setIfInBounds (o + i) v)) := by
      rw [hadd, run_store P w _ v _ (h1 v (by simp)), hcell]
      simp [hfro, setCell_eq_setRow w g (o + i) cur t fz v hg]
    have ih := run_storeCells_thaw P g o t fz rest (i + 1) (cur.setIfInBounds (o + i) v) (w.setRow g (cur.setIfInBounds (o + i) v)) (setRow_heap w g cur _ t _ hg) (by simpa using hz) (by simp at hl ⊢; omega) (fun x hx => h1 x (by simp [hx]))
    simp only [storeCells, Sem.run_bind, hst, Result.andThen_ok, ih, setRow_setRow]
    congr 3
    have e := list_seg_step cur.toList (o + i) v rest (by simp at hl ⊢; omega)
    simpa [Array.toList_setIfInBounds, Nat.add_assoc] using e

/-- The cells of a row can be read. -/
def Reads (w : World) (v : Value) (ls : List Lf) (xs : List (LT ls)) : Prop :=
  (v = .slice none 0 0 ∧ xs = []) ∨ ∃ a cap, v = .slice (some a) xs.length cap ∧ xs.length ≤ cap ∧ ∀ i u, (flat ls xs)[i]? = some u → w.cell? (a.add i) = some u
theorem RowSat.reads {w : World} {v : Value} {own : Bool} {t : TypeId} {ls : List Lf} {xs : List (LT ls)} (h : RowSat w v own t ls xs) : Reads w v ls xs := by
  rcases h with h | ⟨a, cap, hv, hc, h1, h2⟩
  · exact .inl h
  · refine .inr ⟨a, cap, hv, hc, ?_⟩
    cases own with
    | false => exact (h1 rfl).1
    | true =>
      obtain ⟨e1, e2, _, cur, fz, e4, _, _, e7⟩ := h2 rfl
      obtain ⟨b, o, sp⟩ := a
      simp only at e1 e2
      subst e1; subst e2
      intro i u hu
      have hlt : i < xs.length * ls.length := by
        have := (List.getElem?_eq_some_iff.1 hu).1
        rwa [flat_length] at this
      rw [add_plain, Nat.zero_add, cell_of_row w b i cur t fz e4]
      rw [← e7, List.getElem?_take, if_pos hlt] at hu
      simpa using hu

theorem posI_cons {l : Int} {ls : List Int} (h : posI (l :: ls) = true) : 0 ≤ l ∧ posI ls = true := by
  simpa [posI] using h
theorem sumI_cons (l : Int) (ls : List Int) : sumI (l :: ls) = l + sumI ls := by
  cases ls <;> simp [sumI]
theorem sumI_nonneg : ∀ {ls : List Int}, posI ls = true → 0 ≤ sumI ls
  | [], _ => by simp [sumI]
  | l :: ls, h => by
    have h := posI_cons h
    have := sumI_nonneg h.2
    rw [sumI_cons]; omega
theorem chop_cap (sz : Nat) : ∀ (ch : List Int) (p : Addr × Nat), posI ch = true → (chop sz ch p).2 = p.2 - (sumI ch).toNat
  | [], p, _ => by simp [chop, sumI]
  | l :: ls, p, h => by
    have h := posI_cons h
    have := sumI_nonneg h.2
    simp only [chop]
    rw [chop_cap sz ls _ h.2, sumI_cons]
    omega
theorem chop_add (sz b o : Nat) : ∀ (ch : List Int) (k c : Nat), posI ch = true → sumI ch < (c : Int) → (chop sz ch (⟨b, o + k * sz, none⟩, c)).1 = ⟨b, o + (k + (sumI ch).toNat) * sz, none⟩
  | [], k, c, _, _ => by simp [chop, sumI]
  | l :: ls, k, c, h, hc => by
    have h := posI_cons h
    have hn := sumI_nonneg h.2
    rw [sumI_cons] at hc
    simp only [chop]
    rw [if_neg (by omega), add_plain, show o + k * sz + l.toNat * sz = o + (k + l.toNat) * sz by rw [Nat.add_mul]; omega, chop_add sz b o ls (k + l.toNat) (c - l.toNat) h.2 (by omega), sumI_cons]
    congr 2
    rw [show (l + sumI ls).toNat = l.toNat + (sumI ls).toNat by omega, Nat.add_assoc]
theorem chop_snoc (sz : Nat) (l : Int) : ∀ (ch : List Int) (p : Addr × Nat), chop sz (ch ++ [l]) p = ((if (chop sz ch p).2 = l.toNat then (chop sz ch p).1 else (chop sz ch p).1.add (l.toNat * sz)), (chop sz ch p).2 - l.toNat)
  | [], p => rfl
  | m :: ls, p => by simp only [List.cons_append, chop]; exact chop_snoc sz l ls _

/-- What is known of a name's value, whatever the world. -/
def TabVal (v : Value) (n : Nat) : Prop := (v = .slice none 0 0 ∧ n = 0) ∨ ∃ a cap, v = .slice (some a) n cap ∧ (n ≠ 0 → a.spot = none)
def RowFacts (ν : Nat → Value) (H : Heap) : Prop := (∀ j own t ls xs, lkp j H = some (.row own t ls xs) → ls ≠ [] ∧ RowVal (ν j) xs.length) ∧
  ∀ j t f xs, lkp j H = some (.tab t f xs) → TabVal (ν j) xs.length
theorem RelW.facts {S : Nat → Prop} {w0 : World} {ν : Nat → Value} {st : St} {w : World} (h : RelW S w0 ν st w) : RowFacts ν st.H := by
  refine ⟨fun j own t ls xs hj => ⟨(h.sat j _ hj).1, (h.sat j _ hj).2.rowVal (h.sat j _ hj).1⟩, fun j t f xs hj => ?_⟩
  rcases h.tab j t f xs hj with ⟨e, hx⟩ | ⟨a, cap, e, h1, _⟩
  · exact .inl ⟨e, by rw [hx]; rfl⟩
  · exact .inr ⟨a, cap, e, fun hn => (h1 (fun h => hn (by rw [h]; rfl))).1⟩

structure SlOk (ν : Nat → Value) (H : Heap) (nx : Nat) (v : SV) (s : Sl) : Prop where
  at_ : lkp s.j H = some (.row s.own s.t s.ls s.xs)
  ne : s.ls ≠ []
  val : RowVal (ν s.j) s.xs.length
  is : den ν v = cutV s.ls.length s.ch s.n (ν s.j)
  whole : s.ch = [] → s.ok = true ∨ s.n < 0 ∨ s.xs.length < s.n
theorem slOf_ok {ν : Nat → Value} {H : Heap} {nx : Nat} (hF : RowFacts ν H) {v : SV} {s : Sl} (h : slOf H v = some s) : SlOk ν H nx v s ∧ (svLt nx v = true → s.j < nx) := by
  have whole : ∀ s : Sl, s.ch = [] → s.ok = true ∨ s.n < 0 ∨ s.xs.length < s.n := by
    intro s hs
    unfold Sl.ok
    rw [hs]
    simp only [decide_eq_true_eq]
    omega
  unfold slOf at h
  split at h
  · rename_i j
    split at h
    · rename_i own t ls xs hj
      cases h
      have hf := hF.1 j own t ls xs hj
      refine ⟨⟨hj, hf.1, hf.2, ?_, whole _⟩, fun hv => by simpa [svLt] using hv⟩
      simp only [den]
      rcases hf.2 with ⟨e, hn⟩ | ⟨a, cap, e, _⟩
      · rw [e]; rfl
      · rw [e]; simp [hdr, cutV, chop]
    · cases h
  · rename_i j sz ch n
    split at h
    · rename_i own t ls xs hj
      by_cases hb : Nat.beq sz ls.length = true
      · rw [hb, cond_true] at h
        have hb := Nat.eq_of_beq_eq_true hb
        subst hb
        cases h
        have hf := hF.1 j own t ls xs hj
        exact ⟨⟨hj, hf.1, hf.2, rfl, whole _⟩, fun hv => by simpa [svLt] using hv⟩
      · rw [Bool.not_eq_true] at hb; rw [hb] at h; cases h
    · cases h
  · cases h
theorem Sl.ok_spec {s : Sl} (h : s.ok = true) : posI s.ch = true ∧ 0 ≤ s.n ∧ sumI s.ch + s.n ≤ (s.xs.length : Int) := by
  unfold Sl.ok at h
  split at h
  · rename_i hc
    rw [hc]
    simp only [decide_eq_true_eq] at h
    exact ⟨rfl, h.1, by simpa [sumI] using h.2⟩
  · simp only [Bool.and_eq_true, decide_eq_true_eq] at h
    exact h
/-- A slice's value: nil, or an address and what is left from it on. -/
theorem SlOk.shape {ν : Nat → Value} {H : Heap} {nx : Nat} {v : SV} {s : Sl} (h : SlOk ν H nx v s) (hk : s.ok = true) :
    (den ν v = .slice none 0 0 ∧ ν s.j = .slice none 0 0 ∧ s.n = 0 ∧ s.xs.length = 0) ∨
    ∃ a cap, ν s.j = .slice (some a) s.xs.length cap ∧ den ν v = .slice (some (chop s.ls.length s.ch (a, cap)).1) s.n.toNat (cap - (sumI s.ch).toNat) ∧ s.n.toNat ≤ cap - (sumI s.ch).toNat ∧ s.xs.length ≤ cap ∧
      (0 < s.n → a.spot = none ∧ (chop s.ls.length s.ch (a, cap)).1 = ⟨a.block, a.off + (sumI s.ch).toNat * s.ls.length, none⟩) := by
  obtain ⟨h1, h2, h3⟩ := Sl.ok_spec hk
  have h4 := sumI_nonneg h1
  rcases h.val with ⟨e, hn⟩ | ⟨a, cap, e, hc, hsp⟩
  · refine .inl ⟨by rw [h.is, e]; rfl, e, by omega, hn⟩
  · refine .inr ⟨a, cap, e, ?_, by omega, hc, fun hpos => ?_⟩
    · rw [h.is, e]
      simp only [cutV, chop_cap _ _ _ h1]
    · have hs := hsp (by omega)
      obtain ⟨b, o, sp⟩ := a
      simp only at hs
      subst hs
      refine ⟨rfl, ?_⟩
      have := chop_add s.ls.length b o s.ch 0 cap h1 (by omega)
      simpa using this

theorem flat_sub (ls : List Lf) (xs : List (LT ls)) (lo n : Nat) (i : Nat) (u : Value) (h : (flat ls ((xs.drop lo).take n))[i]? = some u) : (flat ls xs)[lo * ls.length + i]? = some u := by
  rw [flat_take, flat_drop, List.getElem?_take] at h
  split at h
  · rwa [List.getElem?_drop] at h
  · cases h

/-- The elements that a slice has can be read. -/
theorem evList_reads {T : Type} {S : Nat → Prop} {w0 : World} {ν : Nat → Value} {st : St} {w : World} (hR : RelW S w0 ν st w) {v : SV} {K : (ls : List Lf) → TypeId → List (LT ls) → O T} {res : O T}
    (h : evList st.H v K = res) (hne : res ≠ .no) :
    ∃ j o ls t xs, K ls t xs = res ∧ ls ≠ [] ∧ lkp j st.H = some o ∧ (v = .osl j ∨ ∃ sz ch n, v = .sl j sz ch n) ∧ ∀ w', (∀ b, b < w.heap.size → onOf (ν j) o = some b → w'.heap[b]? = w.heap[b]?) → Reads w' (den ν v) ls xs := by
  unfold evList at h
  split at h
  · rename_i j
    split at h
    · rename_i own t ls xs hj
      have hs := hR.sat j _ hj
      refine ⟨j, _, ls, t, xs, h, hs.1, hj, .inl rfl, fun w' hw => ?_⟩
      have := (hs.2.congr (w' := w') (fun b hb => hw b (hoSat_lt hs b hb) hb)).reads
      rcases this with ⟨e, hx⟩ | ⟨a, cap, e, hl, hc⟩
      · exact .inl ⟨by simp only [den, e]; rfl, hx⟩
      · exact .inr ⟨a, cap, by simp only [den, e]; rfl, hl, hc⟩
    · exact absurd h.symm hne
  · rename_i hnot
    split at h
    · rename_i s hs
      obtain ⟨hok, h⟩ := O.chk_ne h hne
      obtain ⟨hS, -⟩ := slOf_ok (nx := st.nx) hR.facts hs
      have hsat := hR.sat s.j _ hS.at_
      refine ⟨s.j, _, s.ls, s.t, _, h, hS.ne, hS.at_, ?_, fun w' hw => ?_⟩
      · unfold slOf at hs
        split at hs
        · rename_i j; exact absurd rfl (hnot j)
        · rename_i j sz ch n
          split at hs
          · rename_i own' t' ls' xs' _
            by_cases hb : Nat.beq sz ls'.length = true
            · rw [hb, cond_true] at hs; cases hs; exact .inr ⟨_, _, _, rfl⟩
            · rw [Bool.not_eq_true] at hb; rw [hb] at hs; cases hs
          · cases hs
        · cases hs
      obtain ⟨h1, h2, h3⟩ := Sl.ok_spec hok
      have h4 := sumI_nonneg h1
      have hrd := (hsat.2.congr (w' := w') (fun b hb => hw b (hoSat_lt hsat b hb) hb)).reads
      have hlen : (sub s.xs (sumI s.ch) s.n).length = s.n.toNat := by simp [sub]; omega
      rcases hS.shape hok with ⟨e1, _, e3, e4⟩ | ⟨a, cap, e1, e2, e8, _, e5⟩
      · refine .inl ⟨e1, ?_⟩
        have : (sub s.xs (sumI s.ch) s.n).length = 0 := by omega
        exact List.eq_nil_of_length_eq_zero this
      · refine .inr ⟨_, _, by rw [hlen]; exact e2, by rw [hlen]; exact e8, fun i u hu => ?_⟩
        have hpos : 0 < s.n := by
          rcases Int.lt_or_le 0 s.n with h | h
          · exact h
          · have : sub s.xs (sumI s.ch) s.n = [] := List.eq_nil_of_length_eq_zero (by omega)
            rw [this] at hu; simp [flat] at hu
        obtain ⟨e6, e7⟩ := e5 hpos
        have hu' := flat_sub _ _ _ _ _ _ hu
        rcases hrd with ⟨e, _⟩ | ⟨a', cap', e, _, hc⟩
        · rw [e1] at e; cases e
        · rw [e1] at e
          cases e
          have := hc _ _ hu'
          obtain ⟨b, o, sp⟩ := a
          simp only at e6 e7
          subst e6
          rw [e7, add_plain]
          rw [add_plain] at this
          rw [Nat.add_assoc]
          exact this
    · exact absurd h.symm hne

/-- A new row. -/
theorem RelW.newRow {S : Nat → Prop} {w0 : World} {ν : Nat → Value} {st : St} {w : World} (h : RelW S w0 ν st w) (t : TypeId) (ls : List Lf) (hls : ls ≠ []) (xs : List (LT ls)) (cur : Array Value) (fz : Nat × Nat) (cap : Nat)
    (hc : xs.length ≤ cap) (hm : cap ≤ maxLen) (hsz : cur.size = cap * ls.length) (hz : Thawed cur.size fz) (hcur : cur.toList.take (xs.length * ls.length) = flat ls xs) :
    RelW S w0 (upd ν st.nx (.slice (some ⟨w.heap.size, 0, none⟩) xs.length cap)) (st.add (.row true t ls xs)) (w.alloc (.cells cur t fz)) := by
  refine h.fresh _ _ _ rfl ⟨hls, ?_⟩ ?_ rfl
  · rw [upd_new]
    refine .inr ⟨⟨w.heap.size, 0, none⟩, cap, rfl, hc, (fun h => by cases h), fun _ => ⟨rfl, rfl, hm, cur, fz, ?_, hsz, hz, hcur⟩⟩
    show (w.heap.push _)[_]? = _
    simp
  · intro b hb
    simpa [mineOf] using hb.symm
theorem thawed_zero (n : Nat) : Thawed n (0, 0) := fun i _ h => by omega
theorem thawed_past (n : Nat) (k : Nat) : Thawed n (n, k) := fun i hi h => by omega

/-- An own row, some of its elements other ones. -/
theorem RelW.setElems {S : Nat → Prop} {w0 : World} {ν : Nat → Value} {st : St} {w : World} (h : RelW S w0 ν st w) {j : Nat} {t : TypeId} {ls : List Lf} {xs xs' : List (LT ls)} (hj : lkp j st.H = some (.row true t ls xs)) (hl : xs'.length = xs.length)
    {a : Addr} {n cap : Nat} (hv : ν j = .slice (some a) n cap) {cur cur' : Array Value} {fz : Nat × Nat} (hc : w.heap[a.block]? = some (.cells cur t fz)) (hsz : cur'.size = cur.size) (hx : cur'.toList.take (xs.length * ls.length) = flat ls xs') :
    RelW S w0 ν (st.put j (.row true t ls xs')) (w.setRow a.block cur') := by
  have hs := h.sat j _ hj
  have hm : ∀ ys, mineOf (ν j) (.row true t ls ys) = some a.block := fun ys => by rw [hv]; rfl
  refine h.turn hj ⟨rfl, rfl, rfl, by simp⟩ (by rw [hm, hm]) (by rw [hv]; rfl) (fun c hc' => setRow_other w a.block c _ (fun e => hc' (by rw [hm, e]))) rfl ⟨hs.1, ?_⟩
  rcases hs.2 with ⟨e, _⟩ | ⟨a', cap', e, hle, _, h2⟩
  · rw [hv] at e; cases e
  · rw [hv] at e
    injection e with e1 e2 e3
    injection e1 with e1
    subst e1; subst e2; subst e3
    obtain ⟨f1, f2, f3, cur0, fz0, f4, f5, f6, f7⟩ := h2 rfl
    rw [hc] at f4
    injection f4 with f4
    injection f4 with g1 g2 g3
    subst g1; subst g3
    refine .inr ⟨a, cap, by rw [hv, hl], by rw [hl]; exact hle, (fun h => by cases h), fun _ => ⟨f1, f2, f3, cur', fz, setRow_heap w a.block _ _ t fz hc, by rw [hsz]; exact f5, by rw [hsz]; exact f6, by rw [hl]; exact hx⟩⟩
/-- What an own row is, if it is not nil. -/
theorem RelW.ownRow {S : Nat → Prop} {w0 : World} {ν : Nat → Value} {st : St} {w : World} (h : RelW S w0 ν st w) {j : Nat} {t : TypeId} {ls : List Lf} {xs : List (LT ls)} (hj : lkp j st.H = some (.row true t ls xs)) :
    (ν j = .slice none 0 0 ∧ xs = []) ∨ ∃ b cap cur fz, ν j = .slice (some ⟨b, 0, none⟩) xs.length cap ∧ xs.length ≤ cap ∧ cap ≤ maxLen ∧ w.heap[b]? = some (.cells cur t fz) ∧ cur.size = cap * ls.length ∧ Thawed cur.size fz ∧ cur.toList.take (xs.length * ls.length) = flat ls xs := by
  rcases (h.sat j _ hj).2 with h | ⟨a, cap, e, hle, _, h2⟩
  · exact .inl h
  · obtain ⟨f1, f2, f3, cur, fz, f4, f5, f6, f7⟩ := h2 rfl
    obtain ⟨b, o, sp⟩ := a
    simp only at f1 f2
    subst f1; subst f2
    exact .inr ⟨b, cap, cur, fz, e, hle, f3, f4, f5, f6, f7⟩

/-! ### Maps: what the machine does of them -/
theorem encO_den (ν : Nat → Value) (agg : Bool) (ls : List Lf) (x : LT ls) : den ν (encO agg ls x) = oneV agg ls x := by
  have h := cellsV_any ls x ν
  unfold cellsV at h
  unfold encO oneV
  cases agg with
  | true => simp only [den]; rw [h]
  | false =>
    simp only
    rw [← h]
    generalize encL ls x = l
    match l with
    | [] => simp [denL, den]
    | [v] => simp [denL]
    | _ :: _ :: _ => simp [denL, den]
theorem encO_lt (n : Nat) (agg : Bool) (ls : List Lf) (x : LT ls) : svLt n (encO agg ls x) = true := by
  have h := encL_lt n ls x
  unfold encO
  cases agg with
  | true => simpa only [svLt] using h
  | false =>
    simp only
    revert h
    generalize encL ls x = l
    match l with
    | [] => intro _; rfl
    | [v] => intro h; simpa [belowL] using h
    | _ :: _ :: _ => intro _; rfl
theorem decO_of {agg : Bool} {ls : List Lf} {v : SV} {x : LT ls} (h : decO agg ls v = some x) : v = encO agg ls x := by
  cases v <;> (first
    | (cases agg with
       | true => (unfold decO at h; simp only at h; first | (cases h; done) | (have := decL_of ls _ x h; unfold encO; simp only; rw [← this]))
       | false => (unfold decO at h; simp only at h; first | (cases h; done) | (have := decL_of ls _ x h; unfold encO; simp only; rw [← this]))))
theorem decO_den {agg : Bool} {ls : List Lf} {v : SV} {x : LT ls} (h : decO agg ls v = some x) (ν : Nat → Value) : den ν v = oneV agg ls x := by
  rw [decO_of h, encO_den]

section
variable {K V : Type} [DecidableEq K]
def mfind (k : K) : List (K × V) → Nat → Option (Nat × V)
  | [], _ => none
  | e :: es, i => if k = e.1 then some (i, e.2) else mfind k es (i + 1)
theorem mfind_get (d : V) (k : K) : ∀ (es : List (K × V)) (i : Nat), mget d es k = (match mfind k es i with | some p => p.2 | none => d)
  | [], i => rfl
  | e :: es, i => by
    by_cases h : k = e.1
    · subst h; simp [mfind, mget]
    · have ih := mfind_get d k es (i + 1)
      have h' : ¬ e.1 = k := fun e => h e.symm
      simp only [mfind, if_neg h, ← ih]
      simp [mget, h']
theorem mfind_has (k : K) : ∀ (es : List (K × V)) (i : Nat), mhas es k = (mfind k es i).isSome
  | [], i => rfl
  | e :: es, i => by
    by_cases h : k = e.1
    · subst h; simp [mfind, mhas]
    · have ih := mfind_has k es (i + 1)
      have h' : ¬ e.1 = k := fun e => h e.symm
      simp only [mfind, if_neg h, ← ih]
      simp [mhas, h']
theorem mfind_spec (k : K) : ∀ (es : List (K × V)) (i : Nat),
    match mfind k es i with
    | some p => ∃ a b, es = a ++ (k, p.2) :: b ∧ p.1 = i + a.length ∧ (∀ v, mput es k v = a ++ (k, v) :: b) ∧ mdel es k = a ++ b
    | none => (∀ e ∈ es, e.1 ≠ k) ∧ (∀ v, mput es k v = es ++ [(k, v)]) ∧ mdel es k = es
  | [], i => by simp [mfind, mput, mdel]
  | e :: es, i => by
    by_cases h : k = e.1
    · subst h
      simp only [mfind, if_pos]
      exact ⟨[], es, rfl, by simp, fun v => by simp [mput], by simp [mdel]⟩
    · have ih := mfind_spec k es (i + 1)
      have h' : ¬ e.1 = k := fun e => h e.symm
      simp only [mfind, if_neg h]
      split at ih
      · rename_i p hp
        obtain ⟨a, b, h1, h2, h3, h4⟩ := ih
        exact ⟨e :: a, b, by rw [h1]; rfl, by simp [h2]; omega, fun v => by simp [mput, h', h3 v], by simp [mdel, h', h4]⟩
      · rename_i hp
        obtain ⟨h1, h2, h3⟩ := ih
        refine ⟨fun x hx => ?_, fun v => by simp [mput, h', h2 v], by simp [mdel, h', h3]⟩
        rcases List.mem_cons.1 hx with rfl | hx
        · exact h'
        · exact h1 x hx
end

/-! ### Keys -/
theorem lfs_int (k : IntKind) {ls : List Lf} (h : (TK.int k).lfs = some ls) : ls = [.int k] := by cases h; rfl
theorem lfs_bool {ls : List Lf} (h : TK.bool.lfs = some ls) : ls = [.bool] := by cases h; rfl
theorem lfs_str {ls : List Lf} (h : TK.str.lfs = some ls) : ls = [.str] := by cases h; rfl
theorem dec_iff {α : Type} [DecidableEq α] (a b : α) : decide (a = b) = true ↔ a = b := decide_eq_true_iff
theorem eqLf_int (k : IntKind) (z a b : Int) : eqLf (.int k z) (.int k a) (.int k b) = some (decide (a = b)) := by
  show (bif decide (k = k) then some (decide (a = b)) else none) = _
  rw [decide_eq_true rfl, cond_true]
/-- Are two things of one make the same? -/
theorem eqLf_enc {z : SV} {l : Lf} (h : lfOf z = some l) (x y : l.T) : ∃ e, eqLf z (l.enc x) (l.enc y) = some e ∧ (e = true ↔ x = y) := by
  have := lfOf_zero h
  subst this
  cases l with
  | int k => exact ⟨_, eqLf_int k 0 x y, dec_iff (α := Int) x y⟩
  | bool => exact ⟨_, rfl, dec_iff (α := Bool) x y⟩
  | str => exact ⟨_, rfl, dec_iff (α := ByteArray) x y⟩
theorem eqLfs_enc : ∀ {zs : List SV} {ls : List Lf}, lfsOf zs = some ls → ∀ (x y : LT ls), ∃ e, eqLfs zs (encL ls x) (encL ls y) = some e ∧ (e = true ↔ x = y)
  | [], ls, h, x, y => by cases h; exact ⟨true, rfl, by simp; exact (PUnit.ext x y)⟩
  | z :: zs, ls, h, x, y => by
    simp only [lfsOf] at h
    split at h
    · rename_i l hl
      split at h
      · rename_i ls' hls
        cases h
        cases ls' with
        | nil =>
          have hz : zs = [] := by
            cases zs with
            | nil => rfl
            | cons a b => simp only [lfsOf] at hls; split at hls <;> (try split at hls) <;> cases hls
          subst hz
          obtain ⟨e, h1, h2⟩ := eqLf_enc hl x y
          refine ⟨e, ?_, h2⟩
          show (match eqLf z (l.enc x) (l.enc y) with | some e => (match eqLfs [] [] [] with | some es => some (e && es) | none => none) | none => none) = _
          rw [h1]
          simp [eqLfs]
        | cons m ms =>
          obtain ⟨e, h1, h2⟩ := eqLf_enc hl x.1 y.1
          obtain ⟨e', h1', h2'⟩ := eqLfs_enc hls x.2 y.2
          refine ⟨e && e', ?_, ?_⟩
          · show (match eqLf z (l.enc x.1) (l.enc y.1) with | some e => (match eqLfs zs (encL (m :: ms) x.2) (encL (m :: ms) y.2) with | some es => some (e && es) | none => none) | none => none) = _
            rw [h1, h1']
          · rw [Bool.and_eq_true, h2, h2']
            constructor
            · rintro ⟨a, b⟩; exact Prod.ext a b
            · intro h; exact ⟨congrArg Prod.fst h, congrArg Prod.snd h⟩
      · cases h
    · cases h

/-- Keys of a type, and how the machine finds one. -/
structure KeyOk (P : Program) (t : TypeId) (ka : Bool) (kl : List Lf) : Prop where
  chk : ∀ (x : LT kl) (e : Bool) (w : World), (Instr.checkKey e 10000 t (oneV ka kl x)).run P w = .ok () w
  find : ∀ (x : LT kl) {V : Type} (g : V → Value) (es : List (LT kl × V)) (ms : List MapEntry) (w : World), ms.map (fun e => (e.key, e.val)) = es.map (fun e => (oneV ka kl e.1, g e.2)) →
    (Instr.findKey t (oneV ka kl x) ms).run P w = .ok ((mfind x es 0).map fun p => (p.1, g p.2)) w
  stays : ∀ (x : LT kl) (w : World), (Instr.keyThatStays (oneV ka kl x) (oneV ka kl x)).run P w = .ok (oneV ka kl x) w

theorem findNow_run {K V : Type} [DecidableEq K] (d : TypeDesc) (f : K → Value) (g : V → Value) (x : K) (hs : ∀ y, Instr.sameNow d (f x) (f y) = some (decide (x = y))) : ∀ (es : List (K × V)) (ms : List MapEntry) (i : Nat), ms.map (fun e => (e.key, e.val)) = es.map (fun e => (f e.1, g e.2)) →
    Instr.findNow d (f x) ms i = some ((mfind x es i).map fun p => (p.1, g p.2))
  | [], ms, i, h => by
    have : ms = [] := by simpa using h
    subst this; rfl
  | e :: es, [], i, h => by simp at h
  | e :: es, m :: ms, i, h => by
    simp only [List.map_cons, List.cons.injEq, Prod.mk.injEq] at h
    obtain ⟨⟨h1, h2⟩, h3⟩ := h
    simp only [Instr.findNow, h1, hs]
    by_cases hx : x = e.1
    · simp [mfind, hx, h2]
    · simp [mfind, hx, findNow_run d f g x hs es ms (i + 1) h3]
theorem findAsking_run {P : Program} {w : World} {K V : Type} [DecidableEq K] (t : TypeId) (f : K → Value) (g : V → Value) (x : K) (hs : ∀ y, (Op.equal t (f x) (f y)).run P w = .ok (decide (x = y)) w) : ∀ (es : List (K × V)) (ms : List MapEntry) (i : Nat), ms.map (fun e => (e.key, e.val)) = es.map (fun e => (f e.1, g e.2)) →
    (Instr.findAsking t (f x) ms i).run P w = .ok ((mfind x es i).map fun p => (p.1, g p.2)) w
  | [], ms, i, h => by
    have : ms = [] := by simpa using h
    subst this; rfl
  | e :: es, [], i, h => by simp at h
  | e :: es, m :: ms, i, h => by
    simp only [List.map_cons, List.cons.injEq, Prod.mk.injEq] at h
    obtain ⟨⟨h1, h2⟩, h3⟩ := h
    simp only [Instr.findAsking, Sem.run_bind, h1, hs, Result.andThen_ok]
    by_cases hx : x = e.1
    · simp [mfind, hx, h2]
    · simp [mfind, hx, findAsking_run t f g x hs es ms (i + 1) h3]
theorem run_checkFields {P : Program} (e : Bool) (d : Nat) (xs : Array Value) (w : World) : ∀ (fs : List Field) (zs as : List SV) (i : Nat), eqFsChk P i fs zs = true → zs.length = as.length →
    xs.toList.drop i = denL ν0 as →
    (forIn fs PUnit.unit (fun f _ => if f.name ≠ "_" then (do
        let v ← part f.type xs f.offset
        Instr.checkKey e (d + 1) f.type v
        pure (ForInStep.yield PUnit.unit) : Sem (ForInStep PUnit)) else pure (ForInStep.yield PUnit.unit))).run P w = .ok PUnit.unit w
  | [], [], as, i, _, _, _ => by simp
  | [], _ :: _, _, _, h, _, _ => by simp [eqFsChk] at h
  | _ :: _, [], _, _, h, _, _ => by simp [eqFsChk] at h
  | f :: fs, z :: zs, as, i, h, hl, hx => by
    cases as with
    | nil => simp at hl
    | cons a as =>
    simp only [eqFsChk, Bool.and_eq_true, decide_eq_true_eq] at h
    obtain ⟨⟨⟨h1, h2⟩, h3⟩, h4⟩ := h
    have h2 := Nat.eq_of_beq_eq_true h2
    split at h3
    · rename_i dd hdd
      simp only [Bool.and_eq_true, Bool.not_eq_true'] at h3
      have hxi : xs[i]? = some (den ν0 a) := by
        have : (xs.toList.drop i)[0]? = some (den ν0 a) := by rw [hx]; rfl
        simpa using this
      have hag : (isAgg f.type).run P w = .ok false w := by rw [run_isAgg' hdd, h3.2]
      have hpx : (part f.type xs f.offset).run P w = .ok (den ν0 a) w := by
        simp only [part, Sem.run_bind, hag, Result.andThen_ok, h2]
        simp [hxi]
      have hck : (Instr.checkKey e (d + 1) f.type (den ν0 a)).run P w = .ok () w := by
        unfold Instr.checkKey
        simp only [Sem.run_bind, run_underlying' hdd, Result.andThen_ok]
        cases z <;> cases dd <;> simp [makeChk] at h3 <;> rfl
      have ih := run_checkFields e d xs w fs zs as (i + 1) h4 (by simpa using hl) (by rw [← List.drop_drop, hx]; rfl)
      rw [List.forIn_cons]
      simp only [Sem.run_bind, h1, ne_eq, not_false_eq_true, if_true, hpx, Result.andThen_ok, hck, Sem.run_pure]
      exact ih
    · cases h3
theorem ba_beq (a b : ByteArray) : (a == b) = decide (a = b) := by
  have h : (a == b) = (a.data == b.data) := by
    cases a; cases b; rfl
  rw [h]
  by_cases e : a = b
  · subst e; simp
  · have : a.data ≠ b.data := fun h => e (ByteArray.ext h)
    simp [e, this]
theorem ba_refl (a : ByteArray) : (a == a) = true := by rw [ba_beq]; exact decide_eq_true rfl
theorem beq_dec {α : Type} [BEq α] [LawfulBEq α] [DecidableEq α] (a b : α) : (a == b) = decide (a = b) := by
  by_cases e : a = b
  · subst e; simp
  · simp [e]
theorem sameBits_leaf (n : Nat) : ∀ (l : Lf) (x : l.T), Instr.sameBits n (den ν0 (l.enc x)) (den ν0 (l.enc x)) = true
  | .int k, x => by cases n <;> simp [Lf.enc, den, Instr.sameBits] <;> exact beq_self_eq_true (α := Int) x
  | .bool, x => by cases n <;> simp [Lf.enc, den, Instr.sameBits] <;> exact beq_self_eq_true (α := Bool) x
  | .str, x => by cases n <;> simp [Lf.enc, den, Instr.sameBits] <;> exact ba_refl x
theorem sameBits_cells (n : Nat) : ∀ (ls : List Lf) (x : LT ls), ∀ v ∈ denL ν0 (encL ls x), Instr.sameBits n v v = true
  | [], x, v, h => by cases h
  | [l], x, v, h => by
    have : v = den ν0 (l.enc x) := by simpa [encL, denL] using h
    rw [this]; exact sameBits_leaf n l x
  | l :: m :: ls, x, v, h => by
    have : v = den ν0 (l.enc x.1) ∨ v ∈ denL ν0 (encL (m :: ls) x.2) := by simpa [encL, denL] using h
    rcases this with rfl | h
    · exact sameBits_leaf n l x.1
    · exact sameBits_cells n (m :: ls) x.2 v h

theorem oneV_bits (ka : Bool) {kl : List Lf} (x : LT kl) : ∀ n, Instr.sameBits (n + 1) (oneV ka kl x) (oneV ka kl x) = true := by
  intro n
  unfold oneV
  cases ka with
  | true =>
    simp only [Instr.sameBits, beq_self_eq_true, Bool.true_and, List.all_eq_true]
    intro p hp
    have : ∀ (l : List Value) (p : Value × Value), p ∈ l.zip l → p.1 ∈ l ∧ p.1 = p.2 := by
      intro l
      induction l with
      | nil => intro p h; cases h
      | cons a l ih =>
        intro p h
        simp only [List.zip_cons_cons, List.mem_cons] at h
        rcases h with rfl | h
        · exact ⟨by simp, rfl⟩
        · exact ⟨by simp [(ih p h).1], (ih p h).2⟩
    obtain ⟨h1, h2⟩ := this _ p hp
    rw [← h2]
    exact sameBits_cells n kl x _ h1
  | false =>
    simp only
    split
    · rename_i v hv
      exact sameBits_cells (n + 1) kl x v (by rw [hv]; simp)
    · simp [Instr.sameBits]
theorem keyOk {P : Program} {t : TypeId} {kk : TK} (ht : TyOk P t kk) (hk : keyTk kk = true) {kl : List Lf} (hl : kk.lfs = some kl) : KeyOk P t kk.isAgg kl := by
  have hstays : ∀ (x : LT kl) (w : World), (Instr.keyThatStays (oneV kk.isAgg kl x) (oneV kk.isAgg kl x)).run P w = .ok (oneV kk.isAgg kl x) w := by
    intro x w
    have : Instr.sameBits 10000 (oneV kk.isAgg kl x) (oneV kk.isAgg kl x) = true := oneV_bits kk.isAgg x 9999
    unfold Instr.keyThatStays
    rw [if_pos this]
    rfl
  obtain ⟨d, hd, hdk, hq⟩ := ht.desc
  cases kk with
  | int k =>
    cases d <;> simp [descChk] at hdk
    subst hdk
    obtain rfl := lfs_int k hl
    refine ⟨fun x e w => ?_, fun x V g es ms w h => ?_, hstays⟩
    · show (Instr.checkKey e (9999 + 1) t _).run P w = _
      generalize 9999 = m
      unfold Instr.checkKey
      simp only [Sem.run_bind, run_underlying' hd, Result.andThen_ok]
      rfl
    · have := findNow_run (.int k) (fun y : Int => Value.int k y) g x (fun y => by
        simp only [Instr.sameNow, if_true]
        exact congrArg some (beq_dec (α := Int) x y)) es ms 0 h
      unfold Instr.findKey
      simp only [Sem.run_bind, run_underlying' hd, Result.andThen_ok]
      rw [show oneV (TK.int k).isAgg [Lf.int k] x = Value.int k x from rfl, this]
      rfl
  | bool =>
    cases d <;> simp [descChk] at hdk
    obtain rfl := lfs_bool hl
    refine ⟨fun x e w => ?_, fun x V g es ms w h => ?_, hstays⟩
    · show (Instr.checkKey e (9999 + 1) t _).run P w = _
      generalize 9999 = m
      unfold Instr.checkKey
      simp only [Sem.run_bind, run_underlying' hd, Result.andThen_ok]
      rfl
    · have := findNow_run .bool (fun y : Bool => Value.bool y) g x (fun y => by
        simp only [Instr.sameNow]
        exact congrArg some (beq_dec (α := Bool) x y)) es ms 0 h
      unfold Instr.findKey
      simp only [Sem.run_bind, run_underlying' hd, Result.andThen_ok]
      rw [show oneV TK.bool.isAgg [Lf.bool] x = Value.bool x from rfl, this]
      rfl
  | str =>
    cases d <;> simp [descChk] at hdk
    obtain rfl := lfs_str hl
    refine ⟨fun x e w => ?_, fun x V g es ms w h => ?_, hstays⟩
    · show (Instr.checkKey e (9999 + 1) t _).run P w = _
      generalize 9999 = m
      unfold Instr.checkKey
      simp only [Sem.run_bind, run_underlying' hd, Result.andThen_ok]
      rfl
    · have := findNow_run .string (fun y : ByteArray => Value.string y) g x (fun y => by
        simp only [Instr.sameNow]
        exact congrArg some (ba_beq x y)) es ms 0 h
      unfold Instr.findKey
      simp only [Sem.run_bind, run_underlying' hd, Result.andThen_ok]
      rw [show oneV TK.str.isAgg [Lf.str] x = Value.string x from rfl, this]
      rfl
  | struct fs sz z e =>
    simp only [keyTk] at hk
    subst hk
    cases d <;> simp [descChk] at hdk
    rename_i fields
    simp only [eqChk, Bool.and_eq_true, Bool.not_eq_true'] at hq
    obtain ⟨⟨q1, q2⟩, q3⟩ := hq
    have hz : lfsOf z = some kl := by
      unfold TK.lfs at hl
      split at hl
      · rename_i e; cases hl; exact e
      · cases hl
    have hzl : z.length = kl.length := by
      have := lfsOf_zero hz
      rw [this, encL_length]
    have hf : P.fieldsOf t = fields := by unfold Program.fieldsOf; rw [hd]
    refine ⟨fun x e w => ?_, fun x V g es ms w h => ?_, hstays⟩
    · show (Instr.checkKey e (9998 + 1 + 1) t (.agg (denL ν0 (encL kl x)).toArray)).run P w = _
      generalize 9998 = m
      unfold Instr.checkKey
      simp only [Sem.run_bind, run_underlying' hd, Result.andThen_ok]
      rw [← Array.forIn_toList, run_checkFields e m _ w fields.toList z (encL kl x) 0 q3 (by rw [hzl, encL_length]) rfl]
      rfl
    · unfold Instr.findKey
      simp only [Sem.run_bind, run_underlying' hd, Result.andThen_ok]
      have hask := findAsking_run (P := P) (w := w) t (oneV true kl) g x (fun y => by
        show (Op.equalIn 10000 t (.agg (denL ν0 (encL kl x)).toArray) (.agg (denL ν0 (encL kl y)).toArray)).run P w = _
        rw [run_equalIn_struct w 9999 t _ _ (by rw [hf, hd]) q1, hf]
        obtain ⟨e, he, hxy⟩ := eqLfs_enc hz x y
        have : decide (x = y) = e := by
          cases e with
          | true => exact decide_eq_true (hxy.1 rfl)
          | false => exact decide_eq_false fun h => by have := hxy.2 h; cases this
        rw [this]
        exact run_eqFields ν0 9998 _ _ w fields.toList z _ _ 0 e q3 he rfl rfl) es ms 0 h
      cases ms with
      | nil =>
        have : es = [] := by simpa using h
        subst this
        rfl
      | cons m ms =>
        have : Instr.findNow (.struct fields) (oneV (TK.struct fs sz z true).isAgg kl x) (m :: ms) 0 = none := by
          unfold Instr.findNow Instr.sameNow
          rfl
        rw [this]
        exact hask
  | _ => cases hk

/-! ### What is done with a map -/
theorem zero_one {k : TK} {ls : List Lf} (h : k.lfs = some ls) {y : Value} (hz : ∀ ν, den ν k.zero = y) : y = oneV k.isAgg ls (dfltL ls) := by
  have h1 := lfs_zero h
  have h2 := lfs_ne h
  rw [← hz ν0]
  have hc := cellsV_any ls (dfltL ls) ν0
  cases k with
  | struct fs n z e =>
    have : z = encL ls (dfltL ls) := h1
    simp only [TK.zero, TK.isAgg, oneV, den]
    rw [this]
  | int k => cases h; rfl
  | bool => cases h; rfl
  | str => cases h; rfl
  | _ => cases h
theorem mapOk_spec {P : Program} {tab : Tab} (hT : tabChk P tab = true) {t : TypeId} {ka va : Bool} {kl vl : List Lf} (h : mapOk tab t ka va kl vl = true) :
    ∃ k e, P.underlying t = some (.map k e) ∧ KeyOk P k ka kl ∧ ∀ w, (zeroValue e).run P w = .ok (oneV va vl (dfltL vl)) w := by
  unfold mapOk at h
  split at h
  · rename_i k e ht
    split at h
    · rename_i kk ek hk he
      simp only [Bool.and_eq_true] at h
      obtain ⟨⟨⟨h1, h2⟩, h3⟩, h4⟩ := h
      split at h4
      · rename_i l m hl hm
        simp only [Bool.and_eq_true, decide_eq_true_eq] at h4
        obtain ⟨rfl, rfl⟩ := h4
        obtain rfl := sameB_eq h2
        obtain rfl := sameB_eq h3
        obtain ⟨d, hd, hdk, _⟩ := (tyOk hT ht).desc
        cases d <;> simp [descChk] at hdk
        obtain ⟨rfl, rfl⟩ := hdk
        refine ⟨_, _, hd, keyOk (tyOk hT hk) h1 hl, fun w => ?_⟩
        obtain ⟨i, hi, _, _, z, hz, hzz⟩ := (tyOk hT he).info
        rw [run_zeroValue' hi hz, zero_one hm hzz]
      · cases h4
    · cases h
  · cases h
section
variable {P : Program} {tab : Tab} {t : TypeId} {ka va : Bool} {kl vl : List Lf} {w : World} {b : Nat} {es : List (LT kl × LT vl)}
theorem lookup_run (hT : tabChk P tab = true) (h : mapOk tab t ka va kl vl = true) (hm : MapSat w b ka va kl vl es) (key : LT kl) (ok : Bool) :
    (Instr.lookup t (.map (some b)) (oneV ka kl key) ok).run P w = .ok (match ok with
      | true => .tuple #[oneV va vl (mget (dfltL vl) es key), .bool (mhas es key)]
      | false => oneV va vl (mget (dfltL vl) es key)) w := by
  obtain ⟨k, e, hu, hk, hz⟩ := mapOk_spec hT h
  obtain ⟨ms, clock, hb, hms, _⟩ := hm
  unfold Instr.lookup
  have hf := hk.find key (oneV va vl) es ms.toList w hms
  simp only [Sem.run_bind, run_underlying' hu, Result.andThen_ok, MapKept.run_getObj_map hb, Sem.run_pure, hk.chk, hf]
  rw [mfind_get (dfltL vl) key es 0, mfind_has key es 0]
  cases mfind key es 0 with
  | none =>
    simp only [Option.map_none, Sem.run_bind, hz, Result.andThen_ok, Sem.run_pure]
    cases ok <;> rfl
  | some p =>
    simp only [Option.map_some, Sem.run_pure, Result.andThen_ok]
    cases ok <;> rfl

theorem modify_mid {α : Type} (f : α → α) (x : α) (r : List α) : ∀ l : List α, (l ++ x :: r).modify l.length f = l ++ f x :: r
  | [] => by simp
  | y :: l => by simp [modify_mid f x r l]
theorem erase_mid {α : Type} (x : α) (r : List α) : ∀ l : List α, (l ++ x :: r).eraseIdx l.length = l ++ r
  | [] => by simp
  | y :: l => by simp [erase_mid x r l]
/-- The entry that a key has. -/
theorem entry_of {ms : Array MapEntry} {es a r : List (LT kl × LT vl)} {key : LT kl} {v0 : LT vl} (hms : ms.toList.map (fun e => (e.key, e.val)) = es.map fun e => (oneV ka kl e.1, oneV va vl e.2)) (he : es = a ++ (key, v0) :: r) :
    ∃ ma m mr, ms.toList = ma ++ m :: mr ∧ ma.length = a.length ∧ m.key = oneV ka kl key ∧ ma.map (fun e => (e.key, e.val)) = a.map (fun e => (oneV ka kl e.1, oneV va vl e.2)) ∧ mr.map (fun e => (e.key, e.val)) = r.map (fun e => (oneV ka kl e.1, oneV va vl e.2)) := by
  subst he
  rw [List.map_append, List.map_cons] at hms
  obtain ⟨ma, l2, h1, h2, h3⟩ := List.map_eq_append_iff.1 hms
  obtain ⟨m, mr, h4, h5, h6⟩ := List.map_eq_cons_iff.1 h3
  simp only [Prod.mk.injEq] at h5
  exact ⟨ma, m, mr, by rw [h1, h4], by have := congrArg List.length h2; simpa using this, h5.1, h2, h6⟩
theorem update_run (hT : tabChk P tab = true) (h : mapOk tab t ka va kl vl = true) (hm : MapSat w b ka va kl vl es) (key : LT kl) (val : LT vl) :
    ∃ o, (Instr.mapUpdate t (.map (some b)) (oneV ka kl key) (oneV va vl val)).run P w = .ok () { w with heap := w.heap.setIfInBounds b o } ∧ MapSat { w with heap := w.heap.setIfInBounds b o } b ka va kl vl (mput es key val) := by
  obtain ⟨k, e, hu, hk, hz⟩ := mapOk_spec hT h
  obtain ⟨ms, clock, hb, hms, hn, hc, hkn⟩ := hm
  have hlt : b < w.heap.size := (Array.getElem?_eq_some_iff.1 hb).1
  have hat : ∀ o, (w.heap.setIfInBounds b o)[b]? = some o := fun o => by simp [hlt]
  have hf := hk.find key (oneV va vl) es ms.toList w hms
  have hsp := mfind_spec key es 0
  unfold Instr.mapUpdate
  cases hfd : mfind key es 0 with
  | none =>
    rw [hfd] at hf hsp
    obtain ⟨h1, h2, h3⟩ := hsp
    refine ⟨.map (ms.push { key := oneV ka kl key, val := oneV va vl val, born := clock }) (clock + 1), ?_, _, _, hat _, ?_, ?_, ?_, ?_⟩
    · simp only [Sem.run_bind, run_underlying' hu, Result.andThen_ok, MapKept.run_getObj_map hb, hk.chk, hf, Option.map_none, MapKept.run_setObj_map _ hb]
    · rw [h2]; simp [hms]
    · simp only [Array.toList_push, List.map_append, List.map_cons, List.map_nil]
      rw [List.nodup_append]
      refine ⟨hn, by simp, fun x hx y hy => ?_⟩
      simp at hy
      subst hy
      obtain ⟨e, he, rfl⟩ := List.mem_map.1 hx
      have := hc e he
      omega
    · intro e he
      simp only [Array.toList_push, List.mem_append, List.mem_singleton] at he
      rcases he with he | rfl
      · have := hc e he; omega
      · simp
    · rw [h2]
      simp only [List.map_append, List.map_cons, List.map_nil]
      rw [List.nodup_append]
      refine ⟨hkn, by simp, fun x hx y hy => ?_⟩
      simp at hy
      subst hy
      obtain ⟨e, he, rfl⟩ := List.mem_map.1 hx
      exact h1 e he
  | some p =>
    rw [hfd] at hf hsp
    obtain ⟨a, r, h1, h2, h3, h4⟩ := hsp
    obtain ⟨ma, m, mr, e1, e2, e3, e4, e5⟩ := entry_of hms h1
    have hi : p.1 = ma.length := by rw [h2, e2]; omega
    have hget : ms[p.1]? = some m := by rw [← Array.getElem?_toList, e1, hi]; simp
    refine ⟨.map (ms.modify p.1 fun e => { e with key := oneV ka kl key, val := oneV va vl val }) clock, ?_, _, _, hat _, ?_, ?_, ?_, ?_⟩
    · simp only [Sem.run_bind, run_underlying' hu, Result.andThen_ok, MapKept.run_getObj_map hb, hk.chk, hf, Option.map_some, hget, Option.getD_some, e3, hk.stays, MapKept.run_setObj_map _ hb]
    · rw [h3, Array.toList_modify, e1, hi, modify_mid]
      simp [e4, e5]
    · rw [Array.toList_modify, e1, hi, modify_mid]
      rw [e1] at hn
      simpa using hn
    · rw [Array.toList_modify, e1, hi, modify_mid]
      rw [e1] at hc
      intro x hx
      rcases List.mem_append.1 hx with hx | hx
      · exact hc x (by simp [hx])
      · rcases List.mem_cons.1 hx with rfl | hx
        · exact hc m (by simp)
        · exact hc x (by simp [hx])
    · rw [h3]
      rw [h1] at hkn
      simpa using hkn
theorem delete_run (hT : tabChk P tab = true) (h : mapOk tab t ka va kl vl = true) (hm : MapSat w b ka va kl vl es) (key : LT kl) (t' ty : TypeId) :
    ∃ o, (Builtin.delete_ #[t, t'] ty #[.map (some b), oneV ka kl key]).run P w = .ok (.tuple #[]) { w with heap := w.heap.setIfInBounds b o } ∧ MapSat { w with heap := w.heap.setIfInBounds b o } b ka va kl vl (mdel es key) := by
  obtain ⟨k, e, hu, hk, hz⟩ := mapOk_spec hT h
  obtain ⟨ms, clock, hb, hms, hn, hc, hkn⟩ := hm
  have hlt : b < w.heap.size := (Array.getElem?_eq_some_iff.1 hb).1
  have hat : ∀ o, (w.heap.setIfInBounds b o)[b]? = some o := fun o => by simp [hlt]
  have hf := hk.find key (oneV va vl) es ms.toList w hms
  have hsp := mfind_spec key es 0
  unfold Builtin.delete_
  cases hfd : mfind key es 0 with
  | none =>
    rw [hfd] at hf hsp
    obtain ⟨h1, h2, h3⟩ := hsp
    refine ⟨.map ms clock, ?_, _, _, hat _, ?_, hn, hc, ?_⟩
    · simp [run_underlying' hu, MapKept.run_getObj_map hb, hk.chk, hf, MapKept.run_setObj_map _ hb]
    · rw [h3]; exact hms
    · rw [h3]; exact hkn
  | some p =>
    rw [hfd] at hf hsp
    obtain ⟨a, r, h1, h2, h3, h4⟩ := hsp
    obtain ⟨ma, m, mr, e1, e2, e3, e4, e5⟩ := entry_of hms h1
    have hi : p.1 = ma.length := by rw [h2, e2]; omega
    have her : (ms.eraseIdxIfInBounds p.1).toList = ma ++ mr := by
      rw [Array.toList_eraseIdxIfInBounds, e1, hi, erase_mid]
    refine ⟨.map (ms.eraseIdxIfInBounds p.1) clock, ?_, _, _, hat _, ?_, ?_, ?_, ?_⟩
    · simp [run_underlying' hu, MapKept.run_getObj_map hb, hk.chk, hf, MapKept.run_setObj_map _ hb]
    · rw [h4, her]
      simp [e4, e5]
    · rw [her]
      rw [e1] at hn
      simp only [List.map_append, List.map_cons] at hn ⊢
      exact List.Nodup.sublist (List.Sublist.append (List.Sublist.refl _) (List.sublist_cons_self _ _)) hn
    · rw [her]
      rw [e1] at hc
      intro x hx
      rcases List.mem_append.1 hx with hx | hx
      · exact hc x (by simp [hx])
      · exact hc x (by simp [hx])
    · rw [h4]
      rw [h1] at hkn
      simp only [List.map_append, List.map_cons] at hkn ⊢
      exact List.Nodup.sublist (List.Sublist.append (List.Sublist.refl _) (List.sublist_cons_self _ _)) hkn
end
theorem encL_names : ∀ (ls : List Lf) (x : LT ls), namesL (encL ls x) = []
  | [], _ => rfl
  | [l], x => by cases l <;> rfl
  | l :: m :: ls, x => by
    have h1 : namesOf (l.enc x.1) = [] := by cases l <;> rfl
    show namesOf (l.enc x.1) ++ namesL (encL (m :: ls) x.2) = []
    rw [h1, encL_names (m :: ls) x.2]; rfl
theorem encO_names (agg : Bool) (ls : List Lf) (x : LT ls) : namesOf (encO agg ls x) = [] := by
  have h := encL_names ls x
  unfold encO
  cases agg with
  | true => simpa only [namesOf] using h
  | false =>
    simp only
    revert h
    generalize encL ls x = l
    match l with
    | [] => intro _; rfl
    | [v] => intro h; simpa [namesL] using h
    | _ :: _ :: _ => intro _; rfl
theorem mpOf_spec {tab : Tab} {t : TypeId} {H : Heap} {v : SV} {m : Mp} (h : mpOf tab t H v = some m) : v = .mp m.j ∧ lkp m.j H = some (.map t m.ka m.va m.kl m.vl m.es) ∧ mapOk tab t m.ka m.va m.kl m.vl = true := by
  unfold mpOf at h
  split at h
  · rename_i j
    split at h
    · rename_i t' ka va kl vl es hj
      by_cases hc : (Nat.beq t t' && mapOk tab t ka va kl vl) = true
      · rw [hc, cond_true] at h
        cases h
        rw [Bool.and_eq_true] at hc
        obtain rfl := Nat.eq_of_beq_eq_true hc.1
        exact ⟨rfl, hj, hc.2⟩
      · rw [Bool.not_eq_true] at hc; rw [hc] at h; cases h
    · cases h
  · cases h
theorem MapSat.congr {w w' : World} {b : Nat} {ka va : Bool} {kl vl : List Lf} {es : List (LT kl × LT vl)} (h : MapSat w b ka va kl vl es) (hw : w'.heap[b]? = w.heap[b]?) : MapSat w' b ka va kl vl es := by
  obtain ⟨ms, clock, h1, h2⟩ := h
  exact ⟨ms, clock, by rw [hw]; exact h1, h2⟩
/-- What a map's name stands for. -/
theorem RelW.mapAt {S : Nat → Prop} {w0 : World} {ν : Nat → Value} {st : St} {w : World} (h : RelW S w0 ν st w) {tab : Tab} {t : TypeId} {v : SV} {m : Mp} (hm : mpOf tab t st.H v = some m) :
    ∃ b, ν m.j = .map (some b) ∧ den ν v = .map (some b) ∧ b < w.heap.size ∧ MapSat w b m.ka m.va m.kl m.vl m.es := by
  obtain ⟨rfl, h2, _⟩ := mpOf_spec hm
  have hs := h.sat _ _ h2
  obtain ⟨b, hb, hc⟩ := hs
  refine ⟨b, hb, by simp only [den, hb]; rfl, ?_, hc⟩
  obtain ⟨ms, clock, h1, _⟩ := hc
  exact (Array.getElem?_eq_some_iff.1 h1).1
end Go.Aq
