/- The evaluator is right: what its values and places stand for. -/
import Derived.Test.YtpfddjdkafjjfaaGreatV1
import Derived.Laws.CopyRow
import Derived.Laws.Rows
import Derived.Laws.MakeOwn
import Derived.Below
import Derived.Deep.LoopGhost
namespace Go.Aq
open Go.RowKit (Below)

def blk : Value → Nat
  | .pointer (some a) => a.block
  | .slice (some a) _ _ => a.block
  | .map (some b) => b
  | _ => 0
def mpV : Value → Value
  | .map b => .map b
  | _ => .map none
def hdr : Value → Value
  | .slice a n c => .slice a n c
  | _ => .slice none 0 0
def offs : Value → Nat
  | .slice (some a) _ _ => a.off
  | _ => 0
/-- A slice, cut so often from its beginning. -/
def chop (sz : Nat) : List Int → Addr × Nat → Addr × Nat
  | [], p => p
  | l :: ls, p => chop sz ls (if p.2 = l.toNat then p.1 else p.1.add (l.toNat * sz), p.2 - l.toNat)
def cutV (sz : Nat) (ch : List Int) (n : Int) : Value → Value
  | .slice (some a) _ c => .slice (some (chop sz ch (a, c)).1) n.toNat (chop sz ch (a, c)).2
  | _ => .slice none 0 0

mutual
def den (ν : Nat → Value) : SV → Value
  | .int k n => .int k n
  | .bool b => .bool b
  | .str s => .string s
  | .ptr j off => .pointer (some ⟨blk (ν j), off, none⟩)
  | .ept j sz i off => .pointer (some ⟨blk (ν j), offs (ν j) + i.toNat * sz + off, none⟩)
  | .osl j => hdr (ν j)
  | .mp j => mpV (ν j)
  | .sl j sz ch n => cutV sz ch n (ν j)
  | .csl j n => .slice (some ⟨blk (ν j), 0, none⟩) n n
  | .clo f cs => .func (.func f) #[] (denL ν cs).toArray
  | .iface t v => .iface t (den ν v)
  | .agg cs => .agg (denL ν cs).toArray
  | .tup cs => .tuple (denL ν cs).toArray
  | .nilp => .pointer none
  | .nilsl => .slice none 0 0
  | .nilf => .nilFunc
  | .nili => .nilIface
  | .nilm => .map none
def denL (ν : Nat → Value) : List SV → List Value
  | [] => []
  | v :: vs => den ν v :: denL ν vs
end

theorem denL_eq (ν : Nat → Value) (vs : List SV) : denL ν vs = vs.map (den ν) := by
  induction vs with
  | nil => simp [denL]
  | cons v vs ih => simp [denL, ih]

mutual
/-- All names in a value are below a number. -/
def svLt (n : Nat) : SV → Bool
  | .ptr j _ => Nat.blt j n
  | .ept j _ _ _ => Nat.blt j n
  | .osl j => Nat.blt j n
  | .mp j => Nat.blt j n
  | .sl j _ _ _ => Nat.blt j n
  | .csl j _ => Nat.blt j n
  | .clo _ cs => belowL n cs
  | .iface _ v => svLt n v
  | .agg cs => belowL n cs
  | .tup cs => belowL n cs
  | _ => true
def belowL (n : Nat) : List SV → Bool
  | [] => true
  | v :: vs => svLt n v && belowL n vs
end
def hoLt (n : Nat) : HO → Bool
  | .cells _ vs => belowL n vs
  | .row _ _ _ _ => true
  | .map _ _ _ _ _ _ => true
  | .tab _ _ _ => true

mutual
theorem den_congr {ν ν' : Nat → Value} {n : Nat} (h : ∀ j, j < n → ν j = ν' j) : ∀ v, svLt n v = true → den ν v = den ν' v
  | .int _ _, _ | .bool _, _ | .str _, _ | .nilp, _ | .nilsl, _ | .nilf, _ | .nili, _ | .nilm, _ => by simp [den]
  | .ptr j off, hv => by simp [svLt] at hv; simp [den, h j hv]
  | .ept j sz i off, hv => by simp [svLt] at hv; simp [den, h j hv]
  | .osl j, hv => by simp [svLt] at hv; simp [den, h j hv]
  | .mp j, hv => by simp [svLt] at hv; simp [den, h j hv]
  | .sl j sz ch m, hv => by simp [svLt] at hv; simp [den, h j hv]
  | .csl j m, hv => by simp [svLt] at hv; simp [den, h j hv]
  | .clo f cs, hv => by simp [svLt] at hv; simp [den, denL_congr h cs hv]
  | .iface t v, hv => by simp [svLt] at hv; simp [den, den_congr h v hv]
  | .agg cs, hv => by simp [svLt] at hv; simp [den, denL_congr h cs hv]
  | .tup cs, hv => by simp [svLt] at hv; simp [den, denL_congr h cs hv]
theorem denL_congr {ν ν' : Nat → Value} {n : Nat} (h : ∀ j, j < n → ν j = ν' j) : ∀ vs, belowL n vs = true → denL ν vs = denL ν' vs
  | [], _ => by simp [denL]
  | v :: vs, hv => by
    simp [belowL] at hv
    simp [denL, den_congr h v hv.1, denL_congr h vs hv.2]
end
mutual
theorem svLt_mono {m n : Nat} (h : m ≤ n) : ∀ v, svLt m v = true → svLt n v = true
  | .int _ _, _ | .bool _, _ | .str _, _ | .nilp, _ | .nilsl, _ | .nilf, _ | .nili, _ | .nilm, _ => by simp [svLt]
  | .ptr j off, hv => by simp [svLt] at *; omega
  | .ept j _ _ _, hv => by simp [svLt] at *; omega
  | .osl j, hv => by simp [svLt] at *; omega
  | .mp j, hv => by simp [svLt] at *; omega
  | .sl j _ _ _, hv => by simp [svLt] at *; omega
  | .csl j _, hv => by simp [svLt] at *; omega
  | .clo f cs, hv => by simp only [svLt] at *; exact belowL_mono h cs hv
  | .iface t v, hv => by simp only [svLt] at *; exact svLt_mono h v hv
  | .agg cs, hv => by simp only [svLt] at *; exact belowL_mono h cs hv
  | .tup cs, hv => by simp only [svLt] at *; exact belowL_mono h cs hv
theorem belowL_mono {m n : Nat} (h : m ≤ n) : ∀ vs, belowL m vs = true → belowL n vs = true
  | [], _ => by simp [belowL]
  | v :: vs, hv => by
    simp [belowL] at *
    exact ⟨svLt_mono h v hv.1, belowL_mono h vs hv.2⟩
end
theorem belowL_iff {n : Nat} {vs : List SV} : belowL n vs = true ↔ ∀ v ∈ vs, svLt n v = true := by
  induction vs with
  | nil => simp [belowL]
  | cons v vs ih => simp [belowL, ih]
theorem hoLt_mono {m n : Nat} (h : m ≤ n) : ∀ o, hoLt m o = true → hoLt n o = true
  | .cells _ vs, ho => by simp only [hoLt] at *; exact belowL_mono h vs ho
  | .row _ _ _ _, _ => by simp [hoLt]
  | .map _ _ _ _ _ _, _ => by simp [hoLt]
  | .tab _ _ _, _ => by simp [hoLt]

/-! ### Plain things -/
def ν0 : Nat → Value := fun _ => .pointer none
theorem lf_enc_lt (n : Nat) (l : Lf) (x : l.T) : svLt n (l.enc x) = true := by cases l <;> rfl
theorem encL_lt (n : Nat) : ∀ (ls : List Lf) (x : LT ls), belowL n (encL ls x) = true
  | [], _ => rfl
  | [l], x => Bool.and_eq_true_iff.2 ⟨lf_enc_lt n l x, rfl⟩
  | l :: m :: ls, x => by show (svLt n (l.enc x.1) && belowL n (encL (m :: ls) x.2)) = true; rw [lf_enc_lt, encL_lt n (m :: ls) x.2]; rfl
theorem encL_length : ∀ (ls : List Lf) (x : LT ls), (encL ls x).length = ls.length
  | [], _ => rfl
  | [l], x => rfl
  | l :: m :: ls, x => by simp [encL, encL_length (m :: ls) x.2]
theorem lf_leaf (l : Lf) (x : l.T) : isLeaf (l.enc x) = true := by cases l <;> rfl
theorem encL_leaf : ∀ (ls : List Lf) (x : LT ls), (encL ls x).all isLeaf = true
  | [], _ => rfl
  | [l], x => Bool.and_eq_true_iff.2 ⟨lf_leaf l x, rfl⟩
  | l :: m :: ls, x => by show (isLeaf (l.enc x.1) && (encL (m :: ls) x.2).all isLeaf) = true; rw [lf_leaf, encL_leaf (m :: ls) x.2]; rfl
theorem lf_dec {l : Lf} {v : SV} {x : l.T} (h : l.dec v = some x) : v = l.enc x := by
  cases l <;> cases v <;> simp only [Lf.dec, reduceCtorEq] at h
  · rename_i k k' n
    by_cases hk : k = k'
    · subst hk
      rw [decide_eq_true rfl, cond_true] at h
      rw [← Option.some.inj h]; rfl
    · rw [decide_eq_false hk, cond_false] at h; cases h
  · rw [← Option.some.inj h]; rfl
  · rw [← Option.some.inj h]; rfl
theorem decL_one (l : Lf) (v : SV) : decL [l] [v] = l.dec v := rfl
theorem decL_more (l m : Lf) (ls : List Lf) (v : SV) (vs : List SV) : decL (l :: m :: ls) (v :: vs) = (match l.dec v with
    | some x => match decL (m :: ls) vs with
      | some y => some (x, y)
      | none => none
    | none => none) := rfl
theorem decL_of : ∀ (ls : List Lf) (vs : List SV) (x : LT ls), decL ls vs = some x → vs = encL ls x := by
  intro ls
  induction ls with
  | nil =>
    intro vs x h
    cases vs with
    | nil => rfl
    | cons v vs => exact nomatch h
  | cons l ls ih =>
    intro vs x h
    cases ls with
    | nil =>
      cases vs with
      | nil => exact nomatch h
      | cons v vs =>
        cases vs with
        | nil => rw [decL_one] at h; rw [lf_dec h]; rfl
        | cons _ _ => exact nomatch h
    | cons m ls =>
      cases vs with
      | nil => exact nomatch h
      | cons v vs =>
        rw [decL_more] at h
        split at h
        · rename_i y hy
          split at h
          · rename_i z hz
            rw [← Option.some.inj h, lf_dec hy, ih vs z hz]; rfl
          · exact nomatch h
        · exact nomatch h
/-- A plain thing's cells, as the machine has them. -/
def cellsV (ls : List Lf) (x : LT ls) : List Value := denL ν0 (encL ls x)
theorem cellsV_length (ls : List Lf) (x : LT ls) : (cellsV ls x).length = ls.length := by simp [cellsV, denL_eq, encL_length]
theorem cellsV_any (ls : List Lf) (x : LT ls) (ν : Nat → Value) : denL ν (encL ls x) = cellsV ls x := denL_congr (n := 0) (fun j hj => absurd hj (Nat.not_lt_zero j)) _ (encL_lt 0 ls x)
/-- A row's cells. -/
def flat (ls : List Lf) : List (LT ls) → List Value
  | [] => []
  | x :: xs => cellsV ls x ++ flat ls xs
theorem flat_length (ls : List Lf) : ∀ xs : List (LT ls), (flat ls xs).length = xs.length * ls.length
  | [] => by simp [flat]
  | x :: xs => by simp [flat, flat_length ls xs, cellsV_length, Nat.add_mul, Nat.add_comm]
theorem flat_append (ls : List Lf) : ∀ xs ys : List (LT ls), flat ls (xs ++ ys) = flat ls xs ++ flat ls ys
  | [], ys => rfl
  | x :: xs, ys => by simp [flat, flat_append ls xs ys]
theorem flat_take (ls : List Lf) : ∀ (xs : List (LT ls)) (n : Nat), flat ls (xs.take n) = (flat ls xs).take (n * ls.length)
  | [], n => by simp [flat]
  | x :: xs, 0 => by simp [flat]
  | x :: xs, n + 1 => by
    simp only [List.take_succ_cons, flat, flat_take ls xs n]
    have hl := cellsV_length ls x
    rw [List.take_append, hl, Nat.add_mul, Nat.one_mul, Nat.add_sub_cancel, List.take_of_length_le (l := cellsV ls x) (by omega)]
theorem flat_drop (ls : List Lf) : ∀ (xs : List (LT ls)) (n : Nat), flat ls (xs.drop n) = (flat ls xs).drop (n * ls.length)
  | [], n => by simp [flat]
  | x :: xs, 0 => by simp
  | x :: xs, n + 1 => by
    simp only [List.drop_succ_cons, flat, flat_drop ls xs n]
    have hl := cellsV_length ls x
    rw [List.drop_append, hl, Nat.add_mul, Nat.one_mul, Nat.add_sub_cancel, List.drop_of_length_le (l := cellsV ls x) (by omega), List.nil_append]
theorem getD_split {α : Type} (d : α) (xs : List α) (i : Nat) (h : i < xs.length) : xs = xs.take i ++ xs.getD i d :: xs.drop (i + 1) := by
  rw [List.getD_eq_getElem?_getD, List.getElem?_eq_getElem h]
  simp
theorem flat_at (ls : List Lf) (xs : List (LT ls)) (i : Nat) (h : i < xs.length) : ((flat ls xs).drop (i * ls.length)).take ls.length = cellsV ls (xs.getD i (dfltL ls)) := by
  rw [← flat_drop, List.drop_eq_getElem_cons h, flat, List.getD_eq_getElem?_getD, List.getElem?_eq_getElem h]
  simp [cellsV_length]
theorem flat_set (ls : List Lf) (xs : List (LT ls)) (i : Nat) (h : i < xs.length) (x : LT ls) : flat ls (xs.set i x) = (flat ls xs).take (i * ls.length) ++ (cellsV ls x ++ (flat ls xs).drop ((i + 1) * ls.length)) := by
  rw [List.set_eq_take_append_cons_drop, if_pos h, flat_append, flat, flat_take, flat_drop]
theorem leaf_one (ν : Nat → Value) {v : SV} (h : isLeaf v = true) : (den ν v).oneCell' = true := by
  cases v <;> simp [isLeaf] at h <;> simp [den, Value.oneCell']
  · rename_i j
    cases ν j <;> rfl
  · rename_i j
    cases ν j <;> rfl
  · rename_i j sz ch n
    cases ν j <;> first | rfl | (rename_i a _ _; cases a <;> rfl)
theorem leafL_one (ν : Nat → Value) {vs : List SV} (h : vs.all isLeaf = true) : ∀ x ∈ denL ν vs, x.oneCell' = true := by
  intro x hx
  rw [denL_eq, List.mem_map] at hx
  obtain ⟨v, hv, rfl⟩ := hx
  exact leaf_one ν (List.all_eq_true.1 h v hv)
theorem flat_one (ls : List Lf) (xs : List (LT ls)) : ∀ x ∈ flat ls xs, x.oneCell' = true := by
  induction xs with
  | nil => intro x hx; cases hx
  | cons y ys ih =>
    intro x hx
    rcases List.mem_append.1 hx with h | h
    · exact leafL_one ν0 (encL_leaf ls y) x h
    · exact ih x h

/-! ### Places -/
/-- No cell of a block is frozen. -/
def Thawed (n : Nat) (fz : Nat × Nat) : Prop := ∀ i, i < n → ¬ (fz.1 ≤ i ∧ i < fz.2)
/-- A slice value that is a row of so many elements. -/
def RowVal (v : Value) (n : Nat) : Prop :=
  (v = .slice none 0 0 ∧ n = 0) ∨ ∃ a cap, v = .slice (some a) n cap ∧ n ≤ cap ∧ (n ≠ 0 → a.spot = none)
/-- A row of plain things: its cells can be read; an own one can be written. -/
def RowSat (w : World) (v : Value) (own : Bool) (t : TypeId) (ls : List Lf) (xs : List (LT ls)) : Prop :=
  (v = .slice none 0 0 ∧ xs = []) ∨ ∃ a cap, v = .slice (some a) xs.length cap ∧ xs.length ≤ cap ∧
    (own = false → (∀ i u, (flat ls xs)[i]? = some u → w.cell? (a.add i) = some u) ∧ (xs ≠ [] → ls ≠ [] → a.spot = none)) ∧
    (own = true → a.off = 0 ∧ a.spot = none ∧ cap ≤ maxLen ∧ ∃ cur fz, w.heap[a.block]? = some (.cells cur t fz) ∧ cur.size = cap * ls.length ∧ Thawed cur.size fz ∧ cur.toList.take (xs.length * ls.length) = flat ls xs)
/-- A thing of leaves, as one value. -/
def oneV (agg : Bool) (ls : List Lf) (x : LT ls) : Value := match agg with
  | true => .agg (denL ν0 (encL ls x)).toArray
  | false => match denL ν0 (encL ls x) with
    | [v] => v
    | _ => .agg #[]
/-- A map: its pairs, in the order in which they came. -/
def MapSat (w : World) (b : Nat) (ka va : Bool) (kl vl : List Lf) (es : List (LT kl × LT vl)) : Prop :=
  ∃ (ms : Array MapEntry) (clock : Nat), w.heap[b]? = some (.map ms clock) ∧ ms.toList.map (fun e => (e.key, e.val)) = (es.map fun e => (oneV ka kl e.1, oneV va vl e.2)) ∧
    (ms.toList.map (·.born)).Nodup ∧ (∀ e ∈ ms.toList, e.born < clock) ∧ (es.map (·.1)).Nodup
/-- A named place holds what is known of it. -/
def hoSat (ν : Nat → Value) (w : World) (j : Nat) : HO → Prop
  | .cells T vs => ∃ b, ν j = .pointer (some ⟨b, 0, none⟩) ∧ w.heap[b]? = some (.cells (denL ν vs).toArray T (0, 0))
  | .row own t ls xs => ls ≠ [] ∧ RowSat w (ν j) own t ls xs
  | .map _ ka va kl vl es => ∃ b, ν j = .map (some b) ∧ MapSat w b ka va kl vl es
  | .tab _ _ _ => True
/-- The block of a place that may be written; that of a row that is only read. -/
def mineOf (v : Value) : HO → Option Nat
  | .cells _ _ => some (blk v)
  | .row true _ _ _ => match v with | .slice (some a) _ _ => some a.block | _ => none
  | .row false _ _ _ => none
  | .map _ _ _ _ _ _ => some (blk v)
  | .tab _ _ _ => none
def seenOf (v : Value) : HO → Option Nat
  | .row false _ _ (_ :: _) => match v with | .slice (some a) _ _ => some a.block | _ => none
  | _ => none
/-- The block on which a place's looks hang. -/
def onOf (v : Value) : HO → Option Nat
  | .cells _ _ => some (blk v)
  | .row true _ _ _ => match v with | .slice (some a) _ _ => some a.block | _ => none
  | .row false _ _ (_ :: _) => match v with | .slice (some a) _ _ => some a.block | _ => none
  | .row false _ _ [] => none
  | .map _ _ _ _ _ _ => some (blk v)
  | .tab _ _ _ => none
mutual
/-- What the cells of an element of a table are. 'Av': where its rows may lie. -/
def rdS (w : World) (Av : Nat → Prop) : (s : Sh) → s.T → List Value → Prop
  | .leaf l, x, vs => vs = [den ν0 (l.enc x)]
  | .row own t ls, xs, vs => own = false ∧ ∃ v, vs = [v] ∧ ls ≠ [] ∧ RowSat w v false t ls xs ∧ ∀ b, seenOf v (.row false t ls xs) = some b → Av b
  | .map _ _ _ _ _, _, _ => False
  | .tab _ _, _, _ => False
  | .agg f, x, vs => rdF w Av f x vs
def rdF (w : World) (Av : Nat → Prop) : (f : Shs) → f.T → List Value → Prop
  | .one s ps, x, vs => ps = [] ∧ rdS w Av s x vs
  | .cons s r, x, vs => ∃ v1 v2, vs = v1 ++ v2 ∧ rdS w Av s x.1 v1 ∧ rdF w Av r x.2 v2
  | .pin _ _, _, _ => False
  | .pins _, _, _ => False
end
/-- A table: a row whose elements have rows in them; it is only read. 'Av': where it may lie. -/
def TabIs (w : World) (Av : Nat → Prop) (v : Value) (f : Shs) (xs : List f.T) : Prop :=
  (v = .slice none 0 0 ∧ xs = []) ∨ ∃ a cap, v = .slice (some a) xs.length cap ∧ (xs ≠ [] → a.spot = none ∧ Av a.block) ∧
    ∀ i (x : f.T), xs[i]? = some x → ∃ vs, vs.length = f.sz ∧ (∀ k u, vs[k]? = some u → w.cell? (a.add (i * f.sz + k)) = some u) ∧ rdF w Av f x vs
/-- A table in old memory. -/
abbrev TabSat (S : Nat → Prop) (w0 : World) (v : Value) (f : Shs) (xs : List f.T) : Prop := TabIs w0 (fun b => b < w0.heap.size ∧ ¬ S b) v f xs

theorem cell_of_heap {w w' : World} {a : Addr} (h : w'.heap[a.block]? = w.heap[a.block]?) : w'.cell? a = w.cell? a := by simp [World.cell?, h]
theorem add_block (a : Addr) (n : Nat) : (a.add n).block = a.block := by unfold Addr.add; split <;> rfl
theorem add_plain (b o i : Nat) : (⟨b, o, none⟩ : Addr).add i = ⟨b, o + i, none⟩ := by unfold Addr.add; split <;> simp_all

theorem RowSat.congr {w w' : World} {v : Value} {own : Bool} {t : TypeId} {ls : List Lf} {xs : List (LT ls)} (h : RowSat w v own t ls xs) (hw : ∀ b, onOf v (.row own t ls xs) = some b → w'.heap[b]? = w.heap[b]?) : RowSat w' v own t ls xs := by
  rcases h with h | ⟨a, cap, hv, hc, h1, h2⟩
  · exact .inl h
  · refine .inr ⟨a, cap, hv, hc, fun ho => ⟨fun i u hu => ?_, (h1 ho).2⟩, fun ho => ?_⟩
    · subst ho
      cases xs with
      | nil => simp [flat] at hu
      | cons x xs =>
        rw [cell_of_heap (w := w) (by rw [add_block]; exact hw a.block (by rw [hv]; rfl))]
        exact (h1 rfl).1 i u hu
    · obtain ⟨e1, e2, e3, cur, fz, e4, e5⟩ := h2 ho
      subst ho
      exact ⟨e1, e2, e3, cur, fz, by rw [hw a.block (by rw [hv]; rfl)]; exact e4, e5⟩
theorem RowSat.rowVal {w : World} {v : Value} {own : Bool} {t : TypeId} {ls : List Lf} {xs : List (LT ls)} (hls : ls ≠ []) (h : RowSat w v own t ls xs) : RowVal v xs.length := by
  rcases h with ⟨rfl, rfl⟩ | ⟨a, cap, hv, hc, h1, h2⟩
  · exact .inl ⟨rfl, rfl⟩
  · refine .inr ⟨a, cap, hv, hc, fun hn => ?_⟩
    cases own with
    | true => exact (h2 rfl).2.1
    | false => exact (h1 rfl).2 (by intro h; subst h; exact hn rfl) hls
theorem hoSat_congr {ν ν' : Nat → Value} {n : Nat} {w w' : World} {j : Nat} (h : ∀ j, j < n → ν j = ν' j) (hj : j < n) {o : HO} (hw : ∀ b, onOf (ν j) o = some b → w'.heap[b]? = w.heap[b]?) (ho : hoLt n o = true) (hs : hoSat ν w j o) : hoSat ν' w' j o := by
  cases o with
  | cells T vs =>
    obtain ⟨b, hb, hc⟩ := hs
    refine ⟨b, by rw [← h j hj, hb], ?_⟩
    simp only [hoLt] at ho
    rw [← denL_congr h vs ho, ← hc]
    exact hw b (by rw [hb]; rfl)
  | row own t ls xs => exact ⟨hs.1, by rw [← h j hj]; exact hs.2.congr hw⟩
  | map t ka va kl vl es =>
    obtain ⟨b, hb, ms, clock, h1, h2⟩ := hs
    exact ⟨b, by rw [← h j hj, hb], ms, clock, by rw [hw b (by rw [hb]; rfl)]; exact h1, h2⟩
  | tab t f xs => trivial
theorem hoSat_lt {ν : Nat → Value} {w : World} {j : Nat} {o : HO} (hs : hoSat ν w j o) : ∀ b, onOf (ν j) o = some b → b < w.heap.size := by
  intro b hb
  have key : ∀ o', w.heap[b]? = some o' → b < w.heap.size := fun o' h => (Array.getElem?_eq_some_iff.1 h).1
  cases o with
  | cells T vs =>
    obtain ⟨b', hb', hc⟩ := hs
    rw [hb'] at hb
    simp only [onOf, blk, Option.some.injEq] at hb
    subst hb
    exact key _ hc
  | row own t ls xs =>
    rcases hs.2 with ⟨hv, rfl⟩ | ⟨a, cap, hv, hc, h1, h2⟩
    · rw [hv] at hb
      cases own <;> simp [onOf] at hb
    · rw [hv] at hb
      cases own with
      | true =>
        simp only [onOf, Option.some.injEq] at hb
        subst hb
        obtain ⟨_, _, _, cur, fz, e4, _⟩ := h2 rfl
        exact key _ e4
      | false =>
        cases xs with
        | nil => simp [onOf] at hb
        | cons x xs =>
          simp only [onOf, Option.some.injEq] at hb
          subst hb
          have hl : 0 < (flat ls (x :: xs)).length := by
            rw [flat_length]
            exact Nat.mul_pos (by simp) (List.length_pos_iff.2 hs.1)
          have := (h1 rfl).1 0 _ (List.getElem?_eq_getElem hl)
          simpa [add_block] using block_lt_of_cell this
  | map t ka va kl vl es =>
    obtain ⟨b', hb', ms, clock, hc, _⟩ := hs
    rw [hb'] at hb
    simp only [onOf, blk, Option.some.injEq] at hb
    subst hb
    exact key _ hc
  | tab t f xs => simp [onOf] at hb
theorem mine_on {v : Value} {o : HO} {b : Nat} (h : mineOf v o = some b) : onOf v o = some b := by
  cases o with
  | cells T vs => exact h
  | row own t ls xs => cases own <;> first | exact h | (simp [mineOf] at h)
  | map t ka va kl vl es => exact h
  | tab t f xs => simp [mineOf] at h
theorem seen_on {v : Value} {o : HO} {b : Nat} (h : seenOf v o = some b) : onOf v o = some b := by
  cases o with
  | cells T vs => simp [seenOf] at h
  | row own t ls xs => cases own <;> cases xs <;> first | exact h | (simp [seenOf] at h)
  | map t ka va kl vl es => simp [seenOf] at h
  | tab t f xs => simp [seenOf] at h
theorem on_cases {v : Value} {o : HO} {b : Nat} (h : onOf v o = some b) : mineOf v o = some b ∨ seenOf v o = some b := by
  cases o with
  | cells T vs => exact .inl h
  | row own t ls xs => cases own <;> cases xs <;> first | exact .inl h | exact .inr h | (simp [onOf] at h)
  | map t ka va kl vl es => exact .inl h
  | tab t f xs => simp [onOf] at h

/-- The world is as the evaluator has it; of what was there in w0 nothing has turned but S. -/
structure RelW (S : Nat → Prop) (w0 : World) (ν : Nat → Value) (st : St) (w : World) : Prop where
  sat : ∀ j o, lkp j st.H = some o → hoSat ν w j o
  lt : ∀ j o, lkp j st.H = some o → j < st.nx ∧ hoLt st.nx o = true
  inj : ∀ i j oi oj b, lkp i st.H = some oi → lkp j st.H = some oj → mineOf (ν i) oi = some b → mineOf (ν j) oj = some b → i = j
  mine : ∀ j o b, lkp j st.H = some o → mineOf (ν j) o = some b → S b ∨ w0.heap.size ≤ b
  seen : ∀ j o b, lkp j st.H = some o → seenOf (ν j) o = some b → b < w0.heap.size ∧ ¬ S b
  os : w.os = w0.os
  tape : w.tape = w0.tape
  output : w.output = w0.output
  size : w0.heap.size ≤ w.heap.size
  frame : ∀ b, b < w0.heap.size → ¬ S b → w.heap[b]? = w0.heap[b]?
  tab : ∀ j t f xs, lkp j st.H = some (.tab t f xs) → TabSat S w0 (ν j) f xs

/-- From one state to a later one. -/
structure Step (ν : Nat → Value) (st : St) (w : World) (ν' : Nat → Value) (st' : St) (w' : World) : Prop where
  nx : st.nx ≤ st'.nx
  agree : ∀ j, j < st.nx → ν j = ν' j
  dirt : st.dirty = true → st'.dirty = true
  size : w.heap.size ≤ w'.heap.size
  same : st'.dirty = false → ∀ b, b < w.heap.size → w'.heap[b]? = w.heap[b]?
theorem Step.refl (ν : Nat → Value) (st : St) (w : World) : Step ν st w ν st w := ⟨Nat.le_refl _, fun _ _ => rfl, id, Nat.le_refl _, fun _ _ _ => rfl⟩
theorem Step.trans {ν : Nat → Value} {st : St} {w : World} {ν' : Nat → Value} {st' : St} {w' : World} {ν'' : Nat → Value} {st'' : St} {w'' : World}
    (h : Step ν st w ν' st' w') (k : Step ν' st' w' ν'' st'' w'') : Step ν st w ν'' st'' w'' where
  nx := Nat.le_trans h.nx k.nx
  agree j hj := (h.agree j hj).trans (k.agree j (Nat.lt_of_lt_of_le hj h.nx))
  dirt h' := k.dirt (h.dirt h')
  size := Nat.le_trans h.size k.size
  same e b hb := by
    refine (k.same e b (Nat.lt_of_lt_of_le hb h.size)).trans (h.same ?_ b hb)
    cases hd : st'.dirty with
    | false => rfl
    | true => rw [k.dirt hd] at e; cases e

theorem RelW.below {S : Nat → Prop} {w0 : World} {ν : Nat → Value} {st : St} {w w' : World} (h : RelW S w0 ν st w) (hb : Below w.heap.size w w') : RelW S w0 ν st w' where
  sat j o ho := hoSat_congr (fun _ _ => rfl) (h.lt j o ho).1 (fun b hon => hb.block b (hoSat_lt (h.sat j o ho) b hon)) (h.lt j o ho).2 (h.sat j o ho)
  lt := h.lt
  inj := h.inj
  mine := h.mine
  seen := h.seen
  os := hb.os.trans h.os
  tape := hb.tape.trans h.tape
  output := hb.output.trans h.output
  size := Nat.le_trans h.size hb.size
  frame b hlt hS := (hb.block b (Nat.lt_of_lt_of_le hlt h.size)).trans (h.frame b hlt hS)
  tab := h.tab

theorem lkp_cons {α : Type _} (t s : Nat) (v : α) (r : List (Nat × α)) : lkp t ((s, v) :: r) = if s = t then some v else lkp t r := by
  simp only [lkp]
  by_cases h : s = t
  · simp [h]
  · rw [if_neg h, show Nat.beq s t = false from Bool.eq_false_iff.2 fun e => h (Nat.eq_of_beq_eq_true e)]; rfl
theorem lkp_del {α : Type _} (t s : Nat) (r : List (Nat × α)) : lkp t (del s r) = if s = t then none else lkp t r := by
  induction r with
  | nil => simp [del, lkp]
  | cons x xs ih =>
    obtain ⟨i, v⟩ := x
    simp only [del]
    by_cases hi : i = s
    · subst hi
      rw [Nat.beq_refl, cond_true, ih, lkp_cons]
      split <;> rfl
    · rw [show Nat.beq i s = false from Bool.eq_false_iff.2 fun e => hi (Nat.eq_of_beq_eq_true e), cond_false, lkp_cons, lkp_cons, ih]
      by_cases h1 : i = t
      · subst h1; rw [if_pos rfl, if_pos rfl, if_neg (fun e => hi e.symm)]
      · rw [if_neg h1, if_neg h1]

theorem lkp_del_some {α : Type _} {t s : Nat} {r : List (Nat × α)} {v : α} (h : lkp t (del s r) = some v) : s ≠ t ∧ lkp t r = some v := by
  rw [lkp_del] at h
  split at h
  · cases h
  · rename_i e; exact ⟨e, h⟩
def upd (ν : Nat → Value) (n : Nat) (v : Value) : Nat → Value := fun j => if j = n then v else ν j
theorem upd_old {ν : Nat → Value} {n j : Nat} {v : Value} (h : j < n) : ν j = upd ν n v j := by simp [upd, Nat.ne_of_lt h]
theorem upd_new {ν : Nat → Value} {n : Nat} {v : Value} : upd ν n v n = v := by simp [upd]

theorem heap_alloc_lt (w : World) (o : Obj) (k : Nat) (h : k < w.heap.size) : (w.alloc o).heap[k]? = w.heap[k]? := Below.heap_alloc w o k h

/-- Worlds alike below a size. -/
structure Ext (w w' : World) : Prop where
  os : w'.os = w.os
  tape : w'.tape = w.tape
  output : w'.output = w.output
  size : w.heap.size ≤ w'.heap.size
/-- A state grows by a new name; perhaps a name falls, and its block may be the new name's. -/
theorem RelW.new {S : Nat → Prop} {w0 : World} {ν : Nat → Value} {st : St} {w w' : World} (h : RelW S w0 ν st w) (he : Ext w w') (v : Value) (o : HO) (H' : Heap) (d : Bool)
    (hH : ∀ j o', lkp j H' = some o' → lkp j st.H = some o')
    (hsame : ∀ j o' b, lkp j H' = some o' → onOf (ν j) o' = some b → w'.heap[b]? = w.heap[b]?)
    (hfr : ∀ b, b < w0.heap.size → ¬ S b → w'.heap[b]? = w.heap[b]?)
    (ho : hoLt (Nat.succ st.nx) o = true) (hs : hoSat (upd ν st.nx v) w' st.nx o)
    (hinj : ∀ j o' b, lkp j H' = some o' → mineOf (ν j) o' = some b → mineOf v o = some b → False)
    (hmine : ∀ b, mineOf v o = some b → S b ∨ w0.heap.size ≤ b)
    (hseen : ∀ b, seenOf v o = some b → b < w0.heap.size ∧ ¬ S b) (htab : ∀ t f xs, o = .tab t f xs → TabSat S w0 v f xs := by intro _ _ _ h; cases h) :
    RelW S w0 (upd ν st.nx v) ⟨Nat.succ st.nx, d, (st.nx, o) :: H'⟩ w' := by
  have hold : ∀ j, j < st.nx → ν j = upd ν st.nx v j := fun j hj => upd_old hj
  have lt' : ∀ j o', lkp j H' = some o' → j < st.nx := fun j o' hj => (h.lt j o' (hH j o' hj)).1
  refine ⟨?_, ?_, ?_, ?_, ?_, he.os.trans h.os, he.tape.trans h.tape, he.output.trans h.output, Nat.le_trans h.size he.size, ?_, ?_⟩
  · intro j o' ho'
    rw [lkp_cons] at ho'
    split at ho'
    · rename_i e; subst e; cases ho'; exact hs
    · have hl := h.lt j o' (hH j o' ho')
      exact hoSat_congr hold hl.1 (fun b hb => hsame j o' b ho' hb) hl.2 (h.sat j o' (hH j o' ho'))
  · intro j o' ho'
    rw [lkp_cons] at ho'
    split at ho'
    · rename_i e; subst e; cases ho'; exact ⟨Nat.lt_succ_self _, ho⟩
    · have hl := h.lt j o' (hH j o' ho')
      exact ⟨Nat.lt_succ_of_lt hl.1, hoLt_mono (Nat.le_succ _) o' hl.2⟩
  · intro i j oi oj b hi hj hbi hbj
    rw [lkp_cons] at hi hj
    split at hi <;> split at hj
    · rename_i e1 e2; omega
    · rename_i e1 e2; subst e1; cases hi
      rw [upd_new] at hbi
      rw [← hold j (lt' j oj hj)] at hbj
      exact (hinj j oj b hj hbj hbi).elim
    · rename_i e1 e2; subst e2; cases hj
      rw [upd_new] at hbj
      rw [← hold i (lt' i oi hi)] at hbi
      exact (hinj i oi b hi hbi hbj).elim
    · rw [← hold i (lt' i oi hi)] at hbi
      rw [← hold j (lt' j oj hj)] at hbj
      exact h.inj i j oi oj b (hH _ _ hi) (hH _ _ hj) hbi hbj
  · intro j o' b ho' hb
    rw [lkp_cons] at ho'
    split at ho'
    · rename_i e; subst e; cases ho'; rw [upd_new] at hb; exact hmine b hb
    · rw [← hold j (lt' j o' ho')] at hb
      exact h.mine j o' b (hH _ _ ho') hb
  · intro j o' b ho' hb
    rw [lkp_cons] at ho'
    split at ho'
    · rename_i e; subst e; cases ho'; rw [upd_new] at hb; exact hseen b hb
    · rw [← hold j (lt' j o' ho')] at hb
      exact h.seen j o' b (hH _ _ ho') hb
  · intro b hb hS
    exact (hfr b hb hS).trans (h.frame b hb hS)
  · intro j t f xs hj
    rw [lkp_cons] at hj
    split at hj
    · rename_i e; subst e; cases hj; rw [upd_new]; exact htab _ _ _ rfl
    · rw [← hold j (lt' j _ hj)]; exact h.tab j t f xs (hH _ _ hj)

/-- A new block for a new name. -/
theorem RelW.fresh {S : Nat → Prop} {w0 : World} {ν : Nat → Value} {st : St} {w : World} (h : RelW S w0 ν st w) (ob : Obj) (v : Value) (o : HO)
    (ho : hoLt (Nat.succ st.nx) o = true) (hs : hoSat (upd ν st.nx v) (w.alloc ob) st.nx o) (hm : ∀ b, mineOf v o = some b → b = w.heap.size) (hn : seenOf v o = none) (htab : ∀ t f xs, o = .tab t f xs → TabSat S w0 v f xs := by intro _ _ _ h; cases h) :
    RelW S w0 (upd ν st.nx v) (st.add o) (w.alloc ob) := by
  refine h.new (w' := w.alloc ob) ⟨rfl, rfl, rfl, by simp⟩ v o st.H st.dirty (fun j o' hj => hj) (fun j o' b hj hb => heap_alloc_lt w ob b (hoSat_lt (h.sat j o' hj) b hb)) (fun b hb _ => heap_alloc_lt w ob b (Nat.lt_of_lt_of_le hb h.size)) ho hs ?_ ?_ (fun b hb => by rw [hn] at hb; cases hb) htab
  · intro j o' b hj hb hb'
    have := hoSat_lt (h.sat j o' hj) b (mine_on hb)
    have := hm b hb'
    omega
  · intro b hb
    rw [hm b hb]
    exact .inr h.size
theorem RelW.add {S : Nat → Prop} {w0 : World} {ν : Nat → Value} {st : St} {w : World} (h : RelW S w0 ν st w) (T : TypeId) (vs : List SV) (hv : belowL st.nx vs = true) :
    RelW S w0 (upd ν st.nx (.pointer (some ⟨w.heap.size, 0, none⟩))) (st.add (.cells T vs)) (w.alloc (.cells (denL ν vs).toArray T)) := by
  have hold : ∀ j, j < st.nx → ν j = upd ν st.nx (.pointer (some ⟨w.heap.size, 0, none⟩)) j := fun j hj => upd_old hj
  refine h.fresh _ _ _ (by simp only [hoLt]; exact belowL_mono (Nat.le_succ _) vs hv) ⟨w.heap.size, upd_new, ?_⟩ (fun b hb => by simpa [mineOf, blk] using hb.symm) rfl
  rw [← denL_congr hold vs hv]
  show (w.heap.push _)[_]? = _
  simp
theorem RelW.wash {S : Nat → Prop} {w0 : World} {ν : Nat → Value} {st : St} {w : World} (h : RelW S w0 ν st w) (d : Bool) : RelW S w0 ν (st.wash d) w :=
  ⟨h.sat, h.lt, h.inj, h.mine, h.seen, h.os, h.tape, h.output, h.size, h.frame, h.tab⟩
theorem Step.wash {ν ν' : Nat → Value} {st st' : St} {w w' : World} (h : Step ν st w ν' st' w') (d : Bool) : Step ν (st.wash (d || st.dirty)) w ν' (st'.wash (d || st'.dirty)) w' := by
  refine ⟨h.nx, h.agree, fun e => ?_, h.size, fun e => ?_⟩
  · simp only [St.wash, Bool.or_eq_true] at e ⊢
    exact e.imp id h.dirt
  · simp only [St.wash, Bool.or_eq_false_iff] at e
    exact h.same e.2
theorem Step.add (ν : Nat → Value) (st : St) (w : World) (v : Value) (o : HO) (b : Obj) : Step ν st w (upd ν st.nx v) (st.add o) (w.alloc b) :=
  ⟨Nat.le_succ _, fun j hj => upd_old hj, id, by simp, fun _ j hj => heap_alloc_lt w b j hj⟩
theorem Step.dirty {ν ν' : Nat → Value} {st st' : St} {w w' : World} (h1 : st.nx ≤ st'.nx) (h2 : ∀ j, j < st.nx → ν j = ν' j) (h3 : w.heap.size ≤ w'.heap.size) (h4 : st'.dirty = true) : Step ν st w ν' st' w' :=
  ⟨h1, h2, fun _ => h4, h3, fun h => by rw [h4] at h; cases h⟩
theorem Step.below (ν : Nat → Value) (st : St) {w w' : World} (hb : Below w.heap.size w w') : Step ν st w ν st w' :=
  ⟨Nat.le_refl _, fun _ _ => rfl, id, hb.size, fun _ b h => hb.block b h⟩

/-- A place that may be written holds something else. -/
theorem RelW.turn {S : Nat → Prop} {w0 : World} {ν : Nat → Value} {st : St} {w w' : World} (h : RelW S w0 ν st w) {j : Nat} {o o' : HO} (hj : lkp j st.H = some o) (he : Ext w w')
    (hm : mineOf (ν j) o' = mineOf (ν j) o) (hn : seenOf (ν j) o' = none) (hw : ∀ b, mineOf (ν j) o ≠ some b → w'.heap[b]? = w.heap[b]?) (ho : hoLt st.nx o' = true) (hs : hoSat ν w' j o') (htab : ∀ t f xs, o' = .tab t f xs → TabSat S w0 (ν j) f xs := by intro _ _ _ h; cases h) : RelW S w0 ν (st.put j o') w' := by
  have hlk : ∀ i q, lkp i (st.put j o').H = some q → (i = j ∧ q = o') ∨ (i ≠ j ∧ lkp i st.H = some q) := by
    intro i q hq
    simp only [St.put, lkp_cons] at hq
    split at hq
    · rename_i e; subst e; cases hq; exact .inl ⟨rfl, rfl⟩
    · rename_i e; exact .inr ⟨fun e' => e e'.symm, hq⟩
  refine ⟨?_, ?_, ?_, ?_, ?_, he.os.trans h.os, he.tape.trans h.tape, he.output.trans h.output, Nat.le_trans h.size he.size, ?_, ?_⟩
  · intro i q hq
    rcases hlk i q hq with ⟨rfl, rfl⟩ | ⟨hne, h'⟩
    · exact hs
    · have hl := h.lt i q h'
      refine hoSat_congr (fun _ _ => rfl) hl.1 (fun b hb => hw b fun hb' => ?_) hl.2 (h.sat i q h')
      rcases on_cases hb with h1 | h1
      · exact hne (h.inj i j q o b h' hj h1 hb')
      · have hs := h.seen i q b h' h1
        rcases h.mine j o b hj hb' with h2 | h2
        · exact hs.2 h2
        · have := hs.1; omega
  · intro i q hq
    rcases hlk i q hq with ⟨rfl, rfl⟩ | ⟨hne, h'⟩
    · exact ⟨(h.lt _ _ hj).1, ho⟩
    · exact h.lt i q h'
  · intro i k oi ok b hi hk hbi hbk
    rcases hlk i oi hi with ⟨rfl, rfl⟩ | ⟨hne, h'⟩ <;> rcases hlk k ok hk with ⟨rfl, rfl⟩ | ⟨hne', h''⟩
    · rfl
    · rw [hm] at hbi; exact h.inj i k o ok b hj h'' hbi hbk
    · rw [hm] at hbk; exact h.inj i k oi o b h' hj hbi hbk
    · exact h.inj i k oi ok b h' h'' hbi hbk
  · intro i q b hq hb
    rcases hlk i q hq with ⟨rfl, rfl⟩ | ⟨hne, h'⟩
    · rw [hm] at hb; exact h.mine i o b hj hb
    · exact h.mine i q b h' hb
  · intro i q b hq hb
    rcases hlk i q hq with ⟨rfl, rfl⟩ | ⟨hne, h'⟩
    · rw [hn] at hb; cases hb
    · exact h.seen i q b h' hb
  · intro b hb hS
    rw [hw b (fun e => ?_)]
    · exact h.frame b hb hS
    · rcases h.mine j o b hj e with hm | hm
      · exact hS hm
      · omega
  · intro i t f xs hi
    rcases hlk i _ hi with ⟨rfl, e⟩ | ⟨hne, h'⟩
    · exact htab t f xs e.symm
    · exact h.tab i t f xs h'
theorem RelW.put {S : Nat → Prop} {w0 : World} {ν : Nat → Value} {st : St} {w : World} (h : RelW S w0 ν st w) {j b : Nat} {T : TypeId} {vs vs' : List SV} (hj : lkp j st.H = some (.cells T vs))
    (hb : ν j = .pointer (some ⟨b, 0, none⟩)) (hv : belowL st.nx vs' = true) : RelW S w0 ν (st.put j (.cells T vs')) (w.setRow b (denL ν vs').toArray) := by
  obtain ⟨b', hb', hc⟩ := h.sat j _ hj
  obtain rfl : b = b' := by rw [hb] at hb'; injection hb' with e; injection e with e; injection e
  have hm : ∀ vs, mineOf (ν j) (.cells T vs) = some b := fun vs => by rw [hb]; rfl
  refine h.turn hj ⟨rfl, rfl, rfl, by simp⟩ (by rw [hm, hm]) rfl (fun c hc' => setRow_other w b c _ (fun e => hc' (by rw [hm, e]))) hv ⟨b, hb, setRow_heap w b _ _ T (0, 0) hc⟩
theorem denL_append (ν : Nat → Value) (a b : List SV) : denL ν (a ++ b) = denL ν a ++ denL ν b := by simp [denL_eq]
theorem belowL_append {n : Nat} {a b : List SV} (ha : belowL n a = true) (hb : belowL n b = true) : belowL n (a ++ b) = true := by
  rw [belowL_iff] at *
  intro v hv
  rcases List.mem_append.1 hv with hv | hv
  · exact ha v hv
  · exact hb v hv
theorem adds_nx (os : List HO) : ∀ st : St, (st.adds os).nx = st.nx + os.length := by
  induction os with
  | nil => intro st; rfl
  | cons o os ih => intro st; simp only [St.adds, ih]; simp [St.add]; omega
theorem adds_dirty (os : List HO) : ∀ st : St, (st.adds os).dirty = st.dirty := by
  induction os with
  | nil => intro st; rfl
  | cons o os ih => intro st; simp only [St.adds, ih]; rfl
theorem adds_append (a b : List HO) : ∀ st : St, st.adds (a ++ b) = (st.adds a).adds b := by
  induction a with
  | nil => intro st; rfl
  | cons o os ih => intro st; simp only [List.cons_append, St.adds, ih]
theorem RowSat.seenC {w w' : World} {v : Value} {t : TypeId} {ls : List Lf} {xs : List (LT ls)} (h : RowSat w v false t ls xs) (hw : ∀ b, seenOf v (.row false t ls xs) = some b → w'.heap[b]? = w.heap[b]?) : RowSat w' v false t ls xs :=
  h.congr fun b hb => hw b (by cases xs <;> first | exact hb | (simp [onOf] at hb))
mutual
theorem rdS_mono {w w' : World} {Av Av' : Nat → Prop} (hw : ∀ b, Av b → w'.heap[b]? = w.heap[b]?) (hA : ∀ b, Av b → Av' b) : ∀ (s : Sh) (x : s.T) (vs : List Value), rdS w Av s x vs → rdS w' Av' s x vs
  | .leaf _, _, _, h => h
  | .row _ _ _, _, _, h => by
    obtain ⟨h0, v, h1, h2, h3, h4⟩ := h
    exact ⟨h0, v, h1, h2, h3.seenC fun b hb => hw b (h4 b hb), fun b hb => hA b (h4 b hb)⟩
  | .map _ _ _ _ _, _, _, h => h.elim
  | .tab _ _, _, _, h => h.elim
  | .agg f, x, vs, h => rdF_mono hw hA f x vs h
theorem rdF_mono {w w' : World} {Av Av' : Nat → Prop} (hw : ∀ b, Av b → w'.heap[b]? = w.heap[b]?) (hA : ∀ b, Av b → Av' b) : ∀ (f : Shs) (x : f.T) (vs : List Value), rdF w Av f x vs → rdF w' Av' f x vs
  | .one s _, x, vs, h => ⟨h.1, rdS_mono hw hA s x vs h.2⟩
  | .cons s r, x, vs, h => by
    obtain ⟨v1, v2, h1, h2, h3⟩ := h
    exact ⟨v1, v2, h1, rdS_mono hw hA s x.1 v1 h2, rdF_mono hw hA r x.2 v2 h3⟩
  | .pin _ _, _, _, h => h.elim
  | .pins _, _, _, h => h.elim
end
theorem TabIs.mono {w w' : World} {Av Av' : Nat → Prop} {v : Value} {f : Shs} {xs : List f.T} (hw : ∀ b, Av b → w'.heap[b]? = w.heap[b]?) (hA : ∀ b, Av b → Av' b) (h : TabIs w Av v f xs) : TabIs w' Av' v f xs := by
  rcases h with h | ⟨a, cap, h1, h2, h3⟩
  · exact .inl h
  · refine .inr ⟨a, cap, h1, fun hx => ⟨(h2 hx).1, hA _ (h2 hx).2⟩, fun i x hx => ?_⟩
    obtain ⟨vs, k1, k2, k3⟩ := h3 i x hx
    refine ⟨vs, k1, fun k u hu => ?_, rdF_mono hw hA f x vs k3⟩
    have hne : xs ≠ [] := fun e => by rw [e] at hx; simp at hx
    rw [← k2 k u hu]
    exact cell_of_heap (by rw [add_block]; exact hw _ (h2 hne).2)
theorem TabIs.hdr {w : World} {Av : Nat → Prop} {v : Value} {f : Shs} {xs : List f.T} (h : TabIs w Av v f xs) : hdr v = v := by
  rcases h with ⟨rfl, _⟩ | ⟨a, cap, rfl, _⟩ <;> rfl
end Go.Aq
