/- fdb.Tick, walked: what becomes of a map in which each entry is turned or deleted on the way. -/
import Derived.StillTailTactics
import Derived.BigQuiet
import Derived.Deep.QuietTactic
import Derived.WalkKit
import Derived.OwnWalk
import Derived.Maps.Range
import Derived.Lib.Hide
import Derived.Test.YthdmjbndfnolmaaDTab
namespace Go.Proofs.Ythdmjbndfnolmaa
open Go.RowKit Go.ChangeMaps
open Go.Aq (KeyOk keyOk mfind modify_mid erase_mid)
set_option linter.unusedVariables false
abbrev KT := Int × ByteArray
abbrev VT := Int × ByteArray × Int × Int
def kv (k : KT) : Value := .agg #[.int .i64 k.1, .string k.2]
def vv (v : VT) : Value := .agg #[.int .i64 v.1, .string v.2.1, .int .i64 v.2.2.1, .int .i64 v.2.2.2]
def upV (v : VT) : VT := (v.1, v.2.1, v.2.2.1, IntKind.i64.wrap (v.2.2.2 + 1))
abbrev ZT := Nat × KT × VT
def encE (z : ZT) : MapEntry := ⟨kv z.2.1, vv z.2.2, z.1⟩
def bump (ticks : Int) (z : ZT) : Option ZT := if ticks ≤ (upV z.2.2).2.2.2 then none else some (z.1, z.2.1, upV z.2.2)
def proc (ticks : Int) (seen : Array Nat) (z : ZT) : Option ZT := if seen.contains z.1 then bump ticks z else some z
def arr (l : List ZT) : Array MapEntry := (l.map encE).toArray
def curL (ticks : Int) (zs : List ZT) (seen : Array Nat) : List ZT := zs.filterMap (proc ticks seen)

/-- Of old memory nothing but one block has turned. -/
structure KeptB (bm : Nat) (w w' : World) : Prop where
  os : w'.os = w.os
  tape : w'.tape = w.tape
  output : w'.output = w.output
  size : w.heap.size ≤ w'.heap.size
  heap : ∀ b, b < w.heap.size → b ≠ bm → w'.heap[b]? = w.heap[b]?
theorem KeptB.refl (bm : Nat) (w : World) : KeptB bm w w := ⟨rfl, rfl, rfl, Nat.le_refl _, fun _ _ _ => rfl⟩
theorem KeptB.trans {bm : Nat} {a b c : World} (h : KeptB bm a b) (k : KeptB bm b c) : KeptB bm a c :=
  ⟨k.os.trans h.os, k.tape.trans h.tape, k.output.trans h.output, Nat.le_trans h.size k.size, fun i hi hne => (k.heap i (Nat.lt_of_lt_of_le hi h.size) hne).trans (h.heap i hi hne)⟩
theorem KeptB.alloc (bm : Nat) (w : World) (o : Obj) : KeptB bm w (w.alloc o) := ⟨rfl, rfl, rfl, by simp, fun b hb _ => Below.heap_alloc w o b hb⟩
theorem KeptB.set (bm : Nat) (w : World) (o : Obj) : KeptB bm w (setBlock w bm o) := ⟨rfl, rfl, rfl, by simp [setBlock], fun b hb hne => by simp only [setBlock, Array.getElem?_setIfInBounds_ne (Ne.symm hne)]⟩
theorem KeptB.setNew {bm r : Nat} {w wr : World} (h : KeptB bm w wr) (o : Obj) (hr : w.heap.size ≤ r) : KeptB bm w (setBlock wr r o) :=
  ⟨h.os, h.tape, h.output, by simp [setBlock]; exact h.size, fun b hb hne => by
    have : r ≠ b := by omega
    simp only [setBlock, Array.getElem?_setIfInBounds_ne this]; exact h.heap b hb hne⟩
theorem set_at {w : World} {b : Nat} {o : Obj} (h : b < w.heap.size) : (setBlock w b o).heap[b]? = some o := by simp [setBlock, h]
theorem set_ne {w : World} {b c : Nat} {o : Obj} (h : b ≠ c) : (setBlock w b o).heap[c]? = w.heap[c]? := by simp [setBlock, h]

theorem wrap_i64 (n : Int) : IntKind.i64.wrap n = wrap64 n := by
  unfold IntKind.wrap wrap64
  simp [IntKind.bits, IntKind.signed]
  split <;> omega
theorem mfind_mid {K V : Type} [DecidableEq K] (k : K) (v : V) (r : List (K × V)) : ∀ (a : List (K × V)) (i : Nat), (∀ y ∈ a, y.1 ≠ k) → mfind k (a ++ (k, v) :: r) i = some (i + a.length, v)
  | [], i, _ => by simp [mfind]
  | y :: a, i, h => by
    have h1 : ¬ k = y.1 := fun e => h y (by simp) e.symm
    simp only [List.cons_append, mfind, if_neg h1]
    rw [mfind_mid k v r a (i + 1) (fun y hy => h y (by simp [hy]))]
    simp; omega
def kl : List Go.Aq.Lf := [.int .i64, .str]
theorem u54 : Try.prog.underlying 54 = some (.map 62 44) := by kernel_rfl
theorem key62 : KeyOk Try.prog 62 true kl := by
  have h := keyOk (P := Try.prog) (t := 62) (kk := .struct [(0, 1, false), (1, 1, false)] 2 [.int .i64 (0 : Int), .str ByteArray.empty] true) (Go.Aq.tyOk tab_ok rfl) rfl (kl := kl) rfl
  exact h
theorem find62 (x : KT) (es : List (KT × VT)) (ms : List MapEntry) (w : World) (h : ms.map (fun e => (e.key, e.val)) = es.map (fun e => (kv e.1, vv e.2))) :
    (Instr.findKey 62 (kv x) ms).run Try.prog w = .ok ((mfind x es 0).map fun p => (p.1, vv p.2)) w := key62.find x vv es ms w h
theorem find_at (A B : List ZT) (z : ZT) (W : World) (hA : ∀ y ∈ A, y.2.1 ≠ z.2.1) : (Instr.findKey 62 (kv z.2.1) (arr (A ++ z :: B)).toList).run Try.prog W = .ok (some (A.length, vv z.2.2)) W := by
  have hf := find62 z.2.1 ((A ++ z :: B).map (·.2)) ((A ++ z :: B).map encE) W (by rw [List.map_map, List.map_map]; rfl)
  have hm := mfind_mid z.2.1 z.2.2 (B.map (·.2)) (A.map (·.2)) 0 (by intro y hy; obtain ⟨x, hx, rfl⟩ := List.mem_map.1 hy; exact hA x hx)
  rw [show (A ++ z :: B).map (·.2) = A.map (·.2) ++ (z.2.1, z.2.2) :: B.map (·.2) by simp, hm] at hf
  simpa [arr] using hf
theorem upd_at {W : World} {bm clock : Nat} {A B : List ZT} {z : ZT} (v' : VT) (hb : W.heap[bm]? = some (.map (arr (A ++ z :: B)) clock)) (hA : ∀ y ∈ A, y.2.1 ≠ z.2.1) :
    (Instr.mapUpdate 54 (.map (some bm)) (kv z.2.1) (vv v')).run Try.prog W = .ok () (setBlock W bm (.map (arr (A ++ (z.1, z.2.1, v') :: B)) clock)) := by
  have hget : (arr (A ++ z :: B))[A.length]? = some (encE z) := by simp [arr]
  have hmod : (arr (A ++ z :: B)).modify A.length (fun e => { e with key := kv z.2.1, val := vv v' }) = arr (A ++ (z.1, z.2.1, v') :: B) := by
    apply Array.ext'
    have h1 : A.length = (A.map encE).length := by simp
    rw [Array.toList_modify]
    simp only [arr, List.map_append, List.map_cons]
    rw [h1, modify_mid]
    rfl
  have hks : (Instr.keyThatStays (kv z.2.1) (kv z.2.1)).run Try.prog W = .ok (kv z.2.1) W := key62.stays z.2.1 W
  have hck : (Instr.checkKey false 10000 62 (kv z.2.1)).run Try.prog W = .ok () W := key62.chk z.2.1 false W
  have hf' := find_at A B z W hA
  unfold Instr.mapUpdate
  simp only [Sem.run_bind, run_underlying u54, Result.andThen_ok, MapKept.run_getObj_map hb, hck, hf', hget, Option.map_some, Option.getD_some, show (encE z).key = kv z.2.1 from rfl, hks, MapKept.run_setObj_map _ hb, hmod]
  rfl
theorem del_at {W : World} {bm clock : Nat} {A B : List ZT} {z : ZT} (ty : TypeId) (hb : W.heap[bm]? = some (.map (arr (A ++ z :: B)) clock)) (hA : ∀ y ∈ A, y.2.1 ≠ z.2.1) :
    (Builtin.delete_ #[54, 62] ty #[.map (some bm), kv z.2.1]).run Try.prog W = .ok (.tuple #[]) (setBlock W bm (.map (arr (A ++ B)) clock)) := by
  have her : (arr (A ++ z :: B)).eraseIdxIfInBounds A.length = arr (A ++ B) := by
    apply Array.ext'
    have h1 : A.length = (A.map encE).length := by simp
    rw [Array.toList_eraseIdxIfInBounds]
    simp only [arr, List.map_append, List.map_cons]
    rw [h1, erase_mid]
  have hck : ∀ e, (Instr.checkKey e 10000 62 (kv z.2.1)).run Try.prog W = .ok () W := fun e => key62.chk z.2.1 e W
  have hf' := find_at A B z W hA
  unfold Builtin.delete_
  simp [run_underlying u54, MapKept.run_getObj_map hb, hck, hf', MapKept.run_setObj_map _ hb, her]
  rfl

/-! ### What has become of the entries when some have been seen -/
theorem proc_some {ticks : Int} {seen : Array Nat} {z y : ZT} (h : proc ticks seen z = some y) : y.1 = z.1 ∧ y.2.1 = z.2.1 ∧ (seen.contains z.1 = false → y = z) := by
  unfold proc at h
  split at h
  · rename_i hs
    unfold bump at h
    split at h
    · cases h
    · cases h; exact ⟨rfl, rfl, fun h => by rw [hs] at h; cases h⟩
  · cases h; exact ⟨rfl, rfl, fun _ => rfl⟩
theorem cur_mem {ticks : Int} {zs : List ZT} {seen : Array Nat} {y : ZT} (h : y ∈ curL ticks zs seen) : ∃ z ∈ zs, y.1 = z.1 ∧ y.2.1 = z.2.1 ∧ (seen.contains z.1 = false → y = z) := by
  obtain ⟨z, hz, hp⟩ := List.mem_filterMap.1 h
  exact ⟨z, hz, proc_some hp⟩
theorem cur_sub (ticks : Int) (seen : Array Nat) : ∀ zs : List ZT, ((curL ticks zs seen).map (·.1)).Sublist (zs.map (·.1))
  | [] => List.Sublist.refl _
  | z :: zs => by
    have ih := cur_sub ticks seen zs
    unfold curL at ih ⊢
    rw [List.filterMap_cons]
    split
    · exact ih.trans (List.sublist_cons_self _ _)
    · rename_i y hy
      rw [List.map_cons, List.map_cons, (proc_some hy).1]
      exact ih.cons_cons _
theorem cur_start (ticks : Int) : ∀ zs : List ZT, curL ticks zs #[] = zs
  | [] => rfl
  | z :: zs => by
    have ih := cur_start ticks zs
    unfold curL at ih ⊢
    rw [List.filterMap_cons, ih]
    simp [proc]
theorem filterMap_same {α β : Type} {f g : α → Option β} : ∀ {l : List α}, (∀ x ∈ l, f x = g x) → l.filterMap f = l.filterMap g
  | [], _ => rfl
  | x :: l, h => by
    rw [List.filterMap_cons, List.filterMap_cons, h x (by simp), filterMap_same (l := l) (fun y hy => h y (by simp [hy]))]
theorem cur_end {ticks : Int} {zs : List ZT} {seen : Array Nat} (h : ∀ z ∈ zs, seen.contains z.1 = true) : curL ticks zs seen = zs.filterMap (bump ticks) := by
  unfold curL
  refine filterMap_same fun z hz => ?_
  unfold proc
  rw [if_pos (h z hz)]
theorem cur_other {ticks : Int} {seen : Array Nat} {b : Nat} : ∀ {zs : List ZT}, (∀ z ∈ zs, z.1 ≠ b) → curL ticks zs (seen.push b) = curL ticks zs seen := by
  intro zs h
  unfold curL
  refine filterMap_same fun z hz => ?_
  unfold proc
  have : (seen.push b).contains z.1 = seen.contains z.1 := by
    rw [contains_push]
    have := h z hz
    simp [this]
  rw [this]
theorem cur_split {ticks : Int} {pre post : List ZT} {z : ZT} {seen : Array Nat} (h : seen.contains z.1 = false) : curL ticks (pre ++ z :: post) seen = curL ticks pre seen ++ z :: curL ticks post seen := by
  unfold curL
  rw [List.filterMap_append, List.filterMap_cons]
  simp only [proc, h]
  rfl
theorem cur_next {ticks : Int} {pre post : List ZT} {z : ZT} {seen : Array Nat} (hn : ((pre ++ z :: post).map (·.1)).Nodup) : curL ticks (pre ++ z :: post) (seen.push z.1) = curL ticks pre seen ++ ((bump ticks z).toList ++ curL ticks post seen) := by
  rw [List.map_append, List.map_cons] at hn
  have hn := List.nodup_append.1 hn
  have h1 : ∀ y ∈ pre, y.1 ≠ z.1 := fun y hy => hn.2.2 y.1 (List.mem_map.2 ⟨y, hy, rfl⟩) z.1 (by simp)
  have h2 : ∀ y ∈ post, y.1 ≠ z.1 := fun y hy e => (List.nodup_cons.1 hn.2.1).1 (e ▸ List.mem_map.2 ⟨y, hy, rfl⟩)
  have e1 := cur_other (ticks := ticks) (seen := seen) h1
  have e2 := cur_other (ticks := ticks) (seen := seen) h2
  unfold curL at e1 e2 ⊢
  rw [List.filterMap_append, List.filterMap_cons, e1, e2]
  have hs : (seen.push z.1).contains z.1 = true := by rw [contains_push]; simp
  simp only [proc, hs, if_true]
  cases bump ticks z <;> rfl
theorem left_nil {ticks : Int} {zs : List ZT} {seen : Array Nat} (h : (leftOf (arr (curL ticks zs seen)) seen).size = 0) : ∀ z ∈ zs, seen.contains z.1 = true := by
  intro z hz
  cases hs : seen.contains z.1 with
  | true => rfl
  | false =>
    have hmem : z ∈ curL ticks zs seen := List.mem_filterMap.2 ⟨z, hz, by unfold proc; rw [hs]; rfl⟩
    have := all_seen _ seen h (encE z) (by simp only [arr]; exact List.mem_map.2 ⟨z, hmem, rfl⟩)
    rw [show (encE z).born = z.1 from rfl, hs] at this
    cases this
theorem left_mem {ticks : Int} {zs : List ZT} {seen : Array Nat} {e : MapEntry} (h : e ∈ (leftOf (arr (curL ticks zs seen)) seen).toList) : ∃ z ∈ zs, seen.contains z.1 = false ∧ e = encE z ∧ e ∈ (arr (curL ticks zs seen)).toList := by
  obtain ⟨h1, h2⟩ := mem_left h
  have h1' := h1
  simp only [arr] at h1
  obtain ⟨y, hy, rfl⟩ := List.mem_map.1 h1
  obtain ⟨z, hz, e1, e2, e3⟩ := cur_mem hy
  have hs : seen.contains z.1 = false := by rw [← e1]; exact h2
  obtain rfl := e3 hs
  exact ⟨y, hz, hs, rfl, h1'⟩

theorem bump_none {ticks : Int} {z : ZT} (h : ticks ≤ wrap64 (z.2.2.2.2.2 + 1)) : bump ticks z = none := if_pos (by show ticks ≤ IntKind.i64.wrap (z.2.2.2.2.2 + 1); rw [wrap_i64]; exact h)
theorem bump_some {ticks : Int} {z : ZT} (h : wrap64 (z.2.2.2.2.2 + 1) < ticks) : bump ticks z = some (z.1, z.2.1, z.2.2.1, z.2.2.2.1, z.2.2.2.2.1, wrap64 (z.2.2.2.2.2 + 1)) := by
  unfold bump
  rw [if_neg (by show ¬ ticks ≤ IntKind.i64.wrap (z.2.2.2.2.2 + 1); rw [wrap_i64]; omega)]
  unfold upV
  rw [wrap_i64]
theorem left_count (ticks : Int) (seen : Array Nat) : ∀ zs : List ZT, (leftOf (arr (curL ticks zs seen)) seen).size = (zs.filter fun z => !seen.contains z.1).length := by
  intro zs
  have h1 : ∀ l : List ZT, (leftOf (arr l) seen).size = (l.filter fun y => !seen.contains y.1).length := by
    intro l
    unfold leftOf arr
    rw [← Array.length_toList, Array.toList_filter]
    simp only
    rw [List.filter_map, List.length_map]
    rfl
  rw [h1]
  unfold curL
  induction zs with
  | nil => rfl
  | cons z zs ih =>
    cases hs : seen.contains z.1 with
    | false =>
      have : proc ticks seen z = some z := by unfold proc; rw [hs]; rfl
      rw [List.filterMap_cons, this]
      simp only
      rw [List.filter_cons_of_pos (by rw [hs]; rfl), List.filter_cons_of_pos (by rw [hs]; rfl), List.length_cons, List.length_cons, ih]
    | true =>
      rw [List.filter_cons_of_neg (by rw [hs]; simp), List.filterMap_cons]
      split
      · exact ih
      · rename_i y hy
        rw [List.filter_cons_of_neg (by rw [(proc_some hy).1, hs]; simp)]
        exact ih
theorem left_less {ticks : Int} {pre post : List ZT} {z : ZT} {seen : Array Nat} (h : seen.contains z.1 = false) :
    (leftOf (arr (curL ticks (pre ++ z :: post) (seen.push z.1))) (seen.push z.1)).size < (leftOf (arr (curL ticks (pre ++ z :: post) seen)) seen).size := by
  rw [left_count, left_count, List.filter_append, List.filter_append, List.length_append, List.length_append]
  have hs : (seen.push z.1).contains z.1 = true := by rw [contains_push]; simp
  rw [List.filter_cons_of_neg (by rw [hs]; simp), List.filter_cons_of_pos (by rw [h]; rfl), List.length_cons]
  have mono : ∀ l : List ZT, (l.filter fun y => !(seen.push z.1).contains y.1).length ≤ (l.filter fun y => !seen.contains y.1).length := by
    intro l
    induction l with
    | nil => simp
    | cons y l ih =>
      cases e1 : (seen.push z.1).contains y.1 with
      | true =>
        rw [List.filter_cons_of_neg (by rw [e1]; simp)]
        cases e2 : seen.contains y.1 with
        | true => rw [List.filter_cons_of_neg (by rw [e2]; simp)]; exact ih
        | false => rw [List.filter_cons_of_pos (by rw [e2]; rfl), List.length_cons]; omega
      | false =>
        have e2 : seen.contains y.1 = false := by
          rw [contains_push, Bool.or_eq_false_iff] at e1; exact e1.1
        rw [List.filter_cons_of_pos (by rw [e1]; rfl), List.filter_cons_of_pos (by rw [e2]; rfl), List.length_cons, List.length_cons]; omega
  have := mono pre
  have := mono post
  omega
def TickRel (bm clock : Nat) (ticks : Int) (zs : List ZT) (w wr : World) : Prop :=
  ∃ seen c0, wr.heap[bm]? = some (.map (arr (curL ticks zs seen)) clock) ∧ wr.heap[w.heap.size]? = some (.mapIter (some bm) clock seen c0) ∧ clock ≤ c0 ∧ KeptB bm w wr
def TickPost (bm clock : Nat) (ticks : Int) (zs : List ZT) (w : World) (e : Ending) (w' : World) : Prop :=
  e = .returned (.int .i64 (wrap64 ((zs.length : Int) - ((zs.filterMap (bump ticks)).length : Int)))) ∧ KeptB bm w w' ∧ w'.heap[bm]? = some (.map (arr (zs.filterMap (bump ticks))) clock)
theorem cells_at {W : World} {b : Nat} {cs : Array Value} {t : TypeId} (h : W.heap[b]? = some (.cells cs t (0, 0))) (i : Nat) : W.cell? ⟨b, i, none⟩ = cs[i]? := by simp [World.cell?, h]
theorem map_len {W : World} {bm clock : Nat} {es : Array MapEntry} (h : W.heap[bm]? = some (.map es clock)) (n : Nat) (hn : es.size = n) : (Builtin.len_ #[54] 3 #[.map (some bm)]).run Try.prog W = .ok (.int .i64 (n : Int)) W := by
  simp [Builtin.len_, run_underlying u54, MapKept.run_getObj_map h, goInt, hn]
set_option maxRecDepth 100000 in
set_option maxHeartbeats 4000000 in
theorem tick_raw (b0 bm clock : Nat) (room ticks : Int) (zs : List ZT) (w : World) (hne : b0 ≠ bm)
    (h0 : w.heap[b0]? = some (.cells #[.int .i64 room, .int .i64 ticks, .map (some bm)] 56 (0, 0)))
    (hm : w.heap[bm]? = some (.map (arr zs) clock)) (hn : (zs.map (·.1)).Nodup) (hk : (zs.map (·.2.1)).Nodup) (hc : ∀ z ∈ zs, z.1 < clock) :
    Calls Try.prog 15 #[.pointer (some ⟨b0, 0, none⟩)] w (TickPost bm clock ticks zs w) := by
  have c2 : w.cell? ⟨b0, 2, none⟩ = some (.map (some bm)) := cells_at h0 2
  obtain ⟨L, hL⟩ : ∃ L : Int, (zs.length : Int) = L := ⟨_, rfl⟩
  have hlen := map_len hm zs.length (by simp [arr])
  rw [hL] at hlen
  have HL := Lib.hid hL
  clear hL
  have hrg : (Instr.range 54 (.map (some bm))).run Try.prog w = .ok (.pointer (some ⟨w.heap.size, 0, none⟩)) (w.alloc (.mapIter (some bm) clock #[] clock)) :=
    run_range_map w 54 62 44 bm _ clock u54 hm
  have b0lt : b0 < w.heap.size := (Array.getElem?_eq_some_iff.1 h0).1
  have bmlt : bm < w.heap.size := (Array.getElem?_eq_some_iff.1 hm).1
  have hRel0 : TickRel bm clock ticks zs w (w.alloc (.mapIter (some bm) clock #[] clock)) :=
    ⟨#[], clock, by rw [cur_start, Below.heap_alloc w _ bm bmlt]; exact hm, (MapKept.heap_alloc w _).1, Nat.le_refl _, KeptB.alloc bm w _⟩
  have cellsK : ∀ W, KeptB bm w W → W.cell? ⟨b0, 2, none⟩ = some (.map (some bm)) ∧ W.cell? ⟨b0, 1, none⟩ = some (.int .i64 ticks) := fun W hK => by
    have := (hK.heap b0 b0lt hne).trans h0
    exact ⟨cells_at this 2, cells_at this 1⟩
  have CK := Lib.hid cellsK
  clear cellsK
  go_enter Try.func15, Try.ntmps15
  go_wp2
  clear hrg
  go_loopw [4, 5] (fun _ _ wr => TickRel bm clock ticks zs w wr) (fun _ _ wr => wr.rangeLeft bm w.heap.size)
  case atStart => exact hRel0
  case round =>
    obtain ⟨seen, c0, g1, g2, g3, g4⟩ := hrel
    have hmeas : wr.rangeLeft bm w.heap.size = (leftOf (arr (curL ticks zs seen)) seen).size := by simp only [World.rangeLeft, g1, g2]
    have HM := Lib.hid hmeas
    clear hmeas
    rcases run_next_at (P := Try.prog) wr 0 w.heap.size bm clock c0 seen (arr (curL ticks zs seen)) clock g2 g1 (fun x hx => by
      simp only [arr] at hx
      obtain ⟨y, hy, rfl⟩ := List.mem_map.1 hx
      obtain ⟨z, hz, e1, _⟩ := cur_mem hy
      show y.1 < clock
      rw [e1]; exact hc z hz) g3 with ⟨hz, hrun⟩ | ⟨e, he, w1, hal, hrun⟩
    · have hall := left_nil hz
      have hend := cur_end (ticks := ticks) hall
      rw [hend] at g1
      have c2' := (CK.out wr g4).1
      have hlen' := map_len g1 (zs.filterMap (bump ticks)).length (by simp [arr])
      have hP : TickPost bm clock ticks zs w (.returned (.int .i64 (wrap64 (L - ((zs.filterMap (bump ticks)).length : Int))))) wr := ⟨by rw [HL.out], g4, g1⟩
      clear hend hz hall
      have HP := Lib.hid hP
      clear hP g1 g2
      go_wp2
      refine bodyPost_ret (results_tmp rfl _ _ _) rfl ?_
      exact HP.out
    · obtain ⟨z, hz1, hz2, rfl, hz3⟩ := left_mem he
      have hlt := left_shrinks _ seen _ he
      obtain ⟨pre, post, rfl⟩ := List.append_of_mem hz1
      obtain ⟨W1, hW1⟩ : ∃ W, setBlock w1 w.heap.size (Obj.mapIter (some bm) clock (seen.push (encE z).born) clock) = W := ⟨_, rfl⟩
      rw [hW1] at hrun
      have hw1 : w1.heap = wr.heap ∧ KeptB bm w w1 := by rcases hal with rfl | rfl; exact ⟨rfl, g4⟩; exact ⟨rfl, ⟨g4.os, g4.tape, g4.output, g4.size, g4.heap⟩⟩
      have rlt : w.heap.size < wr.heap.size := (Array.getElem?_eq_some_iff.1 g2).1
      have q1 : W1.heap[bm]? = some (.map (arr (curL ticks (pre ++ z :: post) seen)) clock) := by rw [← hW1, set_ne (by omega), hw1.1]; exact g1
      have q2 : W1.heap[w.heap.size]? = some (.mapIter (some bm) clock (seen.push z.1) clock) := by rw [← hW1]; exact set_at (by rw [hw1.1]; exact rlt)
      have qK : KeptB bm w W1 := by rw [← hW1]; exact hw1.2.setNew _ (Nat.le_refl _)
      have rlt1 : w.heap.size < W1.heap.size := (Array.getElem?_eq_some_iff.1 q2).1
      have hent := run_entry_at (P := Try.prog) W1 w.heap.size bm clock seen _ clock (encE z) q2 q1 hz3 (by
        simp only [arr, List.map_map]
        exact (cur_sub ticks seen _).nodup hn)
      obtain ⟨c3, c4⟩ := CK.out W1 qK
      rw [cur_split hz2] at q1
      have hpre : ∀ y ∈ curL ticks pre seen, y.2.1 ≠ z.2.1 := fun y hy e => by
        obtain ⟨x, hx, _, e2, _⟩ := cur_mem hy
        rw [List.map_append, List.map_cons] at hk
        exact (List.nodup_append.1 hk).2.2 x.2.1 (List.mem_map.2 ⟨x, hx, rfl⟩) z.2.1 (by simp) (e2 ▸ e)
      have hnext := cur_next (ticks := ticks) (seen := seen) hn
      have HN := Lib.hid hnext
      have HW := Lib.hid hw1
      clear hW1 g1 g2 c2 hlen hal hnext hw1 he hz1 hz3
      obtain ⟨zb, ⟨k1, k2⟩, v1, v2, v3, v4⟩ := z
      simp only [encE, kv, vv] at hrun hent q2 hlt
      go_wp2
      have f1 : ((W1.alloc (.cells #[.int .i64 k1, .string k2] 62)).alloc (.cells #[.int .i64 v1, .string v2, .int .i64 v3, .int .i64 (wrap64 (v4 + 1))] 44)).heap[W1.heap.size]? = some (.cells #[.int .i64 k1, .string k2] 62 (0, 0)) :=
        (Below.heap_alloc _ _ _ (by simp)).trans (MapKept.heap_alloc W1 _).1
      have f2 : ((W1.alloc (.cells #[.int .i64 k1, .string k2] 62)).alloc (.cells #[.int .i64 v1, .string v2, .int .i64 v3, .int .i64 (wrap64 (v4 + 1))] 44)).heap[W1.heap.size + 1]? = some (.cells #[.int .i64 v1, .string v2, .int .i64 v3, .int .i64 (wrap64 (v4 + 1))] 44 (0, 0)) := by
        have := (MapKept.heap_alloc (W1.alloc (.cells #[.int .i64 k1, .string k2] 62)) (.cells #[.int .i64 v1, .string v2, .int .i64 v3, .int .i64 (wrap64 (v4 + 1))] 44)).1
        rwa [World.size_alloc] at this
      have f3 : ∀ b, b < W1.heap.size → ((W1.alloc (.cells #[.int .i64 k1, .string k2] 62)).alloc (.cells #[.int .i64 v1, .string v2, .int .i64 v3, .int .i64 (wrap64 (v4 + 1))] 44)).heap[b]? = W1.heap[b]? := fun b hb =>
        (Below.heap_alloc _ _ _ (by simp; omega)).trans (Below.heap_alloc _ _ _ hb)
      have f4 : KeptB bm w ((W1.alloc (.cells #[.int .i64 k1, .string k2] 62)).alloc (.cells #[.int .i64 v1, .string v2, .int .i64 v3, .int .i64 (wrap64 (v4 + 1))] 44)) := (qK.trans (KeptB.alloc bm W1 _)).trans (KeptB.alloc bm _ _)
      generalize ((W1.alloc (.cells #[.int .i64 k1, .string k2] 62)).alloc (.cells #[.int .i64 v1, .string v2, .int .i64 v3, .int .i64 (wrap64 (v4 + 1))] 44)) = W2 at f1 f2 f3 f4 ⊢
      have d1 : W2.drew.cell? ⟨W1.heap.size, 0, none⟩ = some (.int .i64 k1) := cells_at f1 0
      have d2 : W2.drew.cell? ⟨W1.heap.size, 1, none⟩ = some (.string k2) := cells_at f1 1
      have e1 : W2.drew.cell? ⟨W1.heap.size + 1, 0, none⟩ = some (.int .i64 v1) := cells_at f2 0
      have e2 : W2.drew.cell? ⟨W1.heap.size + 1, 1, none⟩ = some (.string v2) := cells_at f2 1
      have e3 : W2.drew.cell? ⟨W1.heap.size + 1, 2, none⟩ = some (.int .i64 v3) := cells_at f2 2
      have e4 : W2.drew.cell? ⟨W1.heap.size + 1, 3, none⟩ = some (.int .i64 (wrap64 (v4 + 1))) := cells_at f2 3
      have d1' : W2.cell? ⟨W1.heap.size, 0, none⟩ = some (.int .i64 k1) := cells_at f1 0
      have d2' : W2.cell? ⟨W1.heap.size, 1, none⟩ = some (.string k2) := cells_at f1 1
      have e1' : W2.cell? ⟨W1.heap.size + 1, 0, none⟩ = some (.int .i64 v1) := cells_at f2 0
      have e2' : W2.cell? ⟨W1.heap.size + 1, 1, none⟩ = some (.string v2) := cells_at f2 1
      have e3' : W2.cell? ⟨W1.heap.size + 1, 2, none⟩ = some (.int .i64 v3) := cells_at f2 2
      have e4' : W2.cell? ⟨W1.heap.size + 1, 3, none⟩ = some (.int .i64 (wrap64 (v4 + 1))) := cells_at f2 3
      obtain ⟨c3', c4'⟩ := CK.out W2 f4
      have bml1 : bm < W1.heap.size := by have := qK.size; omega
      have p1 : W2.drew.heap[bm]? = some (.map (arr (curL ticks pre seen ++ (zb, (k1, k2), v1, v2, v3, v4) :: curL ticks post seen)) clock) := (f3 bm bml1).trans q1
      have p2 : W2.drew.heap[w.heap.size]? = some (.mapIter (some bm) clock (seen.push zb) clock) := (f3 _ rlt1).trans q2
      have p4 : KeptB bm w W2.drew := ⟨f4.os, f4.tape, f4.output, f4.size, f4.heap⟩
      have p5 : W1.heap.size + 1 < W2.drew.heap.size := (Array.getElem?_eq_some_iff.1 f2).1
      clear c3 c4 f3 hent hrun q1 q2
      go_still_tail 6, (by kernel_rfl)
      change wpList _ _ _ _ _ W2.drew
      clear d1' d2' e1' e2' e3' e4' c3' c4' f4 f1 f2
      obtain ⟨c3', c4'⟩ := CK.out W2.drew p4
      generalize W2.drew = W3 at *
      have hup : (Instr.mapUpdate 54 (.map (some bm)) (.agg #[.int .i64 k1, .string k2]) (.agg #[.int .i64 v1, .string v2, .int .i64 v3, .int .i64 (wrap64 (v4 + 1))])).run Try.prog W3 = .ok () _ := upd_at (z := (zb, (k1, k2), v1, v2, v3, v4)) (v1, v2, v3, wrap64 (v4 + 1)) p1 hpre
      have r1 : (setBlock W3 bm (.map (arr (curL ticks pre seen ++ (zb, (k1, k2), v1, v2, v3, wrap64 (v4 + 1)) :: curL ticks post seen)) clock)).heap[bm]? = some (.map (arr (curL ticks pre seen ++ (zb, (k1, k2), v1, v2, v3, wrap64 (v4 + 1)) :: curL ticks post seen)) clock) := set_at (by have := (Array.getElem?_eq_some_iff.1 p1).1; exact this)
      have r2 : (setBlock W3 bm (.map (arr (curL ticks pre seen ++ (zb, (k1, k2), v1, v2, v3, wrap64 (v4 + 1)) :: curL ticks post seen)) clock)).heap[w.heap.size]? = some (.mapIter (some bm) clock (seen.push zb) clock) := (set_ne (by omega)).trans p2
      have r3 : ∀ b, b ≠ bm → (setBlock W3 bm (.map (arr (curL ticks pre seen ++ (zb, (k1, k2), v1, v2, v3, wrap64 (v4 + 1)) :: curL ticks post seen)) clock)).heap[b]? = W3.heap[b]? := fun b hb => set_ne (Ne.symm hb)
      have r4 : KeptB bm w (setBlock W3 bm (.map (arr (curL ticks pre seen ++ (zb, (k1, k2), v1, v2, v3, wrap64 (v4 + 1)) :: curL ticks post seen)) clock)) := p4.trans (KeptB.set bm W3 _)
      simp only at hup
      generalize hW4 : setBlock W3 bm (.map (arr (curL ticks pre seen ++ (zb, (k1, k2), v1, v2, v3, wrap64 (v4 + 1)) :: curL ticks post seen)) clock) = W4 at hup r1 r2 r3 r4
      have s1 : W4.cell? ⟨W1.heap.size, 0, none⟩ = some (.int .i64 k1) := (World.cell?_of_block (r3 _ (by simp; omega))).trans d1
      have s2 : W4.cell? ⟨W1.heap.size, 1, none⟩ = some (.string k2) := (World.cell?_of_block (r3 _ (by simp; omega))).trans d2
      have s4 : W4.cell? ⟨W1.heap.size + 1, 3, none⟩ = some (.int .i64 (wrap64 (v4 + 1))) := (World.cell?_of_block (r3 _ (by simp; omega))).trans e4
      obtain ⟨c5, c6⟩ := CK.out W4 r4
      clear hW4 c3' c4'
      go_wp2
      go_quiet (fail)
      have t1 : (W4.drewN nq).cell? ⟨W1.heap.size, 0, none⟩ = some (.int .i64 k1) := s1
      have t2 : (W4.drewN nq).cell? ⟨W1.heap.size, 1, none⟩ = some (.string k2) := s2
      have t3 : (W4.drewN nq).heap[bm]? = some (.map (arr (curL ticks pre seen ++ (zb, (k1, k2), v1, v2, v3, wrap64 (v4 + 1)) :: curL ticks post seen)) clock) := r1
      have t4 : (W4.drewN nq).heap[w.heap.size]? = some (.mapIter (some bm) clock (seen.push zb) clock) := r2
      have t5 : KeptB bm w (W4.drewN nq) := ⟨r4.os, r4.tape, r4.output, r4.size, r4.heap⟩
      obtain ⟨t6, t7⟩ := CK.out _ t5
      generalize W4.drewN nq = W5 at t1 t2 t3 t4 t5 t6 t7 ⊢
      clear s1 s2 s4 c5 c6 r1 r2 r3 r4 p1 p2 p4 p5 d1 d2 e1 e2 e3 e4 hup
      have HA := Lib.hid hpre
      clear hpre
      go_wp2
      · rename_i ht
        have hb : bump ticks (zb, (k1, k2), v1, v2, v3, v4) = none := bump_none ht
        have he := HN.out
        rw [hb] at he
        have HE := Lib.hid he
        have hdl : (Builtin.delete_ #[54, 62] 0 #[.map (some bm), .agg #[.int .i64 k1, .string k2]]).run Try.prog W5.drew = .ok (.tuple #[]) _ := del_at (W := W5.drew) (z := (zb, (k1, k2), v1, v2, v3, wrap64 (v4 + 1))) 0 t3 HA.out
        have x1 : W5.drew.cell? ⟨W1.heap.size, 0, none⟩ = some (.int .i64 k1) := t1
        have x2 : W5.drew.cell? ⟨W1.heap.size, 1, none⟩ = some (.string k2) := t2
        have x6 : W5.drew.cell? ⟨b0, 2, none⟩ = some (.map (some bm)) := t6
        have y1 : (setBlock W5.drew bm (.map (arr (curL ticks pre seen ++ curL ticks post seen)) clock)).heap[bm]? = some (.map (arr (curL ticks pre seen ++ curL ticks post seen)) clock) := set_at (by have := (Array.getElem?_eq_some_iff.1 t3).1; exact this)
        have y2 : (setBlock W5.drew bm (.map (arr (curL ticks pre seen ++ curL ticks post seen)) clock)).heap[w.heap.size]? = some (.mapIter (some bm) clock (seen.push zb) clock) := (set_ne (by omega)).trans t4
        have y3 : KeptB bm w (setBlock W5.drew bm (.map (arr (curL ticks pre seen ++ curL ticks post seen)) clock)) := KeptB.trans (b := W5.drew) ⟨t5.os, t5.tape, t5.output, t5.size, t5.heap⟩ (KeptB.set bm _ _)
        generalize hW6 : setBlock W5.drew bm (.map (arr (curL ticks pre seen ++ curL ticks post seen)) clock) = W6 at hdl y1 y2 y3
        clear hW6 hb he
        go_still_tail 5, (by kernel_rfl)
        change wpList _ _ _ _ _ W5.drew
        go_wp2
        have he := HE.out
        refine ⟨⟨seen.push zb, clock, by rw [he]; exact y1, y2, Nat.le_refl _, y3⟩, ?_⟩
        rw [HM.out]
        simp only [World.rangeLeft, y1, y2]
        have := left_less (ticks := ticks) (pre := pre) (post := post) (z := (zb, (k1, k2), v1, v2, v3, v4)) hz2
        rw [he] at this
        exact this
      · rename_i ht
        have hb : bump ticks (zb, (k1, k2), v1, v2, v3, v4) = some (zb, (k1, k2), v1, v2, v3, wrap64 (v4 + 1)) := bump_some ht
        have he := HN.out
        rw [hb] at he
        have hR : TickRel bm clock ticks (pre ++ (zb, (k1, k2), v1, v2, v3, v4) :: post) w W5 := ⟨seen.push zb, clock, by rw [he]; exact t3, t4, Nat.le_refl _, t5⟩
        refine ⟨hR, ?_⟩
        rw [HM.out]
        simp only [World.rangeLeft, t3, t4]
        have := left_less (ticks := ticks) (pre := pre) (post := post) (z := (zb, (k1, k2), v1, v2, v3, v4)) hz2
        rw [he] at this
        exact this
end Go.Proofs.Ythdmjbndfnolmaa
