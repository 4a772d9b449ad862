/- Texts of this proof, joined (13 of them): DH18s, DH18a, DH18b, DH18c, DH18o, DH18w, DH18d, DH18v, DH18e, DH18t, DH18r, DH18k, DHF.
   Conditions: none but those that stand at each theorem. -/
import Derived.Shelf.SlGeneric
import Derived.Ground.SlsfProg
import Derived.Shelf.SlLaysF0
import Derived.Test.YtkihcmcaignmkaaGreatProg
import Derived.StillTailTactics
import Derived.BigQuiet
import Derived.Deep.QuietTactic
import Derived.WalkKit
import Derived.OwnWalk
import Derived.Maps.Range
import Derived.Lib.Hide
import Derived.Test.YtkihcmcaignmkaaGreatDM1
import Derived.RangeFuncNested
import Derived.RangeFuncFrom
import Derived.RangeFuncBound
import Derived.RangeFuncLeaves
import Derived.RangeFuncCalls
import Derived.RangeFuncBox
import Derived.Shelf.Abstract
import Derived.Shelf.RegionOpen
import Derived.OwnWalkIn
import Derived.TacticsInMore
import Derived.LoopNIn
import Derived.LoopIn
import Derived.Maps.AppendAt
import Derived.Sort.Walk0
import Derived.Sort.OwnSortedInts
import Derived.Shelf.GgSortFunc.InsertionK
import Derived.Deep.Onto
import Derived.LoopN
import Derived.Shelf.SlSortCmp.WholeK
import Derived.Shelf.SlMaps.Clone
section
namespace Go.Proofs
open Go.Shelf
def Tryz.sortSeen_ren : Go.Shelf.Ren := ⟨fun | 6 => 83 | 15 => 92 | 14 => 91 | 28 => 103 | 29 => 104 | 20 => 95 | 21 => 96 | 22 => 97 | 23 => 98 | 24 => 99 | 25 => 100 | 26 => 101 | 27 => 102 | 46 => 106 | 47 => 107 | 48 => 108 | 49 => 109 | 50 => 110 | 57 => 111 | n => n, fun | 22 => 50 | 24 => 89 | 25 => 141 | 3 => 3 | 39 => 113 | 0 => 0 | 53 => 165 | 55 => 142 | 4 => 4 | 46 => 159 | 45 => 158 | 50 => 125 | 5 => 5 | 9 => 9 | 66 => 168 | 70 => 172 | 76 => 174 | 77 => 175 | n => n, fun | n => n⟩
theorem Tryz.sortSeen : Go.Proofs.SlLaysF0.n6 Tryz.prog Tryz.sortSeen_ren := {
 mixed := by kernel_rfl
 f6 := ⟨Tryz.f83.name, by decide, Tryz.func83.trans (congrArg some (by kernel_rfl))⟩
 f14 := ⟨Tryz.f91.name, by decide, Tryz.func91.trans (congrArg some (by kernel_rfl))⟩
 f15 := Tryz.func92.trans (congrArg some (by kernel_rfl))
 f20 := ⟨Tryz.f95.name, by decide, Tryz.func95.trans (congrArg some (by kernel_rfl))⟩
 f21 := ⟨Tryz.f96.name, by decide, Tryz.func96.trans (congrArg some (by kernel_rfl))⟩
 f22 := ⟨Tryz.f97.name, by decide, Tryz.func97.trans (congrArg some (by kernel_rfl))⟩
 f23 := ⟨Tryz.f98.name, by decide, Tryz.func98.trans (congrArg some (by kernel_rfl))⟩
 f24 := ⟨Tryz.f99.name, by decide, Tryz.func99.trans (congrArg some (by kernel_rfl))⟩
 f25 := ⟨Tryz.f100.name, by decide, Tryz.func100.trans (congrArg some (by kernel_rfl))⟩
 f26 := ⟨Tryz.f101.name, by decide, Tryz.func101.trans (congrArg some (by kernel_rfl))⟩
 f27 := ⟨Tryz.f102.name, by decide, Tryz.func102.trans (congrArg some (by kernel_rfl))⟩
 f28 := Tryz.func103.trans (congrArg some (by kernel_rfl))
 f29 := Tryz.func104.trans (congrArg some (by kernel_rfl))
 f46 := ⟨Tryz.f106.name, by decide, Tryz.func106.trans (congrArg some (by kernel_rfl))⟩
 f47 := Tryz.func107.trans (congrArg some (by kernel_rfl))
 f48 := Tryz.func108.trans (congrArg some (by kernel_rfl))
 f49 := ⟨Tryz.f109.name, by decide, Tryz.func109.trans (congrArg some (by kernel_rfl))⟩
 f50 := ⟨Tryz.f110.name, by decide, Tryz.func110.trans (congrArg some (by kernel_rfl))⟩
 f57 := ⟨Tryz.f111.name, by decide, Tryz.func111.trans (congrArg some (by kernel_rfl))⟩
 t0 := Tryz.underlying0
 a0 := Tryz.isAgg0
 z0 := Tryz.sizeOf0
 v0 := Tryz.zeroValue0
 t3 := Tryz.underlying3
 a3 := Tryz.isAgg3
 z3 := Tryz.sizeOf3
 v3 := Tryz.zeroValue3
 t4 := Tryz.underlying4
 a4 := Tryz.isAgg4
 z4 := Tryz.sizeOf4
 v4 := Tryz.zeroValue4
 t5 := Tryz.underlying5
 a5 := Tryz.isAgg5
 z5 := Tryz.sizeOf5
 v5 := Tryz.zeroValue5
 t9 := Tryz.underlying9
 a9 := Tryz.isAgg9
 z9 := Tryz.sizeOf9
 v9 := Tryz.zeroValue9
 t22 := Tryz.underlying50
 a22 := Tryz.isAgg50
 z22 := Tryz.sizeOf50
 v22 := Tryz.zeroValue50
 t25 := Tryz.underlying141
 a25 := Tryz.isAgg141
 z25 := Tryz.sizeOf141
 v25 := Tryz.zeroValue141
 t39 := Tryz.underlying113
 a39 := Tryz.isAgg113
 z39 := Tryz.sizeOf113
 v39 := Tryz.zeroValue113
 t45 := Tryz.underlying158
 a45 := Tryz.isAgg158
 z45 := Tryz.sizeOf158
 v45 := Tryz.zeroValue158
 t46 := Tryz.underlying159
 a46 := Tryz.isAgg159
 z46 := Tryz.sizeOf159
 v46 := Tryz.zeroValue159
 t50 := Tryz.underlying125
 a50 := Tryz.isAgg125
 z50 := Tryz.sizeOf125
 v50 := Tryz.zeroValue125
 t53 := Tryz.underlying165
 a53 := Tryz.isAgg165
 z53 := Tryz.sizeOf165
 v53 := Tryz.zeroValue165
 t55 := Tryz.underlying142
 a55 := Tryz.isAgg142
 z55 := Tryz.sizeOf142
 v55 := Tryz.zeroValue142
 t66 := Tryz.underlying168
 a66 := Tryz.isAgg168
 z66 := Tryz.sizeOf168
 v66 := Tryz.zeroValue168
 t70 := Tryz.underlying172
 a70 := Tryz.isAgg172
 z70 := Tryz.sizeOf172
 v70 := Tryz.zeroValue172
 t76 := Tryz.underlying174
 a76 := Tryz.isAgg174
 z76 := Tryz.sizeOf174
 v76 := Tryz.zeroValue174
 t77 := Tryz.underlying175
 a77 := Tryz.isAgg175
 z77 := Tryz.sizeOf175
 v77 := Tryz.zeroValue175 }
end Go.Proofs
end
section
namespace Go.Proofs.YtkihcmcaignmkaaGreat
open Go.RowKit Go.ChangeMaps
open Go.Aq (KeyOk keyOk mfind modify_mid erase_mid)
set_option linter.unusedVariables false
abbrev KT := Int × ByteArray
abbrev VT := Int × ByteArray × Int × Int
def kv (k : KT) : Value := .agg #[.int .i64 k.1, .string k.2]
def vv (v : VT) : Value := .agg #[.int .i64 v.1, .string v.2.1, .int .i64 v.2.2.1, .int .i64 v.2.2.2]
def upV (v : VT) : VT := (v.1, v.2.1, v.2.2.1, IntKind.i64.wrap (v.2.2.2 + 1))
abbrev ZT := Nat × KT × VT
def encE (z : ZT) : MapEntry := ⟨kv z.2.1, vv z.2.2, z.1⟩
def bump (ticks : Int) (z : ZT) : Option ZT := if ticks ≤ (upV z.2.2).2.2.2 then none else some (z.1, z.2.1, upV z.2.2)
def proc (ticks : Int) (seen : Array Nat) (z : ZT) : Option ZT := if seen.contains z.1 then bump ticks z else some z
def arr (l : List ZT) : Array MapEntry := (l.map encE).toArray
def curL (ticks : Int) (zs : List ZT) (seen : Array Nat) : List ZT := zs.filterMap (proc ticks seen)
structure KeptB (bm : Nat) (w w' : World) : Prop where
 os : w'.os = w.os
 tape : w'.tape = w.tape
 output : w'.output = w.output
 size : w.heap.size ≤ w'.heap.size
 heap : ∀ b, b < w.heap.size → b ≠ bm → w'.heap[b]? = w.heap[b]?
theorem KeptB.refl (bm : Nat) (w : World) : KeptB bm w w := ⟨rfl, rfl, rfl, Nat.le_refl _, fun _ _ _ => rfl⟩
theorem KeptB.trans {bm : Nat} {a b c : World} (h : KeptB bm a b) (k : KeptB bm b c) : KeptB bm a c :=
 ⟨k.os.trans h.os, k.tape.trans h.tape, k.output.trans h.output, Nat.le_trans h.size k.size, fun i hi hne => (k.heap i (Nat.lt_of_lt_of_le hi h.size) hne).trans (h.heap i hi hne)⟩
theorem KeptB.alloc (bm : Nat) (w : World) (o : Obj) : KeptB bm w (w.alloc o) := ⟨rfl, rfl, rfl, by simp, fun b hb _ => Below.heap_alloc w o b hb⟩
theorem KeptB.set (bm : Nat) (w : World) (o : Obj) : KeptB bm w (setBlock w bm o) := ⟨rfl, rfl, rfl, by simp [setBlock], fun b hb hne => by simp only [setBlock, Array.getElem?_setIfInBounds_ne (Ne.symm hne)]⟩
theorem KeptB.setNew {bm r : Nat} {w wr : World} (h : KeptB bm w wr) (o : Obj) (hr : w.heap.size ≤ r) : KeptB bm w (setBlock wr r o) :=
 ⟨h.os, h.tape, h.output, by simp [setBlock]; exact h.size, fun b hb hne => by
  have : r ≠ b := by omega
  simp only [setBlock, Array.getElem?_setIfInBounds_ne this]; exact h.heap b hb hne⟩
theorem set_at {w : World} {b : Nat} {o : Obj} (h : b < w.heap.size) : (setBlock w b o).heap[b]? = some o := by simp [setBlock, h]
theorem set_ne {w : World} {b c : Nat} {o : Obj} (h : b ≠ c) : (setBlock w b o).heap[c]? = w.heap[c]? := by simp [setBlock, h]
theorem wrap_i64 (n : Int) : IntKind.i64.wrap n = wrap64 n := by
 unfold IntKind.wrap wrap64
 simp [IntKind.bits, IntKind.signed]
 split <;> omega
theorem mfind_mid {K V : Type} [DecidableEq K] (k : K) (v : V) (r : List (K × V)) : ∀ (a : List (K × V)) (i : Nat), (∀ y ∈ a, y.1 ≠ k) → mfind k (a ++ (k, v) :: r) i = some (i + a.length, v)
 | [], i, _ => by simp [mfind]
 | y :: a, i, h => by
  have h1 : ¬ k = y.1 := fun e => h y (by simp) e.symm
  simp only [List.cons_append, mfind, if_neg h1]
  rw [mfind_mid k v r a (i + 1) (fun y hy => h y (by simp [hy]))]
  simp; omega
def kl : List Go.Aq.Lf := [.int .i64, .str]
theorem u54 : Tryz.prog.underlying 122 = some (.map 120 89) := by kernel_rfl
theorem key62 : KeyOk Tryz.prog 120 true kl := by
 have h := keyOk (P := Tryz.prog) (t := 120) (kk := .struct [(0, 1, false), (1, 1, false)] 2 [.int .i64 (0 : Int), .str ByteArray.empty] true) (Go.Aq.tyOk tab_ok rfl) rfl (kl := kl) rfl
 exact h
theorem find62 (x : KT) (es : List (KT × VT)) (ms : List MapEntry) (w : World) (h : ms.map (fun e => (e.key, e.val)) = es.map (fun e => (kv e.1, vv e.2))) :
  (Instr.findKey 120 (kv x) ms).run Tryz.prog w = .ok ((mfind x es 0).map fun p => (p.1, vv p.2)) w := key62.find x vv es ms w h
theorem find_at (A B : List ZT) (z : ZT) (W : World) (hA : ∀ y ∈ A, y.2.1 ≠ z.2.1) : (Instr.findKey 120 (kv z.2.1) (arr (A ++ z :: B)).toList).run Tryz.prog W = .ok (some (A.length, vv z.2.2)) W := by
 have hf := find62 z.2.1 ((A ++ z :: B).map (·.2)) ((A ++ z :: B).map encE) W (by rw [List.map_map, List.map_map]; rfl)
 have hm := mfind_mid z.2.1 z.2.2 (B.map (·.2)) (A.map (·.2)) 0 (by intro y hy; obtain ⟨x, hx, rfl⟩ := List.mem_map.1 hy; exact hA x hx)
 rw [show (A ++ z :: B).map (·.2) = A.map (·.2) ++ (z.2.1, z.2.2) :: B.map (·.2) by simp, hm] at hf
 simpa [arr] using hf
theorem upd_at {W : World} {bm clock : Nat} {A B : List ZT} {z : ZT} (v' : VT) (hb : W.heap[bm]? = some (.map (arr (A ++ z :: B)) clock)) (hA : ∀ y ∈ A, y.2.1 ≠ z.2.1) :
  (Instr.mapUpdate 122 (.map (some bm)) (kv z.2.1) (vv v')).run Tryz.prog W = .ok () (setBlock W bm (.map (arr (A ++ (z.1, z.2.1, v') :: B)) clock)) := by
 have hget : (arr (A ++ z :: B))[A.length]? = some (encE z) := by simp [arr]
 have hmod : (arr (A ++ z :: B)).modify A.length (fun e => { e with key := kv z.2.1, val := vv v' }) = arr (A ++ (z.1, z.2.1, v') :: B) := by
  apply Array.ext'
  have h1 : A.length = (A.map encE).length := by simp
  rw [Array.toList_modify]
  simp only [arr, List.map_append, List.map_cons]
  rw [h1, modify_mid]
  rfl
 have hks : (Instr.keyThatStays (kv z.2.1) (kv z.2.1)).run Tryz.prog W = .ok (kv z.2.1) W := key62.stays z.2.1 W
 have hck : (Instr.checkKey false 10000 120 (kv z.2.1)).run Tryz.prog W = .ok () W := key62.chk z.2.1 false W
 have hf' := find_at A B z W hA
 unfold Instr.mapUpdate
 simp only [Sem.run_bind, run_underlying u54, Result.andThen_ok, MapKept.run_getObj_map hb, hck, hf', hget, Option.map_some, Option.getD_some, show (encE z).key = kv z.2.1 from rfl, hks, MapKept.run_setObj_map _ hb, hmod]
 rfl
theorem del_at {W : World} {bm clock : Nat} {A B : List ZT} {z : ZT} (ty : TypeId) (hb : W.heap[bm]? = some (.map (arr (A ++ z :: B)) clock)) (hA : ∀ y ∈ A, y.2.1 ≠ z.2.1) :
  (Builtin.delete_ #[122, 120] ty #[.map (some bm), kv z.2.1]).run Tryz.prog W = .ok (.tuple #[]) (setBlock W bm (.map (arr (A ++ B)) clock)) := by
 have her : (arr (A ++ z :: B)).eraseIdxIfInBounds A.length = arr (A ++ B) := by
  apply Array.ext'
  have h1 : A.length = (A.map encE).length := by simp
  rw [Array.toList_eraseIdxIfInBounds]
  simp only [arr, List.map_append, List.map_cons]
  rw [h1, erase_mid]
 have hck : ∀ e, (Instr.checkKey e 10000 120 (kv z.2.1)).run Tryz.prog W = .ok () W := fun e => key62.chk z.2.1 e W
 have hf' := find_at A B z W hA
 unfold Builtin.delete_
 simp [run_underlying u54, MapKept.run_getObj_map hb, hck, hf', MapKept.run_setObj_map _ hb, her]
 rfl
theorem proc_some {ticks : Int} {seen : Array Nat} {z y : ZT} (h : proc ticks seen z = some y) : y.1 = z.1 ∧ y.2.1 = z.2.1 ∧ (seen.contains z.1 = false → y = z) := by
 unfold proc at h
 split at h
 ·rename_i hs
  unfold bump at h
  split at h
  ·cases h
  ·cases h; exact ⟨rfl, rfl, fun h => by rw [hs] at h; cases h⟩
 ·cases h; exact ⟨rfl, rfl, fun _ => rfl⟩
theorem cur_mem {ticks : Int} {zs : List ZT} {seen : Array Nat} {y : ZT} (h : y ∈ curL ticks zs seen) : ∃ z ∈ zs, y.1 = z.1 ∧ y.2.1 = z.2.1 ∧ (seen.contains z.1 = false → y = z) := by
 obtain ⟨z, hz, hp⟩ := List.mem_filterMap.1 h
 exact ⟨z, hz, proc_some hp⟩
theorem cur_sub (ticks : Int) (seen : Array Nat) : ∀ zs : List ZT, ((curL ticks zs seen).map (·.1)).Sublist (zs.map (·.1))
 | [] => List.Sublist.refl _
 | z :: zs => by
  have ih := cur_sub ticks seen zs
  unfold curL at ih ⊢
  rw [List.filterMap_cons]
  split
  ·exact ih.trans (List.sublist_cons_self _ _)
  ·rename_i y hy
   rw [List.map_cons, List.map_cons, (proc_some hy).1]
   exact ih.cons_cons _
theorem cur_start (ticks : Int) : ∀ zs : List ZT, curL ticks zs #[] = zs
 | [] => rfl
 | z :: zs => by
  have ih := cur_start ticks zs
  unfold curL at ih ⊢
  rw [List.filterMap_cons, ih]
  simp [proc]
theorem filterMap_same {α β : Type} {f g : α → Option β} : ∀ {l : List α}, (∀ x ∈ l, f x = g x) → l.filterMap f = l.filterMap g
 | [], _ => rfl
 | x :: l, h => by
  rw [List.filterMap_cons, List.filterMap_cons, h x (by simp), filterMap_same (l := l) (fun y hy => h y (by simp [hy]))]
theorem cur_end {ticks : Int} {zs : List ZT} {seen : Array Nat} (h : ∀ z ∈ zs, seen.contains z.1 = true) : curL ticks zs seen = zs.filterMap (bump ticks) := by
 unfold curL
 refine filterMap_same fun z hz => ?_
 unfold proc
 rw [if_pos (h z hz)]
theorem cur_other {ticks : Int} {seen : Array Nat} {b : Nat} : ∀ {zs : List ZT}, (∀ z ∈ zs, z.1 ≠ b) → curL ticks zs (seen.push b) = curL ticks zs seen := by
 intro zs h
 unfold curL
 refine filterMap_same fun z hz => ?_
 unfold proc
 have : (seen.push b).contains z.1 = seen.contains z.1 := by
  rw [contains_push]
  have := h z hz
  simp [this]
 rw [this]
theorem cur_split {ticks : Int} {pre post : List ZT} {z : ZT} {seen : Array Nat} (h : seen.contains z.1 = false) : curL ticks (pre ++ z :: post) seen = curL ticks pre seen ++ z :: curL ticks post seen := by
 unfold curL
 rw [List.filterMap_append, List.filterMap_cons]
 simp only [proc, h]
 rfl
theorem cur_next {ticks : Int} {pre post : List ZT} {z : ZT} {seen : Array Nat} (hn : ((pre ++ z :: post).map (·.1)).Nodup) : curL ticks (pre ++ z :: post) (seen.push z.1) = curL ticks pre seen ++ ((bump ticks z).toList ++ curL ticks post seen) := by
 rw [List.map_append, List.map_cons] at hn
 have hn := List.nodup_append.1 hn
 have h1 : ∀ y ∈ pre, y.1 ≠ z.1 := fun y hy => hn.2.2 y.1 (List.mem_map.2 ⟨y, hy, rfl⟩) z.1 (by simp)
 have h2 : ∀ y ∈ post, y.1 ≠ z.1 := fun y hy e => (List.nodup_cons.1 hn.2.1).1 (e ▸ List.mem_map.2 ⟨y, hy, rfl⟩)
 have e1 := cur_other (ticks := ticks) (seen := seen) h1
 have e2 := cur_other (ticks := ticks) (seen := seen) h2
 unfold curL at e1 e2 ⊢
 rw [List.filterMap_append, List.filterMap_cons, e1, e2]
 have hs : (seen.push z.1).contains z.1 = true := by rw [contains_push]; simp
 simp only [proc, hs, if_true]
 cases bump ticks z <;> rfl
theorem left_nil {ticks : Int} {zs : List ZT} {seen : Array Nat} (h : (leftOf (arr (curL ticks zs seen)) seen).size = 0) : ∀ z ∈ zs, seen.contains z.1 = true := by
 intro z hz
 cases hs : seen.contains z.1 with
 | true => rfl
 | false =>
  have hmem : z ∈ curL ticks zs seen := List.mem_filterMap.2 ⟨z, hz, by unfold proc; rw [hs]; rfl⟩
  have := all_seen _ seen h (encE z) (by simp only [arr]; exact List.mem_map.2 ⟨z, hmem, rfl⟩)
  rw [show (encE z).born = z.1 from rfl, hs] at this
  cases this
theorem left_mem {ticks : Int} {zs : List ZT} {seen : Array Nat} {e : MapEntry} (h : e ∈ (leftOf (arr (curL ticks zs seen)) seen).toList) : ∃ z ∈ zs, seen.contains z.1 = false ∧ e = encE z ∧ e ∈ (arr (curL ticks zs seen)).toList := by
 obtain ⟨h1, h2⟩ := mem_left h
 have h1' := h1
 simp only [arr] at h1
 obtain ⟨y, hy, rfl⟩ := List.mem_map.1 h1
 obtain ⟨z, hz, e1, e2, e3⟩ := cur_mem hy
 have hs : seen.contains z.1 = false := by rw [← e1]; exact h2
 obtain rfl := e3 hs
 exact ⟨y, hz, hs, rfl, h1'⟩
theorem bump_none {ticks : Int} {z : ZT} (h : ticks ≤ wrap64 (z.2.2.2.2.2 + 1)) : bump ticks z = none := if_pos (by show ticks ≤ IntKind.i64.wrap (z.2.2.2.2.2 + 1); rw [wrap_i64]; exact h)
theorem bump_some {ticks : Int} {z : ZT} (h : wrap64 (z.2.2.2.2.2 + 1) < ticks) : bump ticks z = some (z.1, z.2.1, z.2.2.1, z.2.2.2.1, z.2.2.2.2.1, wrap64 (z.2.2.2.2.2 + 1)) := by
 unfold bump
 rw [if_neg (by show ¬ ticks ≤ IntKind.i64.wrap (z.2.2.2.2.2 + 1); rw [wrap_i64]; omega)]
 unfold upV
 rw [wrap_i64]
theorem left_count (ticks : Int) (seen : Array Nat) : ∀ zs : List ZT, (leftOf (arr (curL ticks zs seen)) seen).size = (zs.filter fun z => !seen.contains z.1).length := by
 intro zs
 have h1 : ∀ l : List ZT, (leftOf (arr l) seen).size = (l.filter fun y => !seen.contains y.1).length := by
  intro l
  unfold leftOf arr
  rw [← Array.length_toList, Array.toList_filter]
  simp only
  rw [List.filter_map, List.length_map]
  rfl
 rw [h1]
 unfold curL
 induction zs with
 | nil => rfl
 | cons z zs ih =>
  cases hs : seen.contains z.1 with
  | false =>
   have : proc ticks seen z = some z := by unfold proc; rw [hs]; rfl
   rw [List.filterMap_cons, this]
   simp only
   rw [List.filter_cons_of_pos (by rw [hs]; rfl), List.filter_cons_of_pos (by rw [hs]; rfl), List.length_cons, List.length_cons, ih]
  | true =>
   rw [List.filter_cons_of_neg (by rw [hs]; simp), List.filterMap_cons]
   split
   ·exact ih
   ·rename_i y hy
    rw [List.filter_cons_of_neg (by rw [(proc_some hy).1, hs]; simp)]
    exact ih
theorem left_less {ticks : Int} {pre post : List ZT} {z : ZT} {seen : Array Nat} (h : seen.contains z.1 = false) :
  (leftOf (arr (curL ticks (pre ++ z :: post) (seen.push z.1))) (seen.push z.1)).size < (leftOf (arr (curL ticks (pre ++ z :: post) seen)) seen).size := by
 rw [left_count, left_count, List.filter_append, List.filter_append, List.length_append, List.length_append]
 have hs : (seen.push z.1).contains z.1 = true := by rw [contains_push]; simp
 rw [List.filter_cons_of_neg (by rw [hs]; simp), List.filter_cons_of_pos (by rw [h]; rfl), List.length_cons]
 have mono : ∀ l : List ZT, (l.filter fun y => !(seen.push z.1).contains y.1).length ≤ (l.filter fun y => !seen.contains y.1).length := by
  intro l
  induction l with
  | nil => simp
  | cons y l ih =>
   cases e1 : (seen.push z.1).contains y.1 with
   | true =>
    rw [List.filter_cons_of_neg (by rw [e1]; simp)]
    cases e2 : seen.contains y.1 with
    | true => rw [List.filter_cons_of_neg (by rw [e2]; simp)]; exact ih
    | false => rw [List.filter_cons_of_pos (by rw [e2]; rfl), List.length_cons]; omega
   | false =>
    have e2 : seen.contains y.1 = false := by
     rw [contains_push, Bool.or_eq_false_iff] at e1; exact e1.1
    rw [List.filter_cons_of_pos (by rw [e1]; rfl), List.filter_cons_of_pos (by rw [e2]; rfl), List.length_cons, List.length_cons]; omega
 have := mono pre
 have := mono post
 omega
def TickRel (bm clock : Nat) (ticks : Int) (zs : List ZT) (w wr : World) : Prop :=
 ∃ seen c0, wr.heap[bm]? = some (.map (arr (curL ticks zs seen)) clock) ∧ wr.heap[w.heap.size]? = some (.mapIter (some bm) clock seen c0) ∧ clock ≤ c0 ∧ KeptB bm w wr
def TickPost (bm clock : Nat) (ticks : Int) (zs : List ZT) (w : World) (e : Ending) (w' : World) : Prop :=
 e = .returned (.int .i64 (wrap64 ((zs.length : Int) - ((zs.filterMap (bump ticks)).length : Int)))) ∧ KeptB bm w w' ∧ w'.heap[bm]? = some (.map (arr (zs.filterMap (bump ticks))) clock)
theorem cells_at {W : World} {b : Nat} {cs : Array Value} {t : TypeId} (h : W.heap[b]? = some (.cells cs t (0, 0))) (i : Nat) : W.cell? ⟨b, i, none⟩ = cs[i]? := by simp [World.cell?, h]
theorem map_len {W : World} {bm clock : Nat} {es : Array MapEntry} (h : W.heap[bm]? = some (.map es clock)) (n : Nat) (hn : es.size = n) : (Builtin.len_ #[122] 3 #[.map (some bm)]).run Tryz.prog W = .ok (.int .i64 (n : Int)) W := by
 simp [Builtin.len_, run_underlying u54, MapKept.run_getObj_map h, goInt, hn]
set_option maxRecDepth 100000 in
set_option maxHeartbeats 4000000 in
theorem tick_raw (b0 bm clock : Nat) (room ticks : Int) (zs : List ZT) (w : World) (hne : b0 ≠ bm)
  (h0 : w.heap[b0]? = some (.cells #[.int .i64 room, .int .i64 ticks, .map (some bm)] 124 (0, 0)))
  (hm : w.heap[bm]? = some (.map (arr zs) clock)) (hn : (zs.map (·.1)).Nodup) (hk : (zs.map (·.2.1)).Nodup) (hc : ∀ z ∈ zs, z.1 < clock) :
  Calls Tryz.prog 37 #[.pointer (some ⟨b0, 0, none⟩)] w (TickPost bm clock ticks zs w) := by
 have c2 : w.cell? ⟨b0, 2, none⟩ = some (.map (some bm)) := cells_at h0 2
 obtain ⟨L, hL⟩ : ∃ L : Int, (zs.length : Int) = L := ⟨_, rfl⟩
 have hlen := map_len hm zs.length (by simp [arr])
 rw [hL] at hlen
 have HL := Lib.hid hL
 clear hL
 have hrg : (Instr.range 122 (.map (some bm))).run Tryz.prog w = .ok (.pointer (some ⟨w.heap.size, 0, none⟩)) (w.alloc (.mapIter (some bm) clock #[] clock)) :=
  run_range_map w 122 120 89 bm _ clock u54 hm
 have b0lt : b0 < w.heap.size := (Array.getElem?_eq_some_iff.1 h0).1
 have bmlt : bm < w.heap.size := (Array.getElem?_eq_some_iff.1 hm).1
 have hRel0 : TickRel bm clock ticks zs w (w.alloc (.mapIter (some bm) clock #[] clock)) :=
  ⟨#[], clock, by rw [cur_start, Below.heap_alloc w _ bm bmlt]; exact hm, (MapKept.heap_alloc w _).1, Nat.le_refl _, KeptB.alloc bm w _⟩
 have cellsK : ∀ W, KeptB bm w W → W.cell? ⟨b0, 2, none⟩ = some (.map (some bm)) ∧ W.cell? ⟨b0, 1, none⟩ = some (.int .i64 ticks) := fun W hK => by
  have := (hK.heap b0 b0lt hne).trans h0
  exact ⟨cells_at this 2, cells_at this 1⟩
 have CK := Lib.hid cellsK
 clear cellsK
 go_enter Tryz.func37, Tryz.ntmps37
 go_wp2
 clear hrg
 go_loopw [4, 5] (fun _ _ wr => TickRel bm clock ticks zs w wr) (fun _ _ wr => wr.rangeLeft bm w.heap.size)
 case atStart => exact hRel0
 case round =>
  obtain ⟨seen, c0, g1, g2, g3, g4⟩ := hrel
  have hmeas : wr.rangeLeft bm w.heap.size = (leftOf (arr (curL ticks zs seen)) seen).size := by simp only [World.rangeLeft, g1, g2]
  have HM := Lib.hid hmeas
  clear hmeas
  rcases run_next_at (P := Tryz.prog) wr 0 w.heap.size bm clock c0 seen (arr (curL ticks zs seen)) clock g2 g1 (fun x hx => by
   simp only [arr] at hx
   obtain ⟨y, hy, rfl⟩ := List.mem_map.1 hx
   obtain ⟨z, hz, e1, _⟩ := cur_mem hy
   show y.1 < clock
   rw [e1]; exact hc z hz) g3 with ⟨hz, hrun⟩ | ⟨e, he, w1, hal, hrun⟩
  ·have hall := left_nil hz
   have hend := cur_end (ticks := ticks) hall
   rw [hend] at g1
   have c2' := (CK.out wr g4).1
   have hlen' := map_len g1 (zs.filterMap (bump ticks)).length (by simp [arr])
   have hP : TickPost bm clock ticks zs w (.returned (.int .i64 (wrap64 (L - ((zs.filterMap (bump ticks)).length : Int))))) wr := ⟨by rw [HL.out], g4, g1⟩
   clear hend hz hall
   have HP := Lib.hid hP
   clear hP g1 g2
   go_wp2
   refine bodyPost_ret (results_tmp rfl _ _ _) rfl ?_
   exact HP.out
  ·obtain ⟨z, hz1, hz2, rfl, hz3⟩ := left_mem he
   have hlt := left_shrinks _ seen _ he
   obtain ⟨pre, post, rfl⟩ := List.append_of_mem hz1
   obtain ⟨W1, hW1⟩ : ∃ W, setBlock w1 w.heap.size (Obj.mapIter (some bm) clock (seen.push (encE z).born) clock) = W := ⟨_, rfl⟩
   rw [hW1] at hrun
   have hw1 : w1.heap = wr.heap ∧ KeptB bm w w1 := by rcases hal with rfl | rfl; exact ⟨rfl, g4⟩; exact ⟨rfl, ⟨g4.os, g4.tape, g4.output, g4.size, g4.heap⟩⟩
   have rlt : w.heap.size < wr.heap.size := (Array.getElem?_eq_some_iff.1 g2).1
   have q1 : W1.heap[bm]? = some (.map (arr (curL ticks (pre ++ z :: post) seen)) clock) := by rw [← hW1, set_ne (by omega), hw1.1]; exact g1
   have q2 : W1.heap[w.heap.size]? = some (.mapIter (some bm) clock (seen.push z.1) clock) := by rw [← hW1]; exact set_at (by rw [hw1.1]; exact rlt)
   have qK : KeptB bm w W1 := by rw [← hW1]; exact hw1.2.setNew _ (Nat.le_refl _)
   have rlt1 : w.heap.size < W1.heap.size := (Array.getElem?_eq_some_iff.1 q2).1
   have hent := run_entry_at (P := Tryz.prog) W1 w.heap.size bm clock seen _ clock (encE z) q2 q1 hz3 (by
    simp only [arr, List.map_map]
    exact (cur_sub ticks seen _).nodup hn)
   obtain ⟨c3, c4⟩ := CK.out W1 qK
   rw [cur_split hz2] at q1
   have hpre : ∀ y ∈ curL ticks pre seen, y.2.1 ≠ z.2.1 := fun y hy e => by
    obtain ⟨x, hx, _, e2, _⟩ := cur_mem hy
    rw [List.map_append, List.map_cons] at hk
    exact (List.nodup_append.1 hk).2.2 x.2.1 (List.mem_map.2 ⟨x, hx, rfl⟩) z.2.1 (by simp) (e2 ▸ e)
   have hnext := cur_next (ticks := ticks) (seen := seen) hn
   have HN := Lib.hid hnext
   have HW := Lib.hid hw1
   clear hW1 g1 g2 c2 hlen hal hnext hw1 he hz1 hz3
   obtain ⟨zb, ⟨k1, k2⟩, v1, v2, v3, v4⟩ := z
   simp only [encE, kv, vv] at hrun hent q2 hlt
   go_wp2
   have f1 : ((W1.alloc (.cells #[.int .i64 k1, .string k2] 120)).alloc (.cells #[.int .i64 v1, .string v2, .int .i64 v3, .int .i64 (wrap64 (v4 + 1))] 89)).heap[W1.heap.size]? = some (.cells #[.int .i64 k1, .string k2] 120 (0, 0)) :=
    (Below.heap_alloc _ _ _ (by simp)).trans (MapKept.heap_alloc W1 _).1
   have f2 : ((W1.alloc (.cells #[.int .i64 k1, .string k2] 120)).alloc (.cells #[.int .i64 v1, .string v2, .int .i64 v3, .int .i64 (wrap64 (v4 + 1))] 89)).heap[W1.heap.size + 1]? = some (.cells #[.int .i64 v1, .string v2, .int .i64 v3, .int .i64 (wrap64 (v4 + 1))] 89 (0, 0)) := by
    have := (MapKept.heap_alloc (W1.alloc (.cells #[.int .i64 k1, .string k2] 120)) (.cells #[.int .i64 v1, .string v2, .int .i64 v3, .int .i64 (wrap64 (v4 + 1))] 89)).1
    rwa [World.size_alloc] at this
   have f3 : ∀ b, b < W1.heap.size → ((W1.alloc (.cells #[.int .i64 k1, .string k2] 120)).alloc (.cells #[.int .i64 v1, .string v2, .int .i64 v3, .int .i64 (wrap64 (v4 + 1))] 89)).heap[b]? = W1.heap[b]? := fun b hb =>
    (Below.heap_alloc _ _ _ (by simp; omega)).trans (Below.heap_alloc _ _ _ hb)
   have f4 : KeptB bm w ((W1.alloc (.cells #[.int .i64 k1, .string k2] 120)).alloc (.cells #[.int .i64 v1, .string v2, .int .i64 v3, .int .i64 (wrap64 (v4 + 1))] 89)) := (qK.trans (KeptB.alloc bm W1 _)).trans (KeptB.alloc bm _ _)
   generalize ((W1.alloc (.cells #[.int .i64 k1, .string k2] 120)).alloc (.cells #[.int .i64 v1, .string v2, .int .i64 v3, .int .i64 (wrap64 (v4 + 1))] 89)) = W2 at f1 f2 f3 f4 ⊢
   have d1 : W2.drew.cell? ⟨W1.heap.size, 0, none⟩ = some (.int .i64 k1) := cells_at f1 0
   have d2 : W2.drew.cell? ⟨W1.heap.size, 1, none⟩ = some (.string k2) := cells_at f1 1
   have e1 : W2.drew.cell? ⟨W1.heap.size + 1, 0, none⟩ = some (.int .i64 v1) := cells_at f2 0
   have e2 : W2.drew.cell? ⟨W1.heap.size + 1, 1, none⟩ = some (.string v2) := cells_at f2 1
   have e3 : W2.drew.cell? ⟨W1.heap.size + 1, 2, none⟩ = some (.int .i64 v3) := cells_at f2 2
   have e4 : W2.drew.cell? ⟨W1.heap.size + 1, 3, none⟩ = some (.int .i64 (wrap64 (v4 + 1))) := cells_at f2 3
   have d1' : W2.cell? ⟨W1.heap.size, 0, none⟩ = some (.int .i64 k1) := cells_at f1 0
   have d2' : W2.cell? ⟨W1.heap.size, 1, none⟩ = some (.string k2) := cells_at f1 1
   have e1' : W2.cell? ⟨W1.heap.size + 1, 0, none⟩ = some (.int .i64 v1) := cells_at f2 0
   have e2' : W2.cell? ⟨W1.heap.size + 1, 1, none⟩ = some (.string v2) := cells_at f2 1
   have e3' : W2.cell? ⟨W1.heap.size + 1, 2, none⟩ = some (.int .i64 v3) := cells_at f2 2
   have e4' : W2.cell? ⟨W1.heap.size + 1, 3, none⟩ = some (.int .i64 (wrap64 (v4 + 1))) := cells_at f2 3
   obtain ⟨c3', c4'⟩ := CK.out W2 f4
   have bml1 : bm < W1.heap.size := by have := qK.size; omega
   have p1 : W2.drew.heap[bm]? = some (.map (arr (curL ticks pre seen ++ (zb, (k1, k2), v1, v2, v3, v4) :: curL ticks post seen)) clock) := (f3 bm bml1).trans q1
   have p2 : W2.drew.heap[w.heap.size]? = some (.mapIter (some bm) clock (seen.push zb) clock) := (f3 _ rlt1).trans q2
   have p4 : KeptB bm w W2.drew := ⟨f4.os, f4.tape, f4.output, f4.size, f4.heap⟩
   have p5 : W1.heap.size + 1 < W2.drew.heap.size := (Array.getElem?_eq_some_iff.1 f2).1
   clear c3 c4 f3 hent hrun q1 q2
   go_still_tail 6, (by kernel_rfl)
   change wpList _ _ _ _ _ W2.drew
   clear d1' d2' e1' e2' e3' e4' c3' c4' f4 f1 f2
   obtain ⟨c3', c4'⟩ := CK.out W2.drew p4
   generalize W2.drew = W3 at *
   have hup : (Instr.mapUpdate 122 (.map (some bm)) (.agg #[.int .i64 k1, .string k2]) (.agg #[.int .i64 v1, .string v2, .int .i64 v3, .int .i64 (wrap64 (v4 + 1))])).run Tryz.prog W3 = .ok () _ := upd_at (z := (zb, (k1, k2), v1, v2, v3, v4)) (v1, v2, v3, wrap64 (v4 + 1)) p1 hpre
   have r1 : (setBlock W3 bm (.map (arr (curL ticks pre seen ++ (zb, (k1, k2), v1, v2, v3, wrap64 (v4 + 1)) :: curL ticks post seen)) clock)).heap[bm]? = some (.map (arr (curL ticks pre seen ++ (zb, (k1, k2), v1, v2, v3, wrap64 (v4 + 1)) :: curL ticks post seen)) clock) := set_at (by have := (Array.getElem?_eq_some_iff.1 p1).1; exact this)
   have r2 : (setBlock W3 bm (.map (arr (curL ticks pre seen ++ (zb, (k1, k2), v1, v2, v3, wrap64 (v4 + 1)) :: curL ticks post seen)) clock)).heap[w.heap.size]? = some (.mapIter (some bm) clock (seen.push zb) clock) := (set_ne (by omega)).trans p2
   have r3 : ∀ b, b ≠ bm → (setBlock W3 bm (.map (arr (curL ticks pre seen ++ (zb, (k1, k2), v1, v2, v3, wrap64 (v4 + 1)) :: curL ticks post seen)) clock)).heap[b]? = W3.heap[b]? := fun b hb => set_ne (Ne.symm hb)
   have r4 : KeptB bm w (setBlock W3 bm (.map (arr (curL ticks pre seen ++ (zb, (k1, k2), v1, v2, v3, wrap64 (v4 + 1)) :: curL ticks post seen)) clock)) := p4.trans (KeptB.set bm W3 _)
   simp only at hup
   generalize hW4 : setBlock W3 bm (.map (arr (curL ticks pre seen ++ (zb, (k1, k2), v1, v2, v3, wrap64 (v4 + 1)) :: curL ticks post seen)) clock) = W4 at hup r1 r2 r3 r4
   have s1 : W4.cell? ⟨W1.heap.size, 0, none⟩ = some (.int .i64 k1) := (World.cell?_of_block (r3 _ (by simp; omega))).trans d1
   have s2 : W4.cell? ⟨W1.heap.size, 1, none⟩ = some (.string k2) := (World.cell?_of_block (r3 _ (by simp; omega))).trans d2
   have s4 : W4.cell? ⟨W1.heap.size + 1, 3, none⟩ = some (.int .i64 (wrap64 (v4 + 1))) := (World.cell?_of_block (r3 _ (by simp; omega))).trans e4
   obtain ⟨c5, c6⟩ := CK.out W4 r4
   clear hW4 c3' c4'
   go_wp2
   go_quiet (fail)
   have t1 : (W4.drewN nq).cell? ⟨W1.heap.size, 0, none⟩ = some (.int .i64 k1) := s1
   have t2 : (W4.drewN nq).cell? ⟨W1.heap.size, 1, none⟩ = some (.string k2) := s2
   have t3 : (W4.drewN nq).heap[bm]? = some (.map (arr (curL ticks pre seen ++ (zb, (k1, k2), v1, v2, v3, wrap64 (v4 + 1)) :: curL ticks post seen)) clock) := r1
   have t4 : (W4.drewN nq).heap[w.heap.size]? = some (.mapIter (some bm) clock (seen.push zb) clock) := r2
   have t5 : KeptB bm w (W4.drewN nq) := ⟨r4.os, r4.tape, r4.output, r4.size, r4.heap⟩
   obtain ⟨t6, t7⟩ := CK.out _ t5
   generalize W4.drewN nq = W5 at t1 t2 t3 t4 t5 t6 t7 ⊢
   clear s1 s2 s4 c5 c6 r1 r2 r3 r4 p1 p2 p4 p5 d1 d2 e1 e2 e3 e4 hup
   have HA := Lib.hid hpre
   clear hpre
   go_wp2
   ·rename_i ht
    have hb : bump ticks (zb, (k1, k2), v1, v2, v3, v4) = none := bump_none ht
    have he := HN.out
    rw [hb] at he
    have HE := Lib.hid he
    have hdl : (Builtin.delete_ #[122, 120] 0 #[.map (some bm), .agg #[.int .i64 k1, .string k2]]).run Tryz.prog W5.drew = .ok (.tuple #[]) _ := del_at (W := W5.drew) (z := (zb, (k1, k2), v1, v2, v3, wrap64 (v4 + 1))) 0 t3 HA.out
    have x1 : W5.drew.cell? ⟨W1.heap.size, 0, none⟩ = some (.int .i64 k1) := t1
    have x2 : W5.drew.cell? ⟨W1.heap.size, 1, none⟩ = some (.string k2) := t2
    have x6 : W5.drew.cell? ⟨b0, 2, none⟩ = some (.map (some bm)) := t6
    have y1 : (setBlock W5.drew bm (.map (arr (curL ticks pre seen ++ curL ticks post seen)) clock)).heap[bm]? = some (.map (arr (curL ticks pre seen ++ curL ticks post seen)) clock) := set_at (by have := (Array.getElem?_eq_some_iff.1 t3).1; exact this)
    have y2 : (setBlock W5.drew bm (.map (arr (curL ticks pre seen ++ curL ticks post seen)) clock)).heap[w.heap.size]? = some (.mapIter (some bm) clock (seen.push zb) clock) := (set_ne (by omega)).trans t4
    have y3 : KeptB bm w (setBlock W5.drew bm (.map (arr (curL ticks pre seen ++ curL ticks post seen)) clock)) := KeptB.trans (b := W5.drew) ⟨t5.os, t5.tape, t5.output, t5.size, t5.heap⟩ (KeptB.set bm _ _)
    generalize hW6 : setBlock W5.drew bm (.map (arr (curL ticks pre seen ++ curL ticks post seen)) clock) = W6 at hdl y1 y2 y3
    clear hW6 hb he
    go_still_tail 5, (by kernel_rfl)
    change wpList _ _ _ _ _ W5.drew
    go_wp2
    have he := HE.out
    refine ⟨⟨seen.push zb, clock, by rw [he]; exact y1, y2, Nat.le_refl _, y3⟩, ?_⟩
    rw [HM.out]
    simp only [World.rangeLeft, y1, y2]
    have := left_less (ticks := ticks) (pre := pre) (post := post) (z := (zb, (k1, k2), v1, v2, v3, v4)) hz2
    rw [he] at this
    exact this
   ·rename_i ht
    have hb : bump ticks (zb, (k1, k2), v1, v2, v3, v4) = some (zb, (k1, k2), v1, v2, v3, wrap64 (v4 + 1)) := bump_some ht
    have he := HN.out
    rw [hb] at he
    have hR : TickRel bm clock ticks (pre ++ (zb, (k1, k2), v1, v2, v3, v4) :: post) w W5 := ⟨seen.push zb, clock, by rw [he]; exact t3, t4, Nat.le_refl _, t5⟩
    refine ⟨hR, ?_⟩
    rw [HM.out]
    simp only [World.rangeLeft, t3, t4]
    have := left_less (ticks := ticks) (pre := pre) (post := post) (z := (zb, (k1, k2), v1, v2, v3, v4)) hz2
    rw [he] at this
    exact this
end Go.Proofs.YtkihcmcaignmkaaGreat
end
section
namespace Go.Proofs.YtkihcmcaignmkaaGreat
open Go.RowKit Go.Shelf Go.ChangeMaps
set_option linter.unusedVariables false
attribute [local go_sem] Oper.semAt_some
def seenOf (zs : List ZT) (seen : Array Nat) : List VT := (zs.filter fun z => seen.contains z.1).map (·.2.2)
theorem seen_split {pre post : List ZT} {z : ZT} {seen : Array Nat} (hn : ((pre ++ z :: post).map (·.1)).Nodup) (hs : seen.contains z.1 = false) {ys : List VT} (h : ys.Perm (seenOf (pre ++ z :: post) seen)) :
  (ys ++ [z.2.2]).Perm (seenOf (pre ++ z :: post) (seen.push z.1)) ∧ ys.length < (pre ++ z :: post).length := by
 rw [List.map_append, List.map_cons] at hn
 have hn := List.nodup_append.1 hn
 have other : ∀ l : List ZT, (∀ y ∈ l, y.1 ≠ z.1) → (l.filter fun y => (seen.push z.1).contains y.1) = l.filter fun y => seen.contains y.1 := by
  intro l hl
  refine List.filter_congr fun y hy => ?_
  rw [contains_push]
  have := hl y hy
  simp [this]
 have h1 : ∀ y ∈ pre, y.1 ≠ z.1 := fun y hy => hn.2.2 y.1 (List.mem_map.2 ⟨y, hy, rfl⟩) z.1 (by simp)
 have h2 : ∀ y ∈ post, y.1 ≠ z.1 := fun y hy e => (List.nodup_cons.1 hn.2.1).1 (e ▸ List.mem_map.2 ⟨y, hy, rfl⟩)
 have hp : (seen.push z.1).contains z.1 = true := by rw [contains_push]; simp
 unfold seenOf at h ⊢
 rw [List.filter_append, List.filter_cons_of_neg (by rw [hs]; simp)] at h
 rw [List.filter_append, List.filter_cons_of_pos (p := fun y : ZT => (seen.push z.1).contains y.1) (a := z) hp, other pre h1, other post h2]
 constructor
 ·rw [List.map_append, List.map_cons]
  rw [List.map_append] at h
  refine (h.append_right [z.2.2]).trans ?_
  rw [List.append_assoc]
  refine List.Perm.append_left _ ?_
  exact List.perm_append_comm
 ·have := h.length_eq
  rw [List.length_map, List.length_append] at this
  have a := List.length_filter_le (fun y : ZT => seen.contains y.1) pre
  have b := List.length_filter_le (fun y : ZT => seen.contains y.1) post
  simp only [List.length_append, List.length_cons]
  omega
theorem seen_all {zs : List ZT} {seen : Array Nat} (h : ∀ z ∈ zs, seen.contains z.1 = true) : seenOf zs seen = zs.map (·.2.2) := by
 unfold seenOf
 rw [List.filter_eq_self.2 h]
theorem curN (zs : List ZT) (seen : Array Nat) {e : MapEntry} (h : e ∈ (leftOf (arr zs) seen).toList) : ∃ z ∈ zs, seen.contains z.1 = false ∧ e = encE z ∧ e ∈ (arr zs).toList := by
 obtain ⟨h1, h2⟩ := mem_left h
 have h1' := h1
 simp only [arr] at h1
 obtain ⟨y, hy, rfl⟩ := List.mem_map.1 h1
 exact ⟨y, hy, h2, rfl, h1'⟩
theorem grown_set {w : World} {r : Nat} {o : Obj} : w.grownBy (setBlock w r o) (some r) := ⟨rfl, rfl, rfl, by simp [setBlock], fun i _ hi => set_ne (fun e => hi (by rw [e]))⟩
set_option maxRecDepth 100000 in
set_option maxHeartbeats 2000000 in
theorem val1_in (n l Bm bm clock : Nat) (zs : List ZT) (hn1 : 1 ≤ n) (J Jx : List VT → World → Prop) (W : World) (hJ : AbidesFrom W.heap.size J)
  (hY : ∀ pre x W, J pre W → pre.length < zs.length → YieldAt Fence.wide (n - 1) Tryz.prog l #[vv x] W fun e W' =>
   (e = .returned (.bool true) ∧ J (pre ++ [x]) W' ∧ KeepsWalks W W') ∨ (e = .returned (.bool false) ∧ Jx (pre ++ [x]) W'))
  (hB : W.heap[Bm]? = some (.cells #[.map (some bm)] 122 (0, 0))) (hm : W.heap[bm]? = some (.map (arr zs) clock)) (hn : (zs.map (·.1)).Nodup) (hc : ∀ z ∈ zs, z.1 < clock) (h0 : J [] W) :
  CallsIn Fence.wide n Tryz.prog 84 #[.func (.yield l) #[] #[], .pointer (some ⟨Bm, 0, none⟩)] W fun e W' => (∃ v, e = .returned v) ∧
   ((∃ ys, ys.Perm (zs.map (·.2.2)) ∧ J ys W') ∨ (∃ pre, True ∧ Jx pre W')) := by
 have cB : W.cell? ⟨Bm, 0, none⟩ = some (.map (some bm)) := cells_at hB 0
 have hrg : (Instr.range 122 (.map (some bm))).run Tryz.prog W = .ok (.pointer (some ⟨W.heap.size, 0, none⟩)) (W.alloc (.mapIter (some bm) clock #[] clock)) :=
  run_range_map W 122 120 89 bm _ clock u54 hm
 have bmlt : bm < W.heap.size := (Array.getElem?_eq_some_iff.1 hm).1
 have hR0 : ∃ seen c0 ys, (W.alloc (.mapIter (some bm) clock #[] clock)).heap[bm]? = some (.map (arr zs) clock) ∧ (W.alloc (.mapIter (some bm) clock #[] clock)).heap[W.heap.size]? = some (.mapIter (some bm) clock seen c0) ∧ clock ≤ c0 ∧ ys.Perm (seenOf zs seen) ∧ J ys (W.alloc (.mapIter (some bm) clock #[] clock)) :=
  ⟨#[], clock, [], (Below.heap_alloc W _ bm bmlt).trans hm, (MapKept.heap_alloc W _).1, Nat.le_refl _, by simp [seenOf], hJ [] W _ none h0 (World.grownBy_alloc W _ none) (fun r e => by cases e)⟩
 refine callsIn_of_wp Tryz.func84 rfl trivial ?_ rfl
 simp only [Tryz.ntmps84, List.size_toArray, List.length_cons, List.length_nil, Nat.reduceAdd, Nat.reduceSub, Array.replicate_succ, Array.replicate_zero, List.push_toArray, List.append_toArray, List.nil_append, List.cons_append]
 gi_wp2
 clear hrg
 gi_loopw [4] (fun _ wr => ∃ seen c0 ys, wr.heap[bm]? = some (.map (arr zs) clock) ∧ wr.heap[W.heap.size]? = some (.mapIter (some bm) clock seen c0) ∧ clock ≤ c0 ∧ ys.Perm (seenOf zs seen) ∧ J ys wr) (fun _ wr => wr.rangeLeft bm W.heap.size)
 case atStart => exact hR0
 case round =>
  obtain ⟨seen, c0, ys, g1, g2, g3, g4, g5⟩ := hrel
  have HM := Lib.hid (show wr.rangeLeft bm W.heap.size = (leftOf (arr zs) seen).size by simp only [World.rangeLeft, g1, g2])
  rcases run_next_at (P := Tryz.prog) wr 0 W.heap.size bm clock c0 seen (arr zs) clock g2 g1 (fun x hx => by
   simp only [arr] at hx
   obtain ⟨y, hy, rfl⟩ := List.mem_map.1 hx
   exact hc y hy) g3 with ⟨hz, hrun⟩ | ⟨e, he, w1, hal, hrun⟩
  ·have hall := all_seen _ seen hz
   have hperm : ys.Perm (zs.map (·.2.2)) := by
    rw [seen_all (fun z hz => hall (encE z) (by simp only [arr]; exact List.mem_map.2 ⟨z, hz, rfl⟩))] at g4
    exact g4
   have HP := Lib.hid hperm
   clear hz hall hperm
   gi_wp2
   go_end0
   exact ⟨⟨_, rfl⟩, .inl ⟨ys, HP.out, g5⟩⟩
  ·obtain ⟨z, hz1, hz2, rfl, hz3⟩ := curN zs seen he
   have hlt := left_shrinks _ seen _ he
   obtain ⟨pre, post, rfl⟩ := List.append_of_mem hz1
   obtain ⟨W1, hW1⟩ : ∃ W', setBlock w1 W.heap.size (Obj.mapIter (some bm) clock (seen.push (encE z).born) clock) = W' := ⟨_, rfl⟩
   rw [hW1] at hrun
   have hw1 : w1.heap = wr.heap ∧ wr.grownBy w1 none := by rcases hal with rfl | rfl <;> exact ⟨rfl, rfl, rfl, rfl, Nat.le_refl _, fun _ _ _ => rfl⟩
   have rlt : W.heap.size < wr.heap.size := (Array.getElem?_eq_some_iff.1 g2).1
   have q1 : W1.heap[bm]? = some (.map (arr (pre ++ z :: post)) clock) := by rw [← hW1, set_ne (by omega), hw1.1]; exact g1
   have q2 : W1.heap[W.heap.size]? = some (.mapIter (some bm) clock (seen.push z.1) clock) := by rw [← hW1]; exact set_at (by rw [hw1.1]; exact rlt)
   have qJ : J ys W1 := by
    refine hJ ys w1 W1 (some W.heap.size) (hJ ys wr w1 none g5 hw1.2 (fun r e => by cases e)) (by rw [← hW1]; exact grown_set) (fun r e => ?_)
    cases e
    exact ⟨Nat.le_refl _, _, by rw [hw1.1]; exact g2, rfl⟩
   have hent := run_entry_at (P := Tryz.prog) W1 W.heap.size bm clock seen _ clock (encE z) q2 q1 hz3 (by
    simp only [arr, List.map_map]
    exact hn)
   obtain ⟨hp2, hlen⟩ := seen_split hn hz2 g4
   have HP := Lib.hid hp2
   have HQ := Lib.hid (show W1.heap[bm]? = _ from q1)
   have HN := Lib.hid hn
   have HW := Lib.hid hW1
   have rlt1 : W.heap.size < W1.heap.size := (Array.getElem?_eq_some_iff.1 q2).1
   have r1 : ∀ o, (W1.alloc o).heap[bm]? = some (.map (arr (pre ++ z :: post)) clock) := fun o => (Below.heap_alloc W1 o bm (by omega)).trans q1
   have r2 : ∀ o, (W1.alloc o).heap[W.heap.size]? = some (.mapIter (some bm) clock (seen.push z.1) clock) := fun o => (Below.heap_alloc W1 o _ rlt1).trans q2
   have R1 := Lib.hid r1
   have R2 := Lib.hid r2
   clear g1 g2 hal hw1 he hz1 hz3 hW1 q1 q2 hp2 r1 r2 hm
   have hJ2 : J ys (W1.alloc (.cells #[.int .i64 z.2.2.1, .string z.2.2.2.1, .int .i64 z.2.2.2.2.1, .int .i64 z.2.2.2.2.2] 89)) := hJ ys W1 _ none qJ (World.grownBy_alloc W1 _ none) (fun r e => by cases e)
   obtain ⟨fn, tmps, assign, body, hy, hRd⟩ := hY ys z.2.2 _ hJ2 hlen
   obtain ⟨zb, ⟨k1, k2⟩, v1, v2, v3, v4⟩ := z
   simp only [encE, kv, vv] at hrun hent hlt hy hRd
   gi_wp2
   refine hRd.mono ?_
   rintro e W3 (⟨rfl, hJ3, hk3⟩ | ⟨rfl, hJx3⟩)
   ·have s1 := hk3.same _ _ (R1.out _) rfl
    have s2 := hk3.same _ _ (R2.out _) rfl
    have S1 := Lib.hid s1
    have S2 := Lib.hid s2
    clear s1 s2
    gi_wp2
    go_roundw
    case rel => exact ⟨seen.push zb, clock, ys ++ [(v1, v2, v3, v4)], S1.out, S2.out, Nat.le_refl _, HP.out, hJ3⟩
    case measure =>
     rw [HM.out]
     have s1 := S1.out
     have s2 := S2.out
     simp only [World.rangeLeft, s1, s2]
     exact hlt
   ·gi_wp2
    refine bodyPost_ret (results_none rfl _ _ _) rfl ?_
    exact ⟨⟨_, rfl⟩, .inr ⟨_, trivial, hJx3⟩⟩
end Go.Proofs.YtkihcmcaignmkaaGreat
end
section
namespace Go.Proofs.YtkihcmcaignmkaaGreat
open Go.RowKit Go.Shelf Go.ChangeMaps
open Go.Aq (add_plain)
set_option linter.unusedVariables false
attribute [local go_sem] Oper.semAt_some
def cellsVT (v : VT) : List Value := [.int .i64 v.1, .string v.2.1, .int .i64 v.2.2.1, .int .i64 v.2.2.2]
def flatVT (ys : List VT) : List Value := ys.flatMap cellsVT
theorem val_stops (n Bm bm clock : Nat) (zs : List ZT) (hn1 : 1 ≤ n) (w : World) (hB : w.heap[Bm]? = some (.cells #[.map (some bm)] 122 (0, 0))) (hm : w.heap[bm]? = some (.map (arr zs) clock)) (hn : (zs.map (·.1)).Nodup) (hc : ∀ z ∈ zs, z.1 < clock) :
  SeqStopsK Fence.wide n Tryz.prog 84 #[.pointer (some ⟨Bm, 0, none⟩)] (fun v : VT => #[vv v]) KeepsWalks (fun ys => ys.Perm (zs.map (·.2.2))) (fun _ => True) zs.length w := fun l J Jx W hW hJ _ hY h0 =>
 val1_in n l Bm bm clock zs hn1 J Jx W hJ hY ((hW.block _ (Array.getElem?_eq_some_iff.1 hB).1).trans hB) ((hW.block _ (Array.getElem?_eq_some_iff.1 hm).1).trans hm) hn hc h0
theorem cells_kept {X Y : World} {row : Option Nat} {b : Nat} {cs : Array Value} {t : TypeId} {fz : Nat × Nat} (h : X.heap[b]? = some (.cells cs t fz)) (hg : X.grownBy Y row) (hr : ∀ r, row = some r → ∃ o : Obj, X.heap[r]? = some o ∧ o.isCells = false) : Y.heap[b]? = some (.cells cs t fz) := by
 refine (hg.block b (Array.getElem?_eq_some_iff.1 h).1 fun e => ?_).trans h
 obtain ⟨o, ho, hc⟩ := hr b e.symm
 rw [h] at ho
 cases ho
 cases hc
theorem u30 : Tryz.prog.underlying 50 = some (.slice 89) := by kernel_rfl
theorem info44 : (Tryz.prog.info? 89).map (fun i => (i.zero, i.size, i.bytes)) = some (some (.agg #[.int .i64 0, .string ByteArray.empty, .int .i64 0, .int .i64 0]), 4, 40) := by kernel_rfl
set_option maxRecDepth 100000 in
set_option maxHeartbeats 2000000 in
theorem append_in (Bm bm clock : Nat) (zs : List ZT) (w : World) (hB : w.heap[Bm]? = some (.cells #[.map (some bm)] 122 (0, 0))) (hm : w.heap[bm]? = some (.map (arr zs) clock)) (hn : (zs.map (·.1)).Nodup) (hc : ∀ z ∈ zs, z.1 < clock) (hN : zs.length ≤ 1000000) :
    Calls Tryz.prog 90 #[.slice none 0 0, .func (.func 84) #[] #[.pointer (some ⟨Bm, 0, none⟩)]] w fun e w' => ∃ ys v, ys.Perm (zs.map (·.2.2)) ∧ e = .returned v ∧ w'.ownsRow w.heap.size 89 4 v ys.length (flatVT ys) ∧ Below w.heap.size w w' := by
  refine (callsIn_wide (n := 6)).1 ?_
  refine callsIn_of_wp_marks Tryz.func90 rfl trivial ?_ rfl
  simp only [Tryz.ntmps90, List.size_toArray, List.length_cons, List.length_nil, Nat.reduceAdd, Nat.reduceSub, Array.replicate_succ, Array.replicate_zero, List.push_toArray, List.append_toArray, List.nil_append, List.cons_append]
  gi_wp2
  have hbox := Boxed.new w 50 (.slice none 0 0)
  obtain ⟨W0, hW0⟩ : ∃ W0, w.alloc (.cells #[.slice none 0 0] 50) = W0 := ⟨_, rfl⟩
  have hsz : W0.heap.size = w.heap.size + 1 := by rw [← hW0]; simp
  have hB0 : Below w.heap.size w W0 := by rw [← hW0]; exact (Below.refl _ w).alloc (Nat.le_refl _) _
  have hBm : W0.heap[Bm]? = some (.cells #[.map (some bm)] 122 (0, 0)) := (hB0.block _ (Array.getElem?_eq_some_iff.1 hB).1).trans hB
  have hbm : W0.heap[bm]? = some (.map (arr zs) clock) := (hB0.block _ (Array.getElem?_eq_some_iff.1 hm).1).trans hm
  rw [hW0] at hbox ⊢
  clear hW0
  refine wpIn_rangeFunc_ownH rfl (by omega) (gf := 84) (lb := #[.pointer (some ⟨Bm, 0, none⟩)]) rfl trivial (enters_of Tryz.func84 (by kernel_rfl) rfl)
    (val_stops (6 - 1) Bm bm clock zs (by omega) W0 hBm hbm hn hc) walksK_t walksK_b (Below.refl _ _) (fun _ => rfl)
    (fun pre W => (∃ v, Boxed W w.heap.size 50 v ∧ W.ownsRow w.heap.size 89 4 v pre.length (flatVT pre) ∧ True) ∧ Below w.heap.size w W)
    (fun _ _ _ => False)
    (OwnFrom.and (Own.from (holdsRow_own w.heap.size w.heap.size 50 89 4 (fun pre : List VT => pre.length) (fun pre => flatVT pre) (fun _ _ => True)) _) (ownFrom_below (Nat.le_refl _) (by omega)))
    (fun _ _ _ _ _ hs _ _ => hs)
    ⟨⟨_, hbox, World.ownsRow_nil _ _ _ _, trivial⟩, hB0⟩
    (fun x a' W => ∃ Bx, w.heap.size < Bx ∧ W.heap[Bx]? = some (.cells #[.int .i64 x.1, .string x.2.1, .int .i64 x.2.2.1, .int .i64 x.2.2.2] 89 (0, 0)) ∧ a' = { tmps := #[.slice none 0 0, .func (.func 84) #[] #[.pointer (some ⟨Bm, 0, none⟩)], .pointer (some ⟨w.heap.size, 0, none⟩), undef, .slice none 0 0, .pointer (some ⟨Bx, 0, none⟩), .func (.func 84) #[] #[.pointer (some ⟨Bm, 0, none⟩)], vv x, undef, undef, undef, undef, undef], defers := [] })
    (fun x a' _ X Y row hs hg hr => by obtain ⟨Bx, h1, h2, h3⟩ := hs; exact ⟨Bx, h1, cells_kept h2 hg (fun r e => (hr r e).2), h3⟩)
    ?assign ?body ?done ?stop
  case assign =>
    rintro l pre x W K ⟨⟨v, hv, hrow, _⟩, hB1⟩ hK
    obtain ⟨x1, x2, x3, x4⟩ := x
    simp only [vv] at hK ⊢
    gi_wp2
    exact hK _ _ ((KeepsOthers.alloc _ _).from _) (KeepsWalks.alloc _ _) ⟨⟨v, hv.alloc _, hrow.alloc _, trivial⟩, hB1.alloc hB1.size _⟩ ⟨W.heap.size, hv.lt, (MapKept.heap_alloc W _).1, rfl⟩
  case body =>
    rintro l pre x a' W hl ⟨r, hr⟩ ⟨⟨v, hv, hrow, _⟩, hB1⟩ ⟨Bx, hBx, bX, rfl⟩ hlt
    obtain ⟨x1, x2, x3, x4⟩ := x
    simp only [vv] at bX ⊢
    have cv := hv.cell
    have c0 : W.cell? ⟨Bx, 0, none⟩ = some (.int .i64 x1) := cells_at bX 0
    have c1 : W.cell? ⟨Bx, 1, none⟩ = some (.string x2) := cells_at bX 1
    have c2 : W.cell? ⟨Bx, 2, none⟩ = some (.int .i64 x3) := cells_at bX 2
    have c3 : W.cell? ⟨Bx, 3, none⟩ = some (.int .i64 x4) := cells_at bX 3
    have cAll : ∀ (W : World) (o : Obj), (W.alloc o).heap[W.heap.size]? = some o := fun W o => (MapKept.heap_alloc W o).1
    obtain ⟨i0, hi, hz0, hz1, hz2⟩ := info_parts info44
    have CA := Lib.hid cAll
    have HX := Lib.hid bX
    clear cAll bX
    gi_wp2_with (gi_at_builtin; go_loud (refine wpListIn_append_own _ rfl _ _ 50 rfl w.heap.size 89 i0 _ 4 40 u30 hi hz0 hz1 hz2 rfl (by decide) _ _ _ rfl (hrow.alloc _) ⟨W.heap.size, 0, none⟩ 1 1 (cellsVT (x1, x2, x3, x4)) rfl rfl (fun j u hu => by rw [add_plain, Nat.zero_add]; rw [cells_at (CA.out _ _), ← Array.getElem?_toList]; exact hu) (by intro u hu; simp [cellsVT] at hu; rcases hu with rfl | rfl | rfl | rfl <;> rfl) (by unfold maxLen; omega) (by omega) (by have := hB1.size; simp; omega) ?_; intro v' w1 hown' hgrow _; obtain ⟨g', cap', rfl⟩ := ownsRow_succ hown'; obtain ⟨hv1, hv2, hr2, hk2, hb2⟩ := hv.appended (by decide) hrow hB1.size (Nat.le_refl _) hown' hgrow; have hc1 := hv1.cell; have hf1 := hv1.frozen))
    refine ⟨hk2.from _, ?_, ⟨⟨_, hv2, by have e : flatVT (pre ++ [(x1, x2, x3, x4)]) = flatVT pre ++ cellsVT (x1, x2, x3, x4) := by simp [flatVT]
                                         rw [e, List.length_append]; exact hr2, trivial⟩, hB1.trans hb2⟩⟩
    exact hk2.walks
  case done =>
    rintro D ys W hD hys ⟨⟨v, hv, hrow, _⟩, hB1⟩ hK
    have cv := hv.cell
    have HY := Lib.hid hys
    clear hys
    gi_wp2
    refine ⟨by simp, .inl ⟨_, _, rfl, run_takeDeferred hK, ?_⟩⟩
    exact ⟨_, results_tmp rfl _ _ _, ys, v, HY.out, rfl, ownsRow_putObj hrow _ hK rfl, hB1.trans (belowK_b (w := w) (Nat.le_refl _) W D _ _ (by omega) hK rfl rfl)⟩
  case stop =>
    rintro D c pre W _ _ h _
    exact h.elim
end Go.Proofs.YtkihcmcaignmkaaGreat
end
section
namespace Go.Proofs.YtkihcmcaignmkaaGreat
open Go.Aq (sLt)
set_option linter.unusedVariables false
def cmpI (x y : Int) : Int := if x < y then -1 else if y < x then 1 else 0
def cmpT (x y : ByteArray) : Int := if sLt x y = true then -1 else if x = y then 0 else 1
def orI (a b : Int) : Int := if a ≠ 0 then a else b
def cmpV (x y : Int × ByteArray × Int × Int) : Int := orI (cmpI x.1 y.1) (cmpT x.2.1 y.2.1)
def vcells (v : Int × ByteArray × Int × Int) : List Value := [.int .i64 v.1, .string v.2.1, .int .i64 v.2.2.1, .int .i64 v.2.2.2]
theorem sLt_eq (a b : ByteArray) : sLt a b = decide (a.data.toList < b.data.toList) := by unfold sLt; rw [bytesLess_eq]
theorem ba_ext {a b : ByteArray} (h : a.data.toList = b.data.toList) : a = b := by
 cases a; cases b
 simp at h
 simp [h]
theorem sLt_irrefl (a : ByteArray) : sLt a a = false := by
 rw [sLt_eq]; simp
theorem sLt_trans {a b c : ByteArray} (h : sLt a b = true) (k : sLt b c = true) : sLt a c = true := by
 rw [sLt_eq, decide_eq_true_eq] at *
 exact List.lt_trans h k
theorem sLt_total {a b : ByteArray} (h : sLt a b = false) (k : sLt b a = false) : a = b := by
 rw [sLt_eq, decide_eq_false_iff_not] at *
 exact ba_ext (List.le_antisymm (List.not_lt.1 k) (List.not_lt.1 h))
theorem sLt_asymm {a b : ByteArray} (h : sLt a b = true) : sLt b a = false := by
 cases k : sLt b a with
 | false => rfl
 | true => have := sLt_trans h k; rw [sLt_irrefl] at this; cases this
def ltV (x y : Int × ByteArray × Int × Int) : Bool := decide (x.1 < y.1) || (decide (x.1 = y.1) && sLt x.2.1 y.2.1)
theorem cmpV_lt (x y : Int × ByteArray × Int × Int) : decide (cmpV x y < 0) = ltV x y := by
 unfold cmpV orI cmpI cmpT ltV
 by_cases h1 : x.1 < y.1
 ·simp [h1]
 ·by_cases h2 : y.1 < x.1
  ·have h3 : ¬ x.1 = y.1 := by omega
   simp [h1, h2, h3]
  ·have h3 : x.1 = y.1 := by omega
   simp only [h3, Int.lt_irrefl, if_false]
   cases h4 : sLt x.2.1 y.2.1 with
   | true => simp
   | false =>
    by_cases h5 : x.2.1 = y.2.1 <;> simp [h5]
theorem ltV_irrefl (x : Int × ByteArray × Int × Int) : ltV x x = false := by simp [ltV, sLt_irrefl]
theorem ltV_trans {x y z : Int × ByteArray × Int × Int} (h : ltV x y = true) (k : ltV y z = true) : ltV x z = true := by
 simp only [ltV, Bool.or_eq_true, Bool.and_eq_true, decide_eq_true_eq] at *
 rcases h with h | ⟨h, h'⟩ <;> rcases k with k | ⟨k, k'⟩
 ·left; omega
 ·left; omega
 ·left; omega
 ·right; exact ⟨by omega, sLt_trans h' k'⟩
theorem ltV_asymm {x y : Int × ByteArray × Int × Int} (h : ltV x y = true) : ltV y x = false := by
 cases k : ltV y x with
 | false => rfl
 | true => have := ltV_trans h k; rw [ltV_irrefl] at this; cases this
def keyV (v : Int × ByteArray × Int × Int) : Int × ByteArray := (v.1, v.2.1)
theorem ltV_total {x y : Int × ByteArray × Int × Int} (h : ltV x y = false) (k : ltV y x = false) : keyV x = keyV y := by
 simp only [ltV, Bool.or_eq_false_iff, Bool.and_eq_false_iff, decide_eq_false_iff_not] at *
 have e : x.1 = y.1 := by omega
 have h' : sLt x.2.1 y.2.1 = false := by rcases h.2 with h | h; exact absurd e h; exact h
 have k' : sLt y.2.1 x.2.1 = false := by rcases k.2 with h | h; exact absurd e.symm h; exact h
 unfold keyV
 rw [e, sLt_total h' k']
theorem ltV_key {x y x' y' : Int × ByteArray × Int × Int} (h : keyV x = keyV x') (k : keyV y = keyV y') : ltV x y = ltV x' y' := by
 unfold keyV at h k
 simp only [Prod.mk.injEq] at h k
 unfold ltV
 rw [h.1, h.2, k.1, k.2]
theorem ltV_ntrans {x y z : Int × ByteArray × Int × Int} (h : ltV x y = false) (k : ltV y z = false) : ltV x z = false := by
 cases hyx : ltV y x with
 | false =>
  rw [ltV_key (ltV_total h hyx) rfl]; exact k
 | true =>
  cases hxz : ltV x z with
  | false => rfl
  | true => rw [ltV_trans hyx hxz] at k; cases k
def ins (x : Int × ByteArray × Int × Int) : List (Int × ByteArray × Int × Int) → List (Int × ByteArray × Int × Int)
 | [] => [x]
 | y :: r => if ltV x y = true then x :: y :: r else y :: ins x r
def isort : List (Int × ByteArray × Int × Int) → List (Int × ByteArray × Int × Int)
 | [] => []
 | x :: r => ins x (isort r)
theorem ins_perm (x : Int × ByteArray × Int × Int) : ∀ l, (ins x l).Perm (x :: l)
 | [] => List.Perm.refl _
 | y :: r => by
  unfold ins
  split
  ·exact List.Perm.refl _
  ·exact ((ins_perm x r).cons y).trans (List.Perm.swap x y r)
theorem isort_perm : ∀ l, (isort l).Perm l
 | [] => List.Perm.refl _
 | x :: r => (ins_perm x (isort r)).trans ((isort_perm r).cons x)
def Up (l : List (Int × ByteArray × Int × Int)) : Prop := l.Pairwise fun a b => ltV a b = true
theorem ins_up (x : Int × ByteArray × Int × Int) : ∀ l, Up l → (∀ y ∈ l, keyV x ≠ keyV y) → Up (ins x l)
 | [], _, _ => List.pairwise_singleton _ _
 | y :: r, h, hk => by
  unfold ins
  obtain ⟨h1, h2⟩ := List.pairwise_cons.1 h
  split
  ·rename_i hlt
   refine List.pairwise_cons.2 ⟨fun z hz => ?_, h⟩
   rcases List.mem_cons.1 hz with rfl | hz
   ·exact hlt
   ·exact ltV_trans hlt (h1 z hz)
  ·rename_i hlt
   rw [Bool.not_eq_true] at hlt
   have hyx : ltV y x = true := by
    cases e : ltV y x with
    | true => rfl
    | false => exact absurd (ltV_total hlt e) (hk y (by simp))
   refine List.pairwise_cons.2 ⟨fun z hz => ?_, ins_up x r h2 (fun z hz => hk z (by simp [hz]))⟩
   rcases List.mem_cons.1 ((ins_perm x r).mem_iff.1 hz) with rfl | hz
   ·exact hyx
   ·exact h1 z hz
theorem isort_up : ∀ l, (l.map keyV).Nodup → Up (isort l)
 | [], _ => List.Pairwise.nil
 | x :: r, h => by
  rw [List.map_cons, List.nodup_cons] at h
  refine ins_up x _ (isort_up r h.2) fun y hy e => h.1 ?_
  rw [e]
  exact List.mem_map.2 ⟨y, (isort_perm r).mem_iff.1 hy, rfl⟩
theorem up_uniq : ∀ (a b : List (Int × ByteArray × Int × Int)), Up a → Up b → a.Perm b → a = b
 | [], b, _, _, h => h.nil_eq
 | x :: a, [], _, _, h => by simpa using h.length_eq
 | x :: a, y :: b, ha, hb, h => by
  obtain ⟨a1, a2⟩ := List.pairwise_cons.1 ha
  obtain ⟨b1, b2⟩ := List.pairwise_cons.1 hb
  have e : x = y := by
   rcases List.mem_cons.1 (h.mem_iff.1 (List.mem_cons_self (a := x) (l := a))) with e | hx
   ·exact e
   ·rcases List.mem_cons.1 (h.mem_iff.2 (List.mem_cons_self (a := y) (l := b))) with e | hy
    ·exact e.symm
    ·have := ltV_asymm (a1 y hy); rw [b1 x hx] at this; cases this
  subst e
  rw [up_uniq a b a2 b2 (List.Perm.cons_inv h)]
theorem isort_is {l r : List (Int × ByteArray × Int × Int)} (hp : r.Perm l) (hu : Up r) : isort l = r := by
 have hn : (r.map keyV).Nodup := by
  unfold List.Nodup
  rw [List.pairwise_map]
  refine List.Pairwise.imp ?_ hu
  intro a b h e
  rw [ltV_key e rfl, ltV_irrefl] at h
  cases h
 have hn' : (l.map keyV).Nodup := (hp.map keyV).nodup_iff.1 hn
 exact up_uniq _ _ (isort_up l hn') hu ((isort_perm l).trans hp.symm)
end Go.Proofs.YtkihcmcaignmkaaGreat
end
section
namespace Go.Proofs.YtkihcmcaignmkaaGreat
open Go.Sort Go.Proofs Go.Shelf Go.RowKit
set_option linter.unusedVariables false
theorem flatVT_get : ∀ (d : List VT) (t : Nat), t < d.length * 4 → (flatVT d)[t]? = some ((vcells (d[t / 4]!))[t % 4]!)
 | [], t, h => by simp at h
 | x :: d, t, h => by
  have e : flatVT (x :: d) = vcells x ++ flatVT d := rfl
  by_cases h4 : t < 4
  ·rw [e, List.getElem?_append_left (by simpa [vcells] using h4)]
   have : t = 0 ∨ t = 1 ∨ t = 2 ∨ t = 3 := by omega
   rcases this with rfl | rfl | rfl | rfl <;> rfl
  ·obtain ⟨s, rfl⟩ : ∃ s, t = s + 4 := ⟨t - 4, by omega⟩
   rw [e, List.getElem?_append_right (by simp [vcells]), show (vcells x).length = 4 from rfl, Nat.add_sub_cancel, flatVT_get d s (by simp at h; omega), Nat.add_div_right s (by decide), Nat.add_mod_right]
   simp
theorem flatVT_len (d : List VT) : (flatVT d).length = d.length * 4 := by
 induction d with
 | nil => rfl
 | cons x d ih =>
  have e : flatVT (x :: d) = vcells x ++ flatVT d := rfl
  rw [e, List.length_append, ih, show (vcells x).length = 4 from rfl]; simp; omega
theorem flatK_vt (d : List VT) : (flatK vcells 4 d.toArray).toList = flatVT d := by
 apply List.ext_getElem?
 intro t
 by_cases h : t < d.length * 4
 ·rw [flatVT_get d t h, Array.getElem?_toList]
  simp [flatK, h]
 ·rw [List.getElem?_eq_none (by simp; omega), List.getElem?_eq_none (by rw [flatVT_len]; omega)]
theorem holds_blk {w : World} {g : Nat} {cur : Array Value} {e : TypeId} {F : Array Value} (hb : w.heap[g]? = some (.cells cur e (0, 0))) (ht : cur.toList.take F.size = F.toList) : Holds id w g 0 F := by
 intro j hj
 refine ⟨?_, by simp [World.frozen?, hb]⟩
 have h1 : (cur.toList.take F.size)[j]? = F.toList[j]? := by rw [ht]
 rw [List.getElem?_take_of_lt hj] at h1
 simp only [World.cell?, hb, Nat.zero_add]
 simp only [Option.isSome_none, Bool.false_eq_true, if_false]
 rw [← Array.getElem?_toList, h1, Array.getElem?_toList]
 simp [hj]
theorem heap_sorted_id {w : World} {g n : Nat} {os : Array Obj} {cur : Array Value} {e : TypeId} {fr : Nat × Nat} (F : Array Value) (hb : w.heap[g]? = some (.cells cur e fr)) :
  (grow (putRow id (Sort.ahead w n) g 0 F) os).heap[g]? = some (.cells (putCells id 0 F cur) e fr) := by
 have hg : g < w.heap.size := (Array.getElem?_eq_some_iff.1 hb).1
 rw [heap_grow_old _ _ (by simpa using hg)]
 simp [putRow, mapBlock, Sort.ahead, Array.getElem?_modify, hb, onCells]
theorem grownBy_sorted_id {w : World} {g n : Nat} {os : Array Obj} (F : Array Value) : w.grownBy (grow (putRow id (Sort.ahead w n) g 0 F) os) (some g) := by
 refine ⟨rfl, rfl, rfl, by simp, fun k hk hne => ?_⟩
 rw [heap_grow_old _ _ (by simpa using hk)]
 have : g ≠ k := fun e => hne (by rw [e])
 simp [putRow, mapBlock, Sort.ahead, Array.getElem?_modify, this]
theorem take_put_id (cur F : Array Value) (h : F.size ≤ cur.size) : (putCells id 0 F cur).toList.take F.size = F.toList := by
 apply List.ext_getElem?
 intro j
 by_cases hj : j < F.size
 ·rw [List.getElem?_take_of_lt hj, Array.getElem?_toList, Array.getElem?_toList]
  simp [putCells, hj, show j < cur.size by omega]
 ·rw [List.getElem?_take_eq_none (by omega), List.getElem?_eq_none (by simp; omega)]
theorem owns_sorted {w : World} {base g cap n : Nat} {e : TypeId} {os : Array Obj} {cur : Array Value} {ys zs : List VT} (hl : zs.length = ys.length) (hbase : base ≤ g) (hb : w.heap[g]? = some (.cells cur e (0, 0)))
  (h1 : ys.length ≤ cap) (h2 : cap ≤ maxLen) (h3 : cur.size = cap * 4) :
  (sortWorldK vcells 4 w g 0 n zs.toArray os).ownsRow base e 4 (.slice (some ⟨g, 0, none⟩) ys.length cap) ys.length (flatVT zs) := by
 have hF : (flatK vcells 4 zs.toArray).size = zs.length * 4 := by simp
 refine ⟨by rw [flatVT_len, hl], .inr ⟨g, cap, _, rfl, hbase, heap_sorted_id _ hb, h1, h2, by simp [putCells, h3], ?_⟩⟩
 rw [← flatK_vt zs, ← hl, ← hF]
 exact take_put_id cur _ (by rw [hF, h3, hl]; exact Nat.mul_le_mul_right 4 h1)
end Go.Proofs.YtkihcmcaignmkaaGreat
end
section
namespace Go.Proofs.YtkihcmcaignmkaaGreat
open Go.RowKit Go.Shelf Go.ChangeMaps Go.Sort
open Go.Aq (sLt)
set_option linter.unusedVariables false
theorem nan_int (x : Int) (w : World) : Calls Tryz.prog 85 #[.int .i64 x] w fun e w' => e = .returned (.bool false) ∧ w = w' := by
 go_enter Tryz.func85, Tryz.ntmps85
 go_wp2
 go_ret
 exact ⟨rfl, rfl⟩
theorem nan_str (x : ByteArray) (w : World) : Calls Tryz.prog 86 #[.string x] w fun e w' => e = .returned (.bool false) ∧ w = w' := by
 have h : (x.toList != x.toList) = false := by simp
 go_enter Tryz.func86, Tryz.ntmps86
 go_wp2
 go_ret
 exact ⟨rfl, rfl⟩
theorem cmp_int (x y : Int) (w : World) : Calls Tryz.prog 70 #[.int .i64 x, .int .i64 y] w fun e w' => e = .returned (.int .i64 (cmpI x y)) ∧ w' = w := by
 unfold cmpI
 go_enter Tryz.func70, Tryz.ntmps70
 go_wp2_with (go_at_call 85; refine (nan_int _ _).mono ?_; rintro e w' ⟨rfl, rfl⟩)
 all_goals
  refine bodyPost_ret (results_tmp rfl _ _ _) rfl ?_
  exact ⟨rfl, rfl⟩
theorem bl_eq (x y : ByteArray) : Op.bytesLess x.toList y.toList = sLt x y := by
 unfold sLt; rw [Go.Aq.bytes_toList, Go.Aq.bytes_toList]
theorem cmp_str (x y : ByteArray) (w : World) : Calls Tryz.prog 71 #[.string x, .string y] w fun e w' => e = .returned (.int .i64 (cmpT x y)) ∧ w' = w := by
 have h1 := bl_eq x y
 have h2 := Go.Aq.str_eq x y
 by_cases hl : sLt x y = true
 ·have hr : cmpT x y = -1 := if_pos hl
  rw [hr]
  rw [hl] at h1
  clear hl hr h2
  go_enter Tryz.func71, Tryz.ntmps71
  go_wp2_with (go_at_call 86; refine (nan_str _ _).mono ?_; rintro e w' ⟨rfl, rfl⟩)
  all_goals
   refine bodyPost_ret (results_tmp rfl _ _ _) rfl ?_
   exact ⟨rfl, rfl⟩
 ·by_cases he : x = y
  ·have hr : cmpT x y = 0 := by unfold cmpT; rw [if_neg hl, if_pos he]
   rw [hr]
   rw [decide_eq_true he] at h2
   rw [Bool.not_eq_true] at hl
   rw [hl] at h1
   have hg : (Go.binOp .gtr 9 (.string x) (.string y)).run Tryz.prog w = .ok (.bool false) w := by simp [Go.binOp, Op.stringOp, h1, h2]
   clear hl hr he
   go_enter Tryz.func71, Tryz.ntmps71
   go_wp2_with (go_at_call 86; refine (nan_str _ _).mono ?_; rintro e w' ⟨rfl, rfl⟩)
   all_goals
    refine bodyPost_ret (results_tmp rfl _ _ _) rfl ?_
    exact ⟨rfl, rfl⟩
  ·have hr : cmpT x y = 1 := by unfold cmpT; rw [if_neg hl, if_neg he]
   rw [hr]
   rw [decide_eq_false he] at h2
   rw [Bool.not_eq_true] at hl
   rw [hl] at h1
   have hg : (Go.binOp .gtr 9 (.string x) (.string y)).run Tryz.prog w = .ok (.bool true) w := by simp [Go.binOp, Op.stringOp, h1, h2]
   clear hl hr he
   go_enter Tryz.func71, Tryz.ntmps71
   go_wp2_with (go_at_call 86; refine (nan_str _ _).mono ?_; rintro e w' ⟨rfl, rfl⟩)
   all_goals
    refine bodyPost_ret (results_tmp rfl _ _ _) rfl ?_
    exact ⟨rfl, rfl⟩
theorem or_two (a b : Int) (g : Nat) (W : World) (c0 : W.cell? ⟨g, 0, none⟩ = some (.int .i64 a)) (c1 : W.cell? ⟨g, 1, none⟩ = some (.int .i64 b)) : Calls Tryz.prog 69 #[.slice (some ⟨g, 0, none⟩) 2 2] W fun e w' => e = .returned (.int .i64 (orI a b)) ∧ W = w' := by
 go_enter Tryz.func69, Tryz.ntmps69
 go_wp2
 go_loop [2, 5, 8] (fun r v i => ∃ k : Nat, i = .int .i64 k ∧ k ≤ 2 ∧ (0 < k → a = 0) ∧ (1 < k → b = 0)) (fun r v i => 2 - (intOf i).toNat)
 case atStart => exact ⟨0, rfl, by omega, by omega, by omega⟩
 case round =>
  obtain ⟨k, rfl, hk, ha, hb⟩ := hrel
  by_cases h2 : k = 2
  ·subst h2
   have ha' := ha (by omega)
   have hb' := hb (by omega)
   subst ha' hb'
   go_wp2
   go_ret
   exact ⟨rfl, rfl⟩
  ·by_cases h1 : k = 1
   ·subst h1
    have ha' := ha (by omega)
    subst ha'
    clear ha hb hk h2
    go_wp2
    ·rename_i hne _
     refine bodyPost_ret (results_tmp rfl _ _ _) rfl ?_
     exact ⟨by simp [orI], rfl⟩
    ·rename_i he
     have he : b = 0 := by simpa using he
     exact ⟨⟨2, rfl, by omega, fun _ => trivial, fun _ => he⟩, by simp [intOf]⟩
   ·obtain rfl : k = 0 := by omega
    clear ha hb hk h2 h1
    go_wp2
    ·rename_i hne _
     have hne : a ≠ 0 := by simpa using hne
     refine bodyPost_ret (results_tmp rfl _ _ _) rfl ?_
     exact ⟨by simp [orI, hne], rfl⟩
    ·rename_i he
     have he : a = 0 := by simpa using he
     exact ⟨⟨1, rfl, by omega, fun _ => he, fun h => by omega⟩, by simp [intOf]⟩
theorem new_cells (W : World) (cs : Array Value) (t : TypeId) (i : Nat) : (W.alloc (.cells cs t)).drew.cell? ⟨W.heap.size, i, none⟩ = cs[i]? := by
 have h : (W.alloc (.cells cs t)).heap[W.heap.size]? = some (.cells cs t (0, 0)) := (MapKept.heap_alloc W _).1
 show (W.alloc (.cells cs t)).cell? _ = _
 simp only [World.cell?, h]
 simp
set_option maxRecDepth 100000 in
set_option maxHeartbeats 1000000 in
theorem closure (x y : Int × ByteArray × Int × Int) (W : World) : Calls Tryz.prog 68 #[.agg #[.int .i64 x.1, .string x.2.1, .int .i64 x.2.2.1, .int .i64 x.2.2.2], .agg #[.int .i64 y.1, .string y.2.1, .int .i64 y.2.2.1, .int .i64 y.2.2.2]] W fun e w' => e = .returned (.int .i64 (cmpV x y)) ∧ ∃ q os', w' = grow (W.drewN q) os' := by
 obtain ⟨x1, x2, x3, x4⟩ := x
 obtain ⟨y1, y2, y3, y4⟩ := y
 simp only [cmpV]
 have hi := fun w => cmp_int x1 y1 w
 have ht := fun w => cmp_str x2 y2 w
 generalize cmpI x1 y1 = r1 at hi ⊢
 generalize cmpT x2 y2 = r2 at ht ⊢
 have OR := Lib.hid (fun w g h1 h2 => or_two r1 r2 g w h1 h2)
 generalize orI r1 r2 = r3 at OR ⊢
 go_enter Tryz.func68, Tryz.ntmps68
 go_wp2
 have n1 : ((W.alloc (.cells #[.int .i64 x1, .string x2, .int .i64 x3, .int .i64 x4] 89)).alloc (.cells #[.int .i64 y1, .string y2, .int .i64 y3, .int .i64 y4] 89)).heap[W.heap.size]? = some (.cells #[.int .i64 x1, .string x2, .int .i64 x3, .int .i64 x4] 89 (0, 0)) :=
  (Go.RowKit.Below.heap_alloc _ _ _ (by simp)).trans (MapKept.heap_alloc W _).1
 have n2 : ((W.alloc (.cells #[.int .i64 x1, .string x2, .int .i64 x3, .int .i64 x4] 89)).alloc (.cells #[.int .i64 y1, .string y2, .int .i64 y3, .int .i64 y4] 89)).heap[W.heap.size + 1]? = some (.cells #[.int .i64 y1, .string y2, .int .i64 y3, .int .i64 y4] 89 (0, 0)) := by
  have := (MapKept.heap_alloc (W.alloc (.cells #[.int .i64 x1, .string x2, .int .i64 x3, .int .i64 x4] 89)) (.cells #[.int .i64 y1, .string y2, .int .i64 y3, .int .i64 y4] 89)).1
  rwa [World.size_alloc] at this
 have n3 : (W.alloc (.cells #[.int .i64 x1, .string x2, .int .i64 x3, .int .i64 x4] 89)).alloc (.cells #[.int .i64 y1, .string y2, .int .i64 y3, .int .i64 y4] 89) = grow (W.drewN 0) (#[.cells #[.int .i64 x1, .string x2, .int .i64 x3, .int .i64 x4] 89] ++ #[.cells #[.int .i64 y1, .string y2, .int .i64 y3, .int .i64 y4] 89]) := by
  rw [alloc_eq_grow, alloc_eq_grow, grow_grow]; rfl
 have N3 := Lib.hid n3
 clear n3
 generalize (W.alloc (.cells #[.int .i64 x1, .string x2, .int .i64 x3, .int .i64 x4] 89)).alloc (.cells #[.int .i64 y1, .string y2, .int .i64 y3, .int .i64 y4] 89) = W1 at n1 n2 N3 ⊢
 have d1 : W1.cell? ⟨W.heap.size, 0, none⟩ = some (.int .i64 x1) := by simp [World.cell?, n1]
 have d2 : W1.cell? ⟨W.heap.size, 1, none⟩ = some (.string x2) := by simp [World.cell?, n1]
 have e1 : W1.cell? ⟨W.heap.size + 1, 0, none⟩ = some (.int .i64 y1) := by simp [World.cell?, n2]
 have e2 : W1.cell? ⟨W.heap.size + 1, 1, none⟩ = some (.string y2) := by simp [World.cell?, n2]
 clear n1 n2
 refine wp_region_still_tail 10 (by kernel_rfl) (by kernel_rfl) ?_
 simp only [List.take_succ_cons, List.take_zero, List.drop_succ_cons, List.drop_zero]
 iterate 4 still_step
 still_call (hi _)
 iterate 4 still_step
 still_call (ht _)
 refine wpStill_nil ?_
 change wpList _ _ _ _ _ W1.drew
 have hEnd : ∃ q os', (W1.alloc (.cells #[.int .i64 r1, .int .i64 r2] 3)).drew = grow (W.drewN q) os' := ⟨1, _, by rw [N3.out, alloc_eq_grow]; show grow (grow (W.drewN 1) _) _ = _; rw [grow_grow]⟩
 have HE := Lib.hid hEnd
 clear hEnd hi ht N3
 go_wp2_with (go_at_call 69; refine (OR.out _ _ (new_cells W1 _ _ 0) (new_cells W1 _ _ 1)).mono ?_; rintro e w' ⟨rfl, rfl⟩)
 refine bodyPost_ret (results_tmp rfl _ _ _) rfl ?_
 exact ⟨rfl, HE.out⟩
end Go.Proofs.YtkihcmcaignmkaaGreat
end
section
namespace Go.Proofs.YtkihcmcaignmkaaGreat
open Go.RowKit Go.Shelf Go.ChangeMaps
set_option linter.unusedVariables false
set_option maxRecDepth 100000 in
theorem values_raw (bm : Nat) (w : World) : Calls Tryz.prog 67 #[.map (some bm)] w fun e w' => e = .returned (.func (.func 84) #[] #[.pointer (some ⟨w.heap.size, 0, none⟩)]) ∧ w' = w.alloc (.cells #[.map (some bm)] 122 (0, 0)) := by
 go_enter Tryz.func67, Tryz.ntmps67
 go_wp2
 refine bodyPost_ret (results_tmp rfl _ _ _) rfl ?_
 exact ⟨rfl, rfl⟩
set_option maxRecDepth 100000 in
theorem collect_raw (Bm bm clock : Nat) (zs : List ZT) (w : World) (hB : w.heap[Bm]? = some (.cells #[.map (some bm)] 122 (0, 0))) (hm : w.heap[bm]? = some (.map (arr zs) clock)) (hn : (zs.map (·.1)).Nodup) (hc : ∀ z ∈ zs, z.1 < clock) (hN : zs.length ≤ 1000000) :
  Calls Tryz.prog 82 #[.func (.func 84) #[] #[.pointer (some ⟨Bm, 0, none⟩)]] w fun e w' => ∃ ys v, ys.Perm (zs.map (·.2.2)) ∧ e = .returned v ∧ w'.ownsRow w.heap.size 89 4 v ys.length (flatVT ys) ∧ Below w.heap.size w w' := by
 have HA := Lib.hid (append_in Bm bm clock zs w hB hm hn hc hN)
 clear hB hm hn hc hN
 go_enter Tryz.func82, Tryz.ntmps82
 go_wp2_with (go_at_call 90; refine HA.out.mono ?_; rintro e w' ⟨ys, v, hp, rfl, hown, hB⟩)
 refine bodyPost_ret (results_tmp rfl _ _ _) rfl ?_
 exact ⟨ys, v, hp, rfl, hown, hB⟩
end Go.Proofs.YtkihcmcaignmkaaGreat
end
section
namespace Go.Proofs.YtkihcmcaignmkaaGreat
open Go.RowKit Go.Shelf Go.ChangeMaps Go.Sort
set_option linter.unusedVariables false
theorem lt_of_cmp (x y : VT) : ltOf cmpV x y = ltV x y := cmpV_lt x y
theorem swo_cmp : SWO (ltOf cmpV) where
 irrefl x := by rw [lt_of_cmp]; exact ltV_irrefl x
 trans x y z h1 h2 := by rw [lt_of_cmp] at *; exact ltV_trans h1 h2
 ntrans x y z h1 h2 := by rw [lt_of_cmp] at *; exact ltV_ntrans h1 h2
theorem cmp_lays (blk off size : Nat) (w : World) : CmpLays Tryz.prog 68 #[] vcells 4 cmpV blk off size w := fun _ _ _ _ x y => closure x y _
def Rise (l : List VT) : Prop := l.Pairwise fun a b => ltV b a = false
theorem rise_of {d' : Array VT} {n : Nat} (hs : d'.size = n) (h : SortedIn (ltOf cmpV) 0 n d') : Rise d'.toList := by
 unfold Rise
 rw [List.pairwise_iff_getElem]
 intro i j hi hj hij
 have hi' : i < d'.size := by simpa using hi
 have hj' : j < d'.size := by simpa using hj
 have := h i j (Nat.zero_le _) hij (by omega)
 rw [lt_of_cmp, getElem!_pos d' j hj', getElem!_pos d' i hi'] at this
 simpa using this
theorem ins_none (p : Option Addr) (cap : Nat) (fv : Value) (w : World) : Calls Tryz.prog 95 #[.slice p 0 cap, .int .i64 0, .int .i64 0, fv] w fun e w' => e = .returned (.tuple #[]) ∧ w' = w := by
 go_enter Tryz.func95, Tryz.ntmps95
 go_wp2
 refine wp_loop_rounds 1 ?_
 rw [rounds_succ]
 go_wp2
 go_end0
 exact ⟨rfl, rfl⟩
set_option maxHeartbeats 1000000 in
theorem pdq_none (p : Option Addr) (cap : Nat) (lim : Int) (fv : Value) (w : World) : Calls Tryz.prog 91 #[.slice p 0 cap, .int .i64 0, .int .i64 0, .int .i64 lim, fv] w fun e w' => e = .returned (.tuple #[]) ∧ w' = w := by
 go_enter Tryz.func91, Tryz.ntmps91
 go_wp2
 refine wp_loop_rounds 1 ?_
 rw [rounds_succ]
 go_wp2_with (go_at_call 95; refine (ins_none _ _ _ _).mono ?_; rintro e w' ⟨rfl, rfl⟩)
 (try simp only [Exit.inBlock, Exit.then]); refine bodyPost_ret (results_none rfl _ _ _) rfl ?_
 exact ⟨rfl, rfl⟩
theorem bits_none (w : World) : Calls Tryz.prog 92 #[.int .u64 0] w fun e w' => e = .returned (.int .i64 (Lib.bitLen 0 : Nat)) ∧ w' = w :=
 Any.bits_Len (SlLaysF0.n15.bits (P := Tryz.prog) (ρ := Tryz.sortSeen_ren) { Tryz.sortSeen with }) 0 w (by omega) (by omega)
set_option maxHeartbeats 1000000 in
theorem sort_none (p : Option Addr) (cap : Nat) (fv : Value) (w : World) : Calls Tryz.prog 83 #[.slice p 0 cap, fv] w fun e w' => e = .returned (.tuple #[]) ∧ w' = w := by
 go_enter Tryz.func83, Tryz.ntmps83
 go_wp2_with (first | (go_at_call 92; refine (bits_none _).mono ?_; rintro e w' ⟨rfl, rfl⟩) | (go_at_call 91; refine (pdq_none _ _ _ _ _).mono ?_; rintro e w' ⟨rfl, rfl⟩))
 go_end0
 exact ⟨rfl, rfl⟩
theorem sort_in (base : Nat) (v : Value) (ys : List VT) (w : World) (hown : w.ownsRow base 89 4 v ys.length (flatVT ys)) (hb : base ≤ w.heap.size) (hN : ys.length ≤ 1000000) :
  Calls Tryz.prog 83 #[v, .func (.func 68) #[] #[]] w fun e w' => e = .returned (.tuple #[]) ∧ ∃ zs : List VT, zs.Perm ys ∧ Rise zs ∧ w'.ownsRow base 89 4 v ys.length (flatVT zs) ∧ Below base w w' := by
 rcases hown.2 with ⟨rfl, h0⟩ | ⟨g, cap, cur, rfl, hg, hcell, h1, h2, h3, h4⟩
 ·have hy : ys = [] := by
   have := hown.1
   cases ys with
   | nil => rfl
   | cons y ys => rw [List.length_cons] at h0; omega
  subst hy
  refine (sort_none none 0 _ w).mono ?_
  rintro e w' ⟨rfl, rfl⟩
  exact ⟨rfl, [], List.Perm.refl _, List.Pairwise.nil, hown, Below.refl _ _⟩
 ·have hglt := (Array.getElem?_eq_some_iff.1 hcell).1
  have hF : (flatK vcells 4 ys.toArray).size = ys.length * 4 := by simp
  have hH : HoldsK vcells 4 w g 0 ys.toArray := holds_blk hcell (by rw [flatK_vt, hF]; exact h4)
  have eg : ∀ args w, (callFunc 68 args).run Tryz.prog w = .ok (.enter 68 args) w := enters_of Tryz.func68 (by kernel_rfl) rfl
  have hl : ys.toArray.size = ys.length := by simp
  have hcon := AnyQ.slices_SortFunc Tryz.sortSeen 4 Tryz.isAgg89 Tryz.sizeOf89 vcells (fun _ => rfl) (fun x v hv => by simp [vcells] at hv; rcases hv with rfl | rfl | rfl | rfl <;> rfl) cmpV swo_cmp 68 #[] g 0 cap ys.toArray w eg (cmp_lays g 0 _ w) hH hglt (by rw [hl]; omega)
  change Calls Tryz.prog 83 _ _ _ at hcon
  rw [hl] at hcon
  refine hcon.mono ?_
  rintro e w' ⟨rfl, d', n, os, hp, hs, rfl⟩
  have hd : d'.toList.toArray = d' := by simp
  have hsz : d'.size = ys.length := by rw [hp.1, hl]
  have hperm : d'.toList.Perm ys := by
   have := hp.2.2
   rw [show d'.extract 0 ys.length = d' by rw [← hsz]; simp, show ys.toArray.extract 0 ys.length = ys.toArray by rw [← hl]; simp] at this
   simpa using this
  refine ⟨rfl, d'.toList, hperm, rise_of hsz hs, ?_, ?_⟩
  ·have := owns_sorted (zs := d'.toList) (ys := ys) (n := n) (os := os) (by simpa using hsz) hg hcell h1 h2 h3
   rwa [hd] at this
  ·exact (Below.refl _ w).grown (grownBy_sorted_id (n := n) (os := os) _) hb (fun k hk => by cases hk; exact hg)
end Go.Proofs.YtkihcmcaignmkaaGreat
end
section
namespace Go.Proofs.YtkihcmcaignmkaaGreat
open Go.Aq
set_option linter.unusedVariables false
theorem zs_of : ∀ (es : List (KT × VT)) (ms : List MapEntry), ms.map (fun e => (e.key, e.val)) = es.map (fun e => (kv e.1, vv e.2)) → ∃ zs : List ZT, zs.map (·.2) = es ∧ zs.map encE = ms ∧ zs.map (·.1) = ms.map (·.born)
 | [], ms, h => by
  have : ms = [] := by simpa using h
  subst this
  exact ⟨[], rfl, rfl, rfl⟩
 | e :: es, ms, h => by
  cases ms with
  | nil => simp at h
  | cons m ms =>
   simp only [List.map_cons, List.cons.injEq, Prod.mk.injEq] at h
   obtain ⟨⟨h1, h2⟩, h3⟩ := h
   obtain ⟨zs, z1, z2, z3⟩ := zs_of es ms h3
   refine ⟨(m.born, e) :: zs, by rw [List.map_cons, z1], ?_, by rw [List.map_cons, z3, List.map_cons]⟩
   rw [List.map_cons, z2]
   congr 1
   cases m
   simp only at h1 h2
   subst h1 h2
   rfl
theorem map_sat_zs {w : World} {b : Nat} {es : List (KT × VT)} (h : MapSat w b true true [.int .i64, .str] [.int .i64, .str, .int .i64, .int .i64] es) :
  ∃ (zs : List ZT) (clock : Nat), zs.map (·.2) = es ∧ w.heap[b]? = some (.map (arr zs) clock) ∧ (zs.map (·.1)).Nodup ∧ (∀ z ∈ zs, z.1 < clock) ∧ (zs.map (·.2.1)).Nodup := by
 obtain ⟨ms, clock, hb, he, hn, hc, hk⟩ := h
 obtain ⟨zs, z1, z2, z3⟩ := zs_of es ms.toList he
 refine ⟨zs, clock, z1, ?_, by rw [z3]; exact hn, fun z hz => ?_, ?_⟩
 ·rw [hb]; unfold arr; rw [z2]
 ·exact hc (encE z) (by rw [← z2]; exact List.mem_map.2 ⟨z, hz, rfl⟩)
 ·have : zs.map (·.2.1) = es.map (·.1) := by rw [← z1, List.map_map]; rfl
  rw [this]; exact hk
theorem map_sat_of {w : World} {b clock : Nat} {zs : List ZT} {es : List (KT × VT)} (he : zs.map (fun z => z.2) = es) (hb : w.heap[b]? = some (.map (arr zs) clock)) (hn : (zs.map (·.1)).Nodup) (hc : ∀ z ∈ zs, z.1 < clock) (hk : (zs.map (·.2.1)).Nodup) :
  MapSat w b true true [.int .i64, .str] [.int .i64, .str, .int .i64, .int .i64] es := by
 refine ⟨arr zs, clock, hb, ?_, ?_, ?_, ?_⟩
 ·have h : (zs.map encE).map (fun e => (e.key, e.val)) = es.map (fun e => (kv e.1, vv e.2)) := by
   rw [← he, List.map_map, List.map_map]
   rfl
  exact h
 ·show (((zs.map encE).toArray.toList).map _).Nodup
  rw [List.map_map]; exact hn
 ·intro e he
  have he : e ∈ zs.map encE := by simpa [arr] using he
  obtain ⟨z, hz, rfl⟩ := List.mem_map.1 he
  exact hc z hz
 ·have h : (es.map fun e => e.1).Nodup := by rw [← he, List.map_map]; exact hk
  exact h
def bumpE (ticks : Int) (e : KT × VT) : Option (KT × VT) := if ticks ≤ (upV e.2).2.2.2 then none else some (e.1, upV e.2)
def tickE (ticks : Int) (es : List (KT × VT)) : List (KT × VT) := es.filterMap (bumpE ticks)
theorem bump_zs (ticks : Int) : ∀ zs : List ZT, (zs.filterMap (bump ticks)).map (·.2) = tickE ticks (zs.map (·.2))
 | [] => rfl
 | z :: zs => by
  have ih := bump_zs ticks zs
  unfold tickE at ih ⊢
  rw [List.map_cons, List.filterMap_cons, List.filterMap_cons]
  unfold bump bumpE at *
  by_cases h : ticks ≤ (upV z.2.2).2.2.2
  ·rw [if_pos h, if_pos h]; exact ih
  ·rw [if_neg h, if_neg h]; simp only [List.map_cons]; rw [ih]
theorem bump_len (ticks : Int) (zs : List ZT) : (zs.filterMap (bump ticks)).length = (tickE ticks (zs.map (·.2))).length := by rw [← bump_zs, List.length_map]
theorem bump_sub (ticks : Int) : ∀ zs : List ZT, ((zs.filterMap (bump ticks)).map (fun z => (z.1, z.2.1))).Sublist (zs.map (fun z => (z.1, z.2.1)))
 | [] => List.Sublist.refl _
 | z :: zs => by
  have ih := bump_sub ticks zs
  rw [List.map_cons, List.filterMap_cons]
  unfold bump at *
  by_cases h : ticks ≤ (upV z.2.2).2.2.2
  ·rw [if_pos h]; exact ih.trans (List.sublist_cons_self _ _)
  ·rw [if_neg h]; simp only [List.map_cons]; exact ih.cons_cons _
abbrev obT : TypeId × Shs := (124, .cons (.leaf (.int .i64)) (.cons (.leaf (.int .i64)) (.one (.map 122 true true [.int .i64, .str] [.int .i64, .str, .int .i64, .int .i64]) [])))
theorem rep_open {w : World} {α : Nat → Value} {Z : Nat → Prop} {room ticks : Int} {es : List (KT × VT)} {F0 : List Nat} (hO : repO w α Z 0 [obT] ((room, ticks, es) : Int × Int × List (KT × VT)) F0) :
  ∃ b0 bm, α 0 = .pointer (some ⟨b0, 0, none⟩) ∧ F0 = [b0, bm] ∧ w.heap[b0]? = some (.cells #[.int .i64 room, .int .i64 ticks, .map (some bm)] 124 (0, 0)) ∧ MapSat w bm true true [.int .i64, .str] [.int .i64, .str, .int .i64, .int .i64] es := by
 obtain ⟨b0, cs, F', ha, h0, ⟨vs1, vs2, F1, F2, rfl, rfl, ⟨rfl, rfl⟩, ⟨vs3, vs4, F3, F4, rfl, rfl, ⟨rfl, rfl⟩, ⟨us, rfl, ⟨bm, rfl, hm, rfl⟩⟩⟩⟩, rfl⟩ := hO
 exact ⟨b0, bm, ha, rfl, h0, hm⟩
theorem rep_shut {w : World} {α : Nat → Value} {Z : Nat → Prop} {room ticks : Int} {es : List (KT × VT)} {b0 bm : Nat} (ha : α 0 = .pointer (some ⟨b0, 0, none⟩)) (h0 : w.heap[b0]? = some (.cells #[.int .i64 room, .int .i64 ticks, .map (some bm)] 124 (0, 0)))
  (hm : MapSat w bm true true [.int .i64, .str] [.int .i64, .str, .int .i64, .int .i64] es) : repO w α Z 0 [obT] ((room, ticks, es) : Int × Int × List (KT × VT)) [b0, bm] :=
 ⟨b0, [.int .i64 room, .int .i64 ticks, .map (some bm)], [bm], ha, h0, ⟨[.int .i64 room], [.int .i64 ticks, .map (some bm)], [], [bm], rfl, rfl, ⟨rfl, rfl⟩, ⟨[.int .i64 ticks], [.map (some bm)], [], [bm], rfl, rfl, ⟨rfl, rfl⟩, ⟨[.map (some bm)], rfl, ⟨bm, rfl, hm, rfl⟩⟩⟩⟩, rfl⟩
namespace F_fdb_Table_Tick
noncomputable def ct : Ct := ⟨.some (.pins [.ref 0]), [(124, .cons (.leaf (.int .i64)) (.cons (.leaf (.int .i64)) (.one (.map 122 true true [.int .i64, .str] [.int .i64, .str, .int .i64, .int .i64]) [])))], [⟨.val (.leaf (.int .i64)), [], []⟩]⟩
noncomputable def S (k : Nat) (g : Int × Int × List (KT × VT)) : O (Int × Int × Int × List (KT × VT)) :=
 .ok (IntKind.i64.wrap ((List.length g.2.2 : Int) - (List.length (tickE g.2.1 g.2.2) : Int)), g.1, g.2.1, tickE g.2.1 g.2.2)
theorem ok (k : Nat) : FnOkC Tryz.prog 37 ct (fun (_ : Unit) (g : Int × Int × List (KT × VT)) => S k g) := by
 intro x g _ w vs α F0 Z hZ hO hnd hA
 obtain ⟨room, ticks, es⟩ := g
 obtain ⟨b0, bm, ha, rfl, h0, hm⟩ := rep_open hO
 obtain ⟨hA, _⟩ := hA
 subst hA
 obtain ⟨zs, clock, rfl, hb, hn, hc, hk⟩ := map_sat_zs hm
 have hne : b0 ≠ bm := fun e => by subst e; rw [h0] at hb; cases hb
 have hraw := tick_raw b0 bm clock room ticks zs w hne h0 hb hn hk hc
 simp only [List.map_cons, List.map_nil, pinD, ha]
 refine hraw.mono ?_
 rintro e w' ⟨rfl, hK, hb'⟩
 have hsub := bump_sub ticks zs
 have hsub1 : ((zs.filterMap (bump ticks)).map (·.1)).Sublist (zs.map (·.1)) := by
  have := hsub.map Prod.fst
  rwa [List.map_map, List.map_map] at this
 have hsub2 : ((zs.filterMap (bump ticks)).map (·.2.1)).Sublist (zs.map (·.2.1)) := by
  have := hsub.map Prod.snd
  rwa [List.map_map, List.map_map] at this
 have hms := map_sat_of (bump_zs ticks zs) hb' (hsub1.nodup hn) (fun z hz => by
  have : z.1 ∈ zs.map (·.1) := hsub1.subset (List.mem_map.2 ⟨z, hz, rfl⟩)
  obtain ⟨y, hy, he⟩ := List.mem_map.1 this
  rw [← he]; exact hc y hy) (hsub2.nodup hk)
 have hlen := bump_len ticks zs
 refine ⟨(IntKind.i64.wrap ((List.length (zs.map (·.2)) : Int) - (List.length (tickE ticks (zs.map (·.2))) : Int)), room, ticks, tickE ticks (zs.map (·.2))), rfl, ⟨hK.os, hK.tape, hK.output, hK.size, fun b hb hF => hK.heap b hb (by simp at hF; exact hF.2)⟩, ?_⟩
 refine ⟨α, [b0, bm], [], fun _ => False, fun _ _ => rfl, rep_shut ha ?_ hms, ⟨_, ⟨rfl, rfl⟩, ?_⟩, by simpa using hnd, fun b hb => .inl (by simpa using hb), fun b hb => hb.elim⟩
 ·rw [hK.heap b0 (Array.getElem?_eq_some_iff.1 h0).1 hne]; exact h0
 ·rw [hlen, wrap_i64, List.length_map]
  rfl
theorem hd {T : Type} (k : Nat) : HdOk Tryz.prog 37 (pureC (T := T) ct [.arg 0 0] (fun (_ : Unit) (g : Int × Int × List (KT × VT)) => S k g)) :=
 pureC_ok rfl [.arg 0 0] (ok k) Tryz.call37
end F_fdb_Table_Tick
end Go.Proofs.YtkihcmcaignmkaaGreat
end
section
namespace Go.Proofs.YtkihcmcaignmkaaGreat
open Go.Aq Go.RowKit Go.Shelf Go.ChangeMaps
set_option linter.unusedVariables false
set_option maxRecDepth 100000 in
theorem sorted_in (Bm bm clock : Nat) (zs : List ZT) (w : World) (hB : w.heap[Bm]? = some (.cells #[.map (some bm)] 122 (0, 0))) (hm : w.heap[bm]? = some (.map (arr zs) clock)) (hn : (zs.map (·.1)).Nodup) (hc : ∀ z ∈ zs, z.1 < clock) (hN : zs.length ≤ 1000000) :
  Calls Tryz.prog 66 #[.func (.func 84) #[] #[.pointer (some ⟨Bm, 0, none⟩)], .func (.func 68) #[] #[]] w fun e w' => ∃ (ys : List VT) (v : Value), ys.Perm (zs.map (·.2.2)) ∧ Rise ys ∧ e = .returned v ∧ w'.ownsRow w.heap.size 89 4 v ys.length (flatVT ys) ∧ Below w.heap.size w w' := by
 have HA := Lib.hid (collect_raw Bm bm clock zs w hB hm hn hc hN)
 have HS := Lib.hid (sort_in w.heap.size)
 have HN := Lib.hid hN
 clear hB hm hn hc hN
 go_enter Tryz.func66, Tryz.ntmps66
 go_wp2_with (first
  | (go_at_call 82; refine HA.out.mono ?_; rintro e w' ⟨ys, v, hp, rfl, hown, hB⟩; have HO := Lib.hid hown; have HB := Lib.hid hB; have HP := Lib.hid hp; clear hown hB hp)
  | (go_at_call 83; refine (HS.out _ _ _ HO.out HB.out.size (by have h1 := HP.out.length_eq; have h2 := HN.out; rw [h1, List.length_map]; exact h2)).mono ?_; rintro e w' ⟨rfl, zs', hp', hr, hown, hB'⟩; have HO' := Lib.hid hown; have HB' := Lib.hid hB'; have HP' := Lib.hid hp'; have HR := Lib.hid hr; clear hown hB' hp' hr))
 refine bodyPost_ret (results_tmp rfl _ _ _) rfl ?_
 exact ⟨zs', _, HP'.out.trans HP.out, HR.out, rfl, by rw [HP'.out.length_eq]; exact HO'.out, HB.out.trans HB'.out⟩
set_option maxRecDepth 100000 in
theorem rows_raw (b0 bm clock : Nat) (room ticks : Int) (zs : List ZT) (w : World) (h0 : w.heap[b0]? = some (.cells #[.int .i64 room, .int .i64 ticks, .map (some bm)] 124 (0, 0)))
  (hm : w.heap[bm]? = some (.map (arr zs) clock)) (hn : (zs.map (·.1)).Nodup) (hc : ∀ z ∈ zs, z.1 < clock) (hN : zs.length ≤ 1000000) :
  Calls Tryz.prog 41 #[.pointer (some ⟨b0, 0, none⟩)] w fun e w' => ∃ (ys : List VT) (v : Value), ys.Perm (zs.map (·.2.2)) ∧ Rise ys ∧ e = .returned v ∧ w'.ownsRow w.heap.size 89 4 v ys.length (flatVT ys) ∧ Below w.heap.size w w' := by
 have c2 : w.cell? ⟨b0, 2, none⟩ = some (.map (some bm)) := cells_at h0 2
 obtain ⟨W0, hW0⟩ : ∃ W0, w.alloc (.cells #[.map (some bm)] 122 (0, 0)) = W0 := ⟨_, rfl⟩
 have hsz : W0.heap.size = w.heap.size + 1 := by rw [← hW0]; simp
 have hB0 : Below w.heap.size w W0 := by rw [← hW0]; exact (Below.refl _ w).alloc (Nat.le_refl _) _
 have hBm : W0.heap[w.heap.size]? = some (.cells #[.map (some bm)] 122 (0, 0)) := by rw [← hW0]; exact (MapKept.heap_alloc w _).1
 have hbm : W0.heap[bm]? = some (.map (arr zs) clock) := (hB0.block _ (Array.getElem?_eq_some_iff.1 hm).1).trans hm
 have HS := Lib.hid (sorted_in w.heap.size bm clock zs W0 hBm hbm hn hc hN)
 have HV := Lib.hid (values_raw bm w)
 rw [hW0] at HV
 have HB := Lib.hid hB0
 have HZ := Lib.hid hsz
 clear h0 hm hn hc hN hW0 hB0 hBm hbm hsz
 go_enter Tryz.func41, Tryz.ntmps41
 go_wp2_with (first
  | (go_at_call 67; refine HV.out.mono ?_; rintro e w' ⟨rfl, rfl⟩)
  | (go_at_call 66; refine HS.out.mono ?_; rintro e w' ⟨ys, v, hp, hr, rfl, hown, hB'⟩; have HO' := Lib.hid hown; have HB' := Lib.hid hB'; have HP' := Lib.hid hp; have HR := Lib.hid hr; clear hown hB' hp hr))
 refine bodyPost_ret (results_tmp rfl _ _ _) rfl ?_
 exact ⟨ys, _, HP'.out, HR.out, rfl, HO'.out.mono (by rw [HZ.out]; omega), HB.out.trans (HB'.out.mono (by rw [HZ.out]; omega))⟩
theorem flat_vt : ∀ ys : List VT, Go.Aq.flat [.int .i64, .str, .int .i64, .int .i64] ys = flatVT ys
 | [] => rfl
 | y :: ys => by
  have e : flatVT (y :: ys) = vcells y ++ flatVT ys := rfl
  rw [e, ← flat_vt ys]
  rfl
theorem rowSat_of {w : World} {base : Nat} {v : Value} {ys : List VT} (h : w.ownsRow base 89 4 v ys.length (flatVT ys)) :
  RowSat w v true 89 [.int .i64, .str, .int .i64, .int .i64] ys ∧ ∀ b ∈ rowMine true v, base ≤ b := by
 rcases h.2 with ⟨rfl, h0⟩ | ⟨g, cap, cur, rfl, hg, hcell, h1, h2, h3, h4⟩
 ·have hy : ys = [] := by
   have := h.1
   cases ys with
   | nil => rfl
   | cons y ys => rw [List.length_cons] at h0; omega
  subst hy
  exact ⟨.inl ⟨rfl, rfl⟩, fun b hb => by simp [rowMine] at hb⟩
 ·refine ⟨.inr ⟨⟨g, 0, none⟩, cap, rfl, h1, (fun h => by cases h), fun _ => ⟨rfl, rfl, h2, cur, (0, 0), hcell, h3, ?_, by rw [flat_vt]; exact h4⟩⟩, fun b hb => by simp only [rowMine, List.mem_singleton] at hb; omega⟩
  exact fun i _ h => by simp at h
def rowsOk (es : List (KT × VT)) : Bool := decide (es.length ≤ 1000000) && decide ((es.map fun e => keyV e.2).Nodup)
theorem rise_up {ys zs : List VT} (hr : Rise ys) (hp : ys.Perm zs) (hn : (zs.map keyV).Nodup) : isort zs = ys := by
 refine isort_is hp ?_
 have hn' : (ys.map keyV).Nodup := (hp.map keyV).nodup_iff.2 hn
 unfold List.Nodup at hn'
 rw [List.pairwise_map] at hn'
 unfold Up
 unfold Rise at hr
 refine (List.Pairwise.and hr hn').imp ?_
 intro a b h
 cases e : ltV a b with
 | true => rfl
 | false => exact absurd (ltV_total e h.1) h.2
namespace F_fdb_Table_Rows
noncomputable def ct : Ct := ⟨.some (.pins [.ref 0]), [(124, .cons (.leaf (.int .i64)) (.cons (.leaf (.int .i64)) (.one (.map 122 true true [.int .i64, .str] [.int .i64, .str, .int .i64, .int .i64]) [])))], [⟨.val (.row true 89 [.int .i64, .str, .int .i64, .int .i64]), [], []⟩]⟩
noncomputable def S (k : Nat) (g : Int × Int × List (KT × VT)) : O ((List VT) × Int × Int × List (KT × VT)) :=
 O.chk (rowsOk g.2.2) (.ok (isort (g.2.2.map (·.2)), g))
theorem ok (k : Nat) : FnOkC Tryz.prog 41 ct (fun (_ : Unit) (g : Int × Int × List (KT × VT)) => S k g) := by
 intro x g hne w vs α F0 Z hZ hO hnd hA
 obtain ⟨room, ticks, es⟩ := g
 obtain ⟨hok, _⟩ := O.chk_ne (res := S k (room, ticks, es)) rfl hne
 obtain ⟨b0, bm, ha, rfl, h0, hm⟩ := rep_open hO
 obtain ⟨hA, _⟩ := hA
 subst hA
 have hm' := hm
 obtain ⟨zs, clock, rfl, hb, hn, hc, hk⟩ := map_sat_zs hm
 have hok' : zs.length ≤ 1000000 ∧ ((zs.map (·.2.2)).map keyV).Nodup := by
  unfold rowsOk at hok
  rw [Bool.and_eq_true, decide_eq_true_eq, decide_eq_true_eq] at hok
  refine ⟨by simpa using hok.1, ?_⟩
  have := hok.2
  rw [List.map_map] at this
  rw [List.map_map]
  exact this
 have hraw := rows_raw b0 bm clock room ticks zs w h0 hb hn hc hok'.1
 simp only [List.map_cons, List.map_nil, pinD, ha]
 refine hraw.mono ?_
 rintro e w' ⟨ys, v, hp, hr, rfl, hown, hB⟩
 have hys : isort (zs.map (·.2.2)) = ys := rise_up hr hp hok'.2
 have hys' : isort ((zs.map (·.2)).map (·.2)) = ys := by rw [List.map_map]; exact hys
 have hb0 := (Array.getElem?_eq_some_iff.1 h0).1
 have hbm := (Array.getElem?_eq_some_iff.1 hb).1
 obtain ⟨hrow, hge⟩ := rowSat_of hown
 refine ⟨(ys, room, ticks, zs.map (·.2)), ?_, ⟨hB.os, hB.tape, hB.output, hB.size, fun b hb _ => hB.block b hb⟩, ?_⟩
 ·unfold S
  rw [hok]
  rw [O.chk_true]
  exact congrArg (fun y => O.ok (y, room, ticks, zs.map (·.2))) hys'
 ·refine ⟨α, [b0, bm], rowMine true v, fun _ => False, fun _ _ => rfl, rep_shut ha ((hB.block b0 hb0).trans h0) ?_, ⟨[v], ⟨v, rfl, by simp, hrow, rfl, fun b hb => (by cases hb)⟩, rfl⟩, ?_, ?_, fun b hb => hb.elim⟩
  ·obtain ⟨ms, clock, hbb, r⟩ := hm'
   exact ⟨ms, clock, (hB.block bm hbm).trans hbb, r⟩
  ·rw [List.nodup_append]
   refine ⟨hnd, ?_, fun a ha b hb => ?_⟩
   ·unfold rowMine
    split
    ·split <;> simp
    ·simp
   ·have := hge b hb
    simp at ha
    rcases ha with rfl | rfl <;> omega
  ·intro b hb
   rcases List.mem_append.1 hb with hb | hb
   ·exact .inl hb
   ·exact .inr (hge b hb)
theorem hd {T : Type} (k : Nat) : HdOk Tryz.prog 41 (pureC (T := T) ct [.arg 0 0] (fun (_ : Unit) (g : Int × Int × List (KT × VT)) => S k g)) :=
 pureC_ok rfl [.arg 0 0] (ok k) Tryz.call41
end F_fdb_Table_Rows
end Go.Proofs.YtkihcmcaignmkaaGreat
end
section
namespace Go.Proofs.YtkihcmcaignmkaaGreat
open Go.Aq Go.RowKit
set_option linter.unusedVariables false
set_option maxRecDepth 100000 in
set_option maxHeartbeats 2000000 in
theorem clone_raw (b : Nat) (es : Array MapEntry) (clock : Nat) (w : World) (hb : w.heap[b]? = some (.map es clock)) :
  Calls Tryz.prog 65 #[.map (some b)] w fun e w' => e = .returned (.map (some w.heap.size)) ∧ w' = w.alloc (.map es clock) := by
 have hq := fun w => run_eql_map_nil_sl (P := Tryz.prog) w 122 _ _ (some b) u54
 go_enter Tryz.func65, Tryz.ntmps65
 go_wp2
 rw [run_callFunc_extern Tryz.func81 (by kernel_rfl) (by kernel_rfl) (by kernel_rfl) (e := Extern.MapsClone.clone) (by kernel_rfl), run_maps_clone_sl w 122 hb]
 simp only [Result.andThen]
 rw [Oper.upon_value]
 go_wp2
 rw [run_typeAssert_map_sl _ 122 20 _ _ _ u54]
 simp only [Result.andThen]
 rw [Oper.upon_value]
 go_wp2
 go_ret
 exact ⟨rfl, rfl⟩
namespace F_maps_Clone
noncomputable def h {T : Type} : Hd T := fun args _ st K _ => match args with
 | [.mp j] => match lkp j st.H with
  | some (.map t ka va kl vl es) => K (.mp st.nx) (st.add (.map t ka va kl vl es))
  | _ => .no
 | _ => .no
theorem hd {T : Type} (k : Nat) : HdOk Tryz.prog 65 (h (T := T)) := by
 intro args sl st K Kp hne
 refine ⟨Tryz.call65, fun S w0 ν w hR hb => ?_⟩
 unfold h at hne ⊢
 split at hne
 ·rename_i j
  split at hne
  ·rename_i t ka va kl vl es hj
   obtain ⟨b, hb', ms, clock, hms, h2, h3, h4, h5⟩ := hR.sat _ _ hj
   have hden : denL ν [.mp j] = [.map (some b)] := by simp only [denL, den, hb']; rfl
   rw [hden]
   refine (clone_raw b ms clock w hms).mono ?_
   rintro e w' ⟨rfl, rfl⟩
   have hfr := hR.fresh (.map ms clock) (.map (some w.heap.size)) (.map t ka va kl vl es) rfl ⟨w.heap.size, upd_new, ms, clock, (MapKept.heap_alloc w _).1, h2, h3, h4, h5⟩ (fun c hc => by simpa [mineL, upd_new, blk] using hc) (by simp [mineL]) rfl
   refine ⟨_, _, .mp st.nx, hfr, Step.add _ _ _ _ _ _, ?_, by simp [svLt, St.add], ?_⟩
   ·simp [den, upd, mpV]
   ·rfl
  ·exact absurd rfl hne
 ·exact absurd rfl hne
end F_maps_Clone
end Go.Proofs.YtkihcmcaignmkaaGreat
end
section

end
