/- Texts of this proof, joined (5 of them): BH15p, BH15i, BH15h, BH15c, BHQ.
   Conditions: none but those that stand at each theorem. -/
import Derived.Shelf.SlIterI.Nil
import Derived.Shelf.SortM.Plain
import Derived.Shelf.SortM.SortNone
import Derived.Ground.GgzProg
import Derived.Ground.SlgmProg
import Derived.Test.YtpfddjdkafjjfaaProg
import Derived.Sort.WalkA
import Derived.WalkKit
import Derived.OwnWalk
import Derived.LoopN
import Derived.Lib.Hide
import Derived.Test.YtpfddjdkafjjfaaBM1
import Derived.Shelf.AbstractIn
import Derived.OwnWalkIn
import Derived.TacticsInMore
import Derived.Deep.Onto
import Derived.Shelf.SlMaps.Clone
import Derived.Test.YtpfddjdkafjjfaaBM3
section
namespace Go.Proofs
open Go.Shelf
def Try.heldKeys_ren : Go.Shelf.Ren := ⟨fun | 7 => 36 | 10 => 64 | n => n, fun | 23 => 93 | 26 => 3 | 3 => 3 | 28 => 98 | 0 => 0 | 27 => 97 | 33 => 135 | 4 => 4 | n => n, fun | n => n⟩
theorem Try.heldKeys : Go.Proofs.SlLaysZI.n7 Try.prog Try.heldKeys_ren := {
 mixed := by kernel_rfl
 f7 := ⟨Try.f36.name, by decide, Try.func36.trans (congrArg some (by kernel_rfl))⟩
 f10 := ⟨Try.f64.name, by decide, Try.func64.trans (congrArg some (by kernel_rfl))⟩
 t0 := Try.underlying0
 a0 := Try.isAgg0
 z0 := Try.sizeOf0
 v0 := Try.zeroValue0
 t4 := Try.underlying4
 a4 := Try.isAgg4
 z4 := Try.sizeOf4
 v4 := Try.zeroValue4
 t23 := Try.underlying93
 a23 := Try.isAgg93
 z23 := Try.sizeOf93
 v23 := Try.zeroValue93
 t26 := Try.underlying3
 a26 := Try.isAgg3
 z26 := Try.sizeOf3
 v26 := Try.zeroValue3
 t27 := Try.underlying97
 a27 := Try.isAgg97
 z27 := Try.sizeOf97
 v27 := Try.zeroValue97
 t28 := Try.underlying98
 a28 := Try.isAgg98
 z28 := Try.sizeOf98
 v28 := Try.zeroValue98
 t33 := Try.underlying135
 a33 := Try.isAgg135
 z33 := Try.sizeOf135
 v33 := Try.zeroValue135 }
def Try.heldSorted_ren : Go.Shelf.Ren := ⟨fun | 6 => 35 | 8 => 62 | 9 => 63 | 11 => 82 | 13 => 84 | 12 => 83 | 23 => 101 | 24 => 102 | 14 => 92 | 15 => 93 | 16 => 94 | 17 => 95 | 18 => 96 | 19 => 97 | 20 => 98 | 21 => 99 | 22 => 100 | 25 => 105 | 26 => 106 | 27 => 107 | 28 => 108 | 29 => 109 | 30 => 110 | 31 => 111 | n => n, fun | 26 => 3 | 28 => 98 | 24 => 39 | 0 => 0 | 3 => 3 | 37 => 143 | 48 => 108 | 50 => 103 | 4 => 4 | 40 => 171 | 39 => 170 | 45 => 114 | 5 => 5 | 9 => 9 | 51 => 181 | 55 => 185 | 57 => 187 | 58 => 188 | 33 => 135 | n => n, fun | n => n⟩
theorem Try.heldSorted : Go.Proofs.SlLaysZI.n6 Try.prog Try.heldSorted_ren := {
 mixed := by kernel_rfl
 f6 := ⟨Try.f35.name, by decide, Try.func35.trans (congrArg some (by kernel_rfl))⟩
 f8 := ⟨Try.f62.name, by decide, Try.func62.trans (congrArg some (by kernel_rfl))⟩
 f11 := ⟨Try.f82.name, by decide, Try.func82.trans (congrArg some (by kernel_rfl))⟩
 t0 := Try.underlying0
 a0 := Try.isAgg0
 z0 := Try.sizeOf0
 v0 := Try.zeroValue0
 t24 := Try.underlying39
 a24 := Try.isAgg39
 z24 := Try.sizeOf39
 v24 := Try.zeroValue39
 t26 := Try.underlying3
 a26 := Try.isAgg3
 z26 := Try.sizeOf3
 v26 := Try.zeroValue3
 t28 := Try.underlying98
 a28 := Try.isAgg98
 z28 := Try.sizeOf98
 v28 := Try.zeroValue98
 i26 := by kernel_rfl }
def Try.heldSort_ren : Go.Shelf.Ren := ⟨fun | 5 => 63 | 8 => 84 | 7 => 83 | 19 => 101 | 20 => 102 | 10 => 92 | 11 => 93 | 12 => 94 | 13 => 95 | 14 => 96 | 15 => 97 | 16 => 98 | 17 => 99 | 18 => 100 | 30 => 105 | 31 => 106 | 32 => 107 | 33 => 108 | 34 => 109 | 35 => 110 | 40 => 111 | n => n, fun | 23 => 39 | 25 => 3 | 3 => 3 | 32 => 143 | 22 => 39 | 0 => 0 | 44 => 108 | 46 => 103 | 4 => 4 | 36 => 171 | 35 => 170 | 41 => 114 | 5 => 5 | 9 => 9 | 53 => 181 | 57 => 185 | 63 => 187 | 64 => 188 | n => n, fun | n => n⟩
theorem Try.heldSort : Go.Proofs.SlLaysM.n5 Try.prog Try.heldSort_ren := {
 mixed := by kernel_rfl
 f5 := ⟨Try.f63.name, by decide, Try.func63.trans (congrArg some (by kernel_rfl))⟩
 f7 := ⟨Try.f83.name, by decide, Try.func83.trans (congrArg some (by kernel_rfl))⟩
 f8 := Try.func84.trans (congrArg some (by kernel_rfl))
 f10 := ⟨Try.f92.name, by decide, Try.func92.trans (congrArg some (by kernel_rfl))⟩
 f11 := ⟨Try.f93.name, by decide, Try.func93.trans (congrArg some (by kernel_rfl))⟩
 f12 := ⟨Try.f94.name, by decide, Try.func94.trans (congrArg some (by kernel_rfl))⟩
 f13 := ⟨Try.f95.name, by decide, Try.func95.trans (congrArg some (by kernel_rfl))⟩
 f14 := ⟨Try.f96.name, by decide, Try.func96.trans (congrArg some (by kernel_rfl))⟩
 f15 := ⟨Try.f97.name, by decide, Try.func97.trans (congrArg some (by kernel_rfl))⟩
 f16 := ⟨Try.f98.name, by decide, Try.func98.trans (congrArg some (by kernel_rfl))⟩
 f17 := ⟨Try.f99.name, by decide, Try.func99.trans (congrArg some (by kernel_rfl))⟩
 f18 := ⟨Try.f100.name, by decide, Try.func100.trans (congrArg some (by kernel_rfl))⟩
 f19 := Try.func101.trans (congrArg some (by kernel_rfl))
 f20 := Try.func102.trans (congrArg some (by kernel_rfl))
 f30 := ⟨Try.f105.name, by decide, Try.func105.trans (congrArg some (by kernel_rfl))⟩
 f31 := Try.func106.trans (congrArg some (by kernel_rfl))
 f32 := Try.func107.trans (congrArg some (by kernel_rfl))
 f33 := ⟨Try.f108.name, by decide, Try.func108.trans (congrArg some (by kernel_rfl))⟩
 f34 := ⟨Try.f109.name, by decide, Try.func109.trans (congrArg some (by kernel_rfl))⟩
 f35 := ⟨Try.f110.name, by decide, Try.func110.trans (congrArg some (by kernel_rfl))⟩
 f40 := ⟨Try.f111.name, by decide, Try.func111.trans (congrArg some (by kernel_rfl))⟩
 t0 := Try.underlying0
 a0 := Try.isAgg0
 z0 := Try.sizeOf0
 v0 := Try.zeroValue0
 t3 := Try.underlying3
 a3 := Try.isAgg3
 z3 := Try.sizeOf3
 v3 := Try.zeroValue3
 t4 := Try.underlying4
 a4 := Try.isAgg4
 z4 := Try.sizeOf4
 v4 := Try.zeroValue4
 t5 := Try.underlying5
 a5 := Try.isAgg5
 z5 := Try.sizeOf5
 v5 := Try.zeroValue5
 t9 := Try.underlying9
 a9 := Try.isAgg9
 z9 := Try.sizeOf9
 v9 := Try.zeroValue9
 t22 := Try.underlying39
 a22 := Try.isAgg39
 z22 := Try.sizeOf39
 v22 := Try.zeroValue39
 t23 := Try.underlying39
 a23 := Try.isAgg39
 z23 := Try.sizeOf39
 v23 := Try.zeroValue39
 t25 := Try.underlying3
 a25 := Try.isAgg3
 z25 := Try.sizeOf3
 v25 := Try.zeroValue3
 t32 := Try.underlying143
 a32 := Try.isAgg143
 z32 := Try.sizeOf143
 v32 := Try.zeroValue143
 t35 := Try.underlying170
 a35 := Try.isAgg170
 z35 := Try.sizeOf170
 v35 := Try.zeroValue170
 t36 := Try.underlying171
 a36 := Try.isAgg171
 z36 := Try.sizeOf171
 v36 := Try.zeroValue171
 t41 := Try.underlying114
 a41 := Try.isAgg114
 z41 := Try.sizeOf114
 v41 := Try.zeroValue114
 t44 := Try.underlying108
 a44 := Try.isAgg108
 z44 := Try.sizeOf108
 v44 := Try.zeroValue108
 t46 := Try.underlying103
 a46 := Try.isAgg103
 z46 := Try.sizeOf103
 v46 := Try.zeroValue103
 t53 := Try.underlying181
 a53 := Try.isAgg181
 z53 := Try.sizeOf181
 v53 := Try.zeroValue181
 t57 := Try.underlying185
 a57 := Try.isAgg185
 z57 := Try.sizeOf185
 v57 := Try.zeroValue185
 t63 := Try.underlying187
 a63 := Try.isAgg187
 z63 := Try.sizeOf187
 v63 := Try.zeroValue187
 t64 := Try.underlying188
 a64 := Try.isAgg188
 z64 := Try.sizeOf188
 v64 := Try.zeroValue188 }
end Go.Proofs
end
section
namespace Go.Proofs.Ytpfddjdkafjjfaa
open Go.Aq Go.RowKit Go.Sort
set_option linter.unusedVariables false
theorem nodup_sub : ∀ (l l' : List Int), l.Nodup → (∀ x ∈ l, x ∈ l') → l.length ≤ l'.length
 | [], _, _, _ => Nat.zero_le _
 | x :: l, l', hn, h => by
  rw [List.nodup_cons] at hn
  have hx := h x (by simp)
  have ih := nodup_sub l (l'.erase x) hn.2 fun y hy => (List.mem_erase_of_ne (fun e => hn.1 (by rw [← e]; exact hy))).2 (h y (by simp [hy]))
  rw [List.length_erase, if_pos hx] at ih
  have := List.length_pos_of_mem hx
  simp; omega
abbrev EI := List (Int × Int)
theorem has_mem {es : EI} {k : Int} (h : mhas es k = true) : k ∈ es.map (·.1) := by
 unfold mhas at h
 rw [List.any_eq_true] at h
 obtain ⟨e, he, h⟩ := h
 exact List.mem_map.2 ⟨e, he, by simpa using h⟩
theorem held_le (es : EI) (k : Nat) (h : ∀ m, m < k → mhas es (m : Int) = true) : k ≤ es.length := by
 have := nodup_sub ((List.range k).map fun m : Nat => (m : Int)) (es.map (·.1)) (by
  unfold List.Nodup
  rw [List.pairwise_map]
  exact List.Pairwise.imp (fun {a b} h e => h (by omega)) (List.nodup_range (n := k))) (by
  intro x hx
  obtain ⟨m, hm, rfl⟩ := List.mem_map.1 hx
  exact has_mem (h m (by simpa using hm)))
 simpa using this
def lf (es : EI) : Nat → Nat → Nat
 | 0, n => n
 | f + 1, n => if mhas es (n : Int) = true then lf es f (n + 1) else n
def leastN (es : EI) : Nat := lf es (es.length + 1) 0
theorem lf_spec (es : EI) : ∀ (f n : Nat), n + f = es.length + 1 → (∀ m, m < n → mhas es (m : Int) = true) → (∀ m, m < lf es f n → mhas es (m : Int) = true) ∧ mhas es ((lf es f n : Nat) : Int) = false
 | 0, n, hf, h => by
  exact absurd (held_le es n h) (by omega)
 | f + 1, n, hf, h => by
  unfold lf
  by_cases hn : mhas es (n : Int) = true
  ·rw [if_pos hn]
   refine lf_spec es f (n + 1) (by omega) fun m hm => ?_
   by_cases h' : m < n
   ·exact h m h'
   ·obtain rfl : m = n := by omega
    exact hn
  ·rw [if_neg hn]
   exact ⟨h, by simpa using hn⟩
theorem least_spec (es : EI) : (∀ m, m < leastN es → mhas es (m : Int) = true) ∧ mhas es ((leastN es : Nat) : Int) = false := lf_spec es (es.length + 1) 0 (by omega) (fun m h => by omega)
theorem least_is {es : EI} {k : Nat} (h : ∀ m, m < k → mhas es (m : Int) = true) (hk : mhas es (k : Int) = false) : leastN es = k := by
 have s := least_spec es
 by_cases h1 : leastN es < k
 ·rw [h _ h1] at s; cases s.2
 ·by_cases h2 : k < leastN es
  ·rw [s.1 k h2] at hk; cases hk
  ·omega
set_option maxRecDepth 100000 in
theorem id_raw (b0 bm : Nat) (es : EI) (w : World) (c13 : w.cell? ⟨b0, 13, none⟩ = some (.map (some bm))) (hm : MapSat w bm false false [.int .i64] [.int .i64] es) (hl : es.length ≤ 1000000) :
  Calls Try.prog 38 #[.pointer (some ⟨b0, 0, none⟩)] w fun e w' => e = .returned (.int .i64 ((leastN es : Nat) : Int)) ∧ w' = w := by
 have hlk : ∀ n : Int, (Instr.lookup 93 (.map (some bm)) (.int .i64 n) true).run Try.prog w = .ok (.tuple #[.int .i64 (mget (0 : Int) es n), .bool (mhas es n)]) w := fun n =>
  lookup_run (t := 93) (ka := false) (va := false) (kl := [.int .i64]) (vl := [.int .i64]) tab_ok (by kernel_rfl) hm n true
 clear hm
 have HL := Lib.hid hlk
 clear hlk
 go_enter Try.func38, Try.ntmps38
 go_wp2
 go_loop [3] (fun i => ∃ k : Nat, i = .int .i64 k ∧ k ≤ es.length ∧ ∀ m, m < k → mhas es (m : Int) = true) (fun i => es.length - (intOf i).toNat)
 case atStart => exact ⟨0, rfl, by omega, fun m h => by omega⟩
 case round =>
  obtain ⟨k, rfl, hk, hall⟩ := hrel
  have hlk := HL.out (k : Int)
  cases hh : mhas es (k : Int) with
  | true =>
   rw [hh] at hlk
   have hk1 : k + 1 ≤ es.length := held_le es (k + 1) fun m hm => by
    by_cases h' : m < k
    ·exact hall m h'
    ·obtain rfl : m = k := by omega
     exact hh
   have HA := Lib.hid hall
   have HH := Lib.hid hh
   clear hall hh
   go_wp2
   refine ⟨⟨k + 1, ?_, hk1, fun m hm => ?_⟩, ?_⟩
   ·show Value.int .i64 ((k : Int) + 1) = _
    rw [Int.natCast_add]; rfl
   ·by_cases h' : m < k
    ·exact HA.out m h'
    ·obtain rfl : m = k := by omega
     exact HH.out
   ·show es.length - ((k : Int) + 1).toNat < es.length - ((k : Int)).toNat
    omega
  | false =>
   rw [hh] at hlk
   have hr := least_is hall hh
   have HR := Lib.hid hr
   clear hall hh hr
   go_wp2
   refine bodyPost_ret (results_tmp rfl _ _ _) rfl ?_
   refine ⟨?_, rfl⟩
   show Ending.returned (Value.int .i64 (k : Int)) = _
   rw [HR.out]
namespace F_drvq_Queue_id
noncomputable def h {T : Type} : Hd T := fun args _ st K _ => match args with
 | [.ptr j 0] => match lkp j st.H with
  | some (.cells _ [_, _, _, _, _, _, _, _, _, _, _, _, _, .mp m]) => match lkp m st.H with
   | some (.map _ false false [.int .i64] [.int .i64] es) => O.chk (decide (List.length es ≤ 1000000)) (K (.int .i64 ((leastN es : Nat) : Int)) st)
   | _ => .no
  | _ => .no
 | _ => .no
theorem hd {T : Type} (k : Nat) : HdOk Try.prog 38 (h (T := T)) := by
 intro args sl st K Kp hne
 refine ⟨Try.call38, fun S w0 ν w hR hb => ?_⟩
 unfold h at hne ⊢
 split at hne
 ·rename_i j
  split at hne
  ·rename_i t x0 x1 x2 x3 x4 x5 x6 x7 x8 x9 x10 x11 x12 m hj
   split at hne
   ·rename_i t' es hm
    have hj' := hj
    obtain ⟨b0, hb0, hc⟩ := hR.sat _ _ hj
    obtain ⟨bm, hbm, hs⟩ := hR.sat _ _ hm
    obtain ⟨hok, _⟩ := O.chk_ne rfl hne
    have hl : List.length es ≤ 1000000 := of_decide_eq_true hok
    have hden : denL ν [.ptr j 0] = [.pointer (some ⟨b0, 0, none⟩)] := by simp only [denL, den, hb0]; rfl
    rw [hden]
    have c13 : w.cell? ⟨b0, 13, none⟩ = some (.map (some bm)) := by
     unfold World.cell?
     rw [hc]
     simp [denL, den, hbm, mpV]
    refine (id_raw b0 bm es w c13 hs hl).mono ?_
    rintro e w' ⟨rfl, rfl⟩
    refine ⟨ν, st, .int .i64 ((leastN es : Nat) : Int), hR, Step.refl _ _ _, rfl, rfl, ?_⟩
    rw [hok, O.chk_true]
   ·exact absurd rfl hne
  ·exact absurd rfl hne
 ·exact absurd rfl hne
end F_drvq_Queue_id
end Go.Proofs.Ytpfddjdkafjjfaa
end
section
namespace Go.Proofs.Ytpfddjdkafjjfaa
open Go.RowKit Go.Maps Go.Sort Go.Shelf
set_option linter.unusedVariables false
theorem held_sorts (m : Nat) : AnyZI.SortsIn Try.prog Try.heldSorted_ren Fence.wide m :=
  ⟨fun blk off cap ss W hH hblk hsz => callsIn_wide.2 (AnyM.slices_Sort_int Try.heldSort blk off cap ss W hH hblk hsz),
   fun p cap W => callsIn_wide.2 (AnyM.slices_Sort_int_none Try.heldSort p cap W)⟩
set_option maxRecDepth 100000 in
set_option maxHeartbeats 1000000 in
theorem held_kit (b0 b nn : Nat) (D0 : DataW Unit) (R : Value → Option (DataW Unit × List MemPlace)) (w : World) (c13 : w.cell? ⟨b0, 13, none⟩ = some (.map (some b))) (hown : w.ownsMap Try.prog 3 R b nn D0) (hmax : Maps.size D0 ≤ maxLen) (hbytes : Maps.size D0 * 8 ≤ 140737488355328) :
  Calls Try.prog 10 #[.pointer (some ⟨b0, 0, none⟩)] w fun e w' => ∃ (v : Value) (ss : List Int), e = .returned v ∧ ss.Perm (intKeys D0) ∧
   w'.ownsRow w.heap.size 3 1 v ss.length ((ss.mergeSort (fun x y => decide (x ≤ y))).map encZ) ∧ Below w.heap.size w w' := by
 refine (callsIn_wide (n := 6)).1 ?_
 have hbl := hown.lt
 have hseq : SeqGives Fence.wide 2 Try.prog 64 #[.pointer (some ⟨w.heap.size, 0, none⟩)] encZ (fun ss => ss.Perm (intKeys D0)) (Maps.size D0) (w.alloc (.cells #[.map (some b)] 93)) :=
  AnyZI.keys_gives (ρ := Try.heldKeys_ren) { Try.heldKeys with } Fence.wide _ trivial rfl (by omega) w.heap.size b nn D0 _ (by simp) (by simp) (by
   obtain ⟨es, clock, hb, Ft, hs, hD⟩ := hown
   exact ⟨es, clock, (Below.heap_alloc _ _ b hbl).trans hb, Ft, hs, hD⟩)
 have cK : ∀ mb W, CallsIn Fence.wide 5 Try.prog 36 #[.map mb] W fun e w' => e = .returned (.func (.func 64) #[] #[.pointer (some ⟨W.heap.size, 0, none⟩)]) ∧ w' = W.alloc (.cells #[.map mb] 93) := fun mb W => AnyZI.keys_in Try.heldKeys Fence.wide 5 trivial rfl mb W
 have cS := AnyZI.sorted_in Try.heldSorted Fence.wide 5 trivial trivial trivial trivial rfl (by omega) (held_sorts _) (enters_of Try.func63 (by kernel_rfl) rfl) 64 #[.pointer (some ⟨w.heap.size, 0, none⟩)] trivial (enters_of Try.func64 (by kernel_rfl) rfl) _ _ hmax hbytes _ hseq
 change CallsIn _ _ Try.prog 35 _ _ _ at cS
 have hfK : Fence.wide.fn 36 := trivial
 have hfS : Fence.wide.fn 35 := trivial
 clear hseq hown
 refine callsIn_of_wp Try.func10 rfl trivial ?_ rfl
 simp only [Try.ntmps10, List.size_toArray, List.length_cons, List.length_nil, Nat.reduceAdd, Nat.reduceSub, Array.replicate_succ, Array.replicate_zero, List.push_toArray, List.append_toArray, List.nil_append, List.cons_append]
 gi_wp2_with (first
  | (gi_at_call 36; refine (cK _ _).mono ?_; rintro e w' ⟨rfl, rfl⟩)
  | (gi_at_call 35; refine cS.mono ?_; rintro e w' ⟨v, ss, rfl, hS, hrow, hnil, hb⟩))
 go_ret
 exact ⟨v, ss, rfl, hS, hrow.mono (by simp), ((Below.refl _ w).alloc (Nat.le_refl _) _).trans (hb.mono (by simp))⟩
open Go.Aq
theorem ins_perm_w {H : Type} (x : Lit × DataW H) : ∀ l, (DataW.insert x l).Perm (x :: l)
 | [] => List.Perm.refl _
 | y :: r => by
  unfold DataW.insert
  split
  ·exact List.Perm.refl _
  ·exact ((ins_perm_w x r).cons y).trans (List.Perm.swap x y r)
theorem foldr_perm_w {H : Type} : ∀ l : List (Lit × DataW H), (l.foldr DataW.insert []).Perm l
 | [] => List.Perm.refl _
 | x :: l => (ins_perm_w x _).trans ((foldr_perm_w l).cons x)
def unitR : Value → Option (DataW Unit × List MemPlace) := fun _ => some (.nil, [])
theorem u3 : Try.prog.underlying 3 = some (.int .i64) := by kernel_rfl
def heldOk (es : EI) : Bool := decide (es.length ≤ 1000000) && es.all fun e => (Lit.int .i64 e.1).wf
def insI (x : Int) : List Int → List Int
 | [] => [x]
 | y :: r => if x ≤ y then x :: y :: r else y :: insI x r
def sortI : List Int → List Int
 | [] => []
 | x :: r => insI x (sortI r)
def heldL (es : EI) : List Int := sortI (es.map (·.1))
theorem insI_perm (x : Int) : ∀ l, (insI x l).Perm (x :: l)
 | [] => List.Perm.refl _
 | y :: r => by
  unfold insI
  split
  ·exact List.Perm.refl _
  ·exact ((insI_perm x r).cons y).trans (List.Perm.swap x y r)
theorem sortI_perm : ∀ l, (sortI l).Perm l
 | [] => List.Perm.refl _
 | x :: r => (insI_perm x (sortI r)).trans ((sortI_perm r).cons x)
theorem insI_up (x : Int) : ∀ l : List Int, l.Pairwise (· ≤ ·) → (insI x l).Pairwise (· ≤ ·)
 | [], _ => List.pairwise_singleton _ _
 | y :: r, h => by
  unfold insI
  obtain ⟨h1, h2⟩ := List.pairwise_cons.1 h
  split
  ·rename_i hle
   refine List.pairwise_cons.2 ⟨fun z hz => ?_, h⟩
   rcases List.mem_cons.1 hz with rfl | hz
   ·exact hle
   ·exact Int.le_trans hle (h1 z hz)
  ·rename_i hle
   refine List.pairwise_cons.2 ⟨fun z hz => ?_, insI_up x r h2⟩
   rcases List.mem_cons.1 ((insI_perm x r).mem_iff.1 hz) with rfl | hz
   ·omega
   ·exact h1 z hz
theorem sortI_up : ∀ l : List Int, (sortI l).Pairwise (· ≤ ·)
 | [] => List.Pairwise.nil
 | x :: r => insI_up x _ (sortI_up r)
theorem sortI_eq (l : List Int) : l.mergeSort (fun x y => decide (x ≤ y)) = sortI l := by
 refine List.Perm.eq_of_pairwise (le := fun a b => a ≤ b) (fun a b _ _ h1 h2 => Int.le_antisymm h1 h2) ?_ (sortI_up l) ((List.mergeSort_perm l _).trans (sortI_perm l).symm)
 have := List.pairwise_mergeSort (le := fun x y : Int => decide (x ≤ y)) (fun a b c h1 h2 => by simp only [decide_eq_true_eq] at *; exact Int.le_trans h1 h2) (fun a b => by simp only [Bool.or_eq_true, decide_eq_true_eq]; exact Int.le_total a b) l
 exact this.imp fun h => by simpa using h
theorem held_owns {w : World} {b : Nat} {es : EI} (h : MapSat w b false false [.int .i64] [.int .i64] es) (hok : heldOk es = true) :
  ∃ D : DataW Unit, w.ownsMap Try.prog 3 unitR b es.length D ∧ Maps.size D = es.length ∧ (intKeys D).Perm (es.map (·.1)) := by
 obtain ⟨ms, clock, hb, hm, hn, hc, hk⟩ := h
 unfold heldOk at hok
 rw [Bool.and_eq_true, decide_eq_true_eq, List.all_eq_true] at hok
 have hm' : ms.toList.map (fun e => (e.key, e.val)) = es.map (fun e => (Value.int .i64 e.1, Value.int .i64 e.2)) := hm
 have hlen : ms.toList.length = es.length := by simpa using congrArg List.length hm'
 have hkeys : ms.toList.map (·.key) = es.map (fun e => Value.int .i64 e.1) := by
  have := congrArg (List.map Prod.fst) hm'
  rw [List.map_map, List.map_map] at this
  exact this
 have each : ∀ x ∈ ms.toList, ∃ e ∈ es, x.key = .int .i64 e.1 := by
  intro x hx
  have : x.key ∈ ms.toList.map (·.key) := List.mem_map.2 ⟨x, hx, rfl⟩
  rw [hkeys] at this
  obtain ⟨e, he, h⟩ := List.mem_map.1 this
  exact ⟨e, he, h.symm⟩
 have kof : ∀ x ∈ ms.toList, ∃ a : Int, x.key = .int .i64 a ∧ Go.WideElems.rd Try.prog 3 unitR x = some (.int .i64 a, .nil) := by
  intro x hx
  obtain ⟨e, he, hxk⟩ := each x hx
  refine ⟨e.1, hxk, ?_⟩
  unfold Go.WideElems.rd
  rw [hxk, Go.Maps.keyOf_int_mk u3 (hok.2 e he)]
  rfl
 refine ⟨.map ((ms.toList.map (Go.WideElems.rg Try.prog 3 unitR)).foldr DataW.insert []), ⟨ms, clock, hb, ⟨?_, ⟨hc, hn, ?_⟩, fun x hx => ?_⟩, ?_, rfl⟩, ?_, ?_⟩
 ·rw [← Array.length_toList, hlen]; have := hok.1; unfold maxLen; omega
 ·rw [hkeys]
  have hk' : (es.map fun e => e.1).Nodup := hk
  unfold List.Nodup at hk' ⊢
  rw [List.pairwise_map] at hk' ⊢
  exact hk'.imp fun h e => h (by injection e)
 ·obtain ⟨a, _, h⟩ := kof x hx
  exact ⟨_, h⟩
 ·rw [← Array.length_toList, hlen]; exact Nat.le_refl _
 ·show ((ms.toList.map (Go.WideElems.rg Try.prog 3 unitR)).foldr DataW.insert []).length = _
  rw [(foldr_perm_w _).length_eq, List.length_map, hlen]
 ·show ((((ms.toList.map (Go.WideElems.rg Try.prog 3 unitR)).foldr DataW.insert []).map fun p => Go.intOf p.1)).Perm _
  refine ((foldr_perm_w _).map _).trans ?_
  rw [List.map_map]
  have : ms.toList.map ((fun p : Lit × DataW Unit => Go.intOf p.1) ∘ Go.WideElems.rg Try.prog 3 unitR) = es.map (·.1) := by
   have h1 : ms.toList.map ((fun p : Lit × DataW Unit => Go.intOf p.1) ∘ Go.WideElems.rg Try.prog 3 unitR) = (ms.toList.map (·.key)).map (fun v => match v with | .int _ a => a | _ => 0) := by
    rw [List.map_map]
    refine List.map_congr_left fun x hx => ?_
    obtain ⟨a, h1, h2⟩ := kof x hx
    have h3 : Go.WideElems.rg Try.prog 3 unitR x = (.int .i64 a, .nil) := by
     rw [Go.WideElems.rg, h2, Option.getD_some]
    rw [Function.comp_apply, Function.comp_apply, h3, h1]
    exact rfl
   rw [h1, hkeys, List.map_map]
   rfl
  rw [this]
theorem held_raw (b0 b : Nat) (es : EI) (w : World) (c13 : w.cell? ⟨b0, 13, none⟩ = some (.map (some b))) (h : MapSat w b false false [.int .i64] [.int .i64] es) (hok : heldOk es = true) :
  Calls Try.prog 10 #[.pointer (some ⟨b0, 0, none⟩)] w fun e w' => ∃ v : Value, e = .returned v ∧ w'.ownsRow w.heap.size 3 1 v (heldL es).length ((heldL es).map encZ) ∧ Below w.heap.size w w' := by
 obtain ⟨D, hown, hsz, hp⟩ := held_owns h hok
 have hl : es.length ≤ 1000000 := by
  unfold heldOk at hok
  rw [Bool.and_eq_true, decide_eq_true_eq] at hok
  exact hok.1
 refine (held_kit b0 b es.length D unitR w c13 hown (by rw [hsz]; unfold maxLen; omega) (by rw [hsz]; omega)).mono ?_
 rintro e w' ⟨v, ss, rfl, hS, hrow, hB⟩
 have hms : ss.mergeSort (fun x y => decide (x ≤ y)) = heldL es := (mergeSort_of_perm_i (hS.trans hp)).trans (sortI_eq _)
 have hln : ss.length = (heldL es).length := by rw [← hms, List.length_mergeSort]
 rw [hms, hln] at hrow
 exact ⟨v, rfl, hrow, hB⟩
end Go.Proofs.Ytpfddjdkafjjfaa
end
section
namespace Go.Proofs.Ytpfddjdkafjjfaa
open Go.Aq Go.RowKit
set_option linter.unusedVariables false
theorem flat_int : ∀ xs : List Int, Go.Aq.flat [.int .i64] xs = xs.map Go.encZ
 | [] => rfl
 | x :: xs => by
  rw [List.map_cons, ← flat_int xs]
  rfl
theorem rowSat_int {w : World} {base : Nat} {v : Value} {xs : List Int} (h : w.ownsRow base 3 1 v xs.length (xs.map Go.encZ)) :
  RowSat w v true 3 [.int .i64] xs ∧ ∀ b ∈ rowMine true v, base ≤ b := by
 rcases h.2 with ⟨rfl, h0⟩ | ⟨g, cap, cur, rfl, hg, hcell, h1, h2, h3, h4⟩
 ·have hy : xs = [] := by
   have := h.1
   cases xs with
   | nil => rfl
   | cons y ys => rw [List.length_cons] at h0; omega
  subst hy
  exact ⟨.inl ⟨rfl, rfl⟩, fun b hb => by simp [rowMine] at hb⟩
 ·refine ⟨.inr ⟨⟨g, 0, none⟩, cap, rfl, h1, (fun h => by cases h), fun _ => ⟨rfl, h2, cur, (0, 0), hcell, by rw [h3]; exact Nat.le_of_eq (Nat.zero_add _), ?_, by rw [flat_int]; exact h4⟩⟩, fun b hb => by simp only [rowMine, List.mem_singleton] at hb; omega⟩
  exact fun i _ h => by simp at h
namespace F_drvq_Queue_Held
noncomputable def h {T : Type} : Hd T := fun args _ st K _ => match args with
 | [.ptr j 0] => match lkp j st.H with
  | some (.cells _ [_, _, _, _, _, _, _, _, _, _, _, _, _, .mp m]) => match lkp m st.H with
   | some (.map _ false false [.int .i64] [.int .i64] es) => O.chk (heldOk es) (K (.osl st.nx) (st.add (.row true 3 [.int .i64] (heldL es))))
   | _ => .no
  | _ => .no
 | _ => .no
theorem hd {T : Type} (k : Nat) : HdOk Try.prog 10 (h (T := T)) := by
 intro args sl st K Kp hne
 refine ⟨Try.call10, fun S w0 ν w hR hb => ?_⟩
 unfold h at hne ⊢
 split at hne
 ·rename_i j
  split at hne
  ·rename_i t x0 x1 x2 x3 x4 x5 x6 x7 x8 x9 x10 x11 x12 m hj
   split at hne
   ·rename_i t' es hm
    obtain ⟨b0, hb0, hc⟩ := hR.sat _ _ hj
    obtain ⟨bm, hbm, hs⟩ := hR.sat _ _ hm
    obtain ⟨hok, _⟩ := O.chk_ne rfl hne
    have hden : denL ν [.ptr j 0] = [.pointer (some ⟨b0, 0, none⟩)] := by simp only [denL, den, hb0]; rfl
    rw [hden]
    have c13 : w.cell? ⟨b0, 13, none⟩ = some (.map (some bm)) := by
     unfold World.cell?
     rw [hc]
     simp [denL, den, hbm, mpV]
    refine (held_raw b0 bm es w c13 hs hok).mono ?_
    rintro e w' ⟨v, rfl, hown, hB⟩
    obtain ⟨hrow, hge⟩ := rowSat_int hown
    have hR' : RelW S w0 (upd ν st.nx v) (st.add (.row true 3 [.int .i64] (heldL es))) w' := by
     have hm : mineL (upd ν st.nx v) st.nx (.row true 3 [.int .i64] (heldL es)) = rowMine true v := by simp [mineL, upd_new]
     refine hR.new (w' := w') ⟨hB.os, hB.tape, hB.output, hB.size⟩ v _ st.H st.dirty (fun j o' hj => hj) (fun j o' b hj hb => hB.block b (hoSat_lt (hR.sat j o' hj) b hb)) (fun b hb _ => hB.block b (Nat.lt_of_lt_of_le hb hR.size)) rfl ⟨by simp, by rw [upd_new]; exact hrow⟩ (by rw [hm]; exact rowMine_nodup v) ?_ ?_ (fun b hb => by simp [seenL, rowSeen] at hb)
     ·intro j o' b hj hb
      rw [hm] at hb
      have h2 := hge b hb
      exact ⟨fun h => by have := hoSat_lt (hR.sat j o' hj) b (.inl h); omega, fun h => by have := hoSat_lt (hR.sat j o' hj) b (.inr h); omega⟩
     ·intro b hb
      rw [hm] at hb
      exact .inr (Nat.le_trans hR.size (hge b hb))
    refine ⟨_, _, .osl st.nx, hR', ⟨Nat.le_succ _, fun j hj => upd_old hj, id, hB.size, fun _ j hj => hB.block j hj⟩, ?_, by simp [svLt, St.add], ?_⟩
    ·simp only [den, upd_new]
     exact (hdr_row (hrow.rowVal (by simp))).symm
    ·rw [hok, O.chk_true]
   ·exact absurd rfl hne
  ·exact absurd rfl hne
 ·exact absurd rfl hne
end F_drvq_Queue_Held
theorem u93 : Try.prog.underlying 93 = some (.map 3 3) := by kernel_rfl
set_option maxRecDepth 100000 in
set_option maxHeartbeats 2000000 in
theorem clone_raw (b : Nat) (es : Array MapEntry) (clock : Nat) (w : World) (hb : w.heap[b]? = some (.map es clock)) :
  Calls Try.prog 51 #[.map (some b)] w fun e w' => e = .returned (.map (some w.heap.size)) ∧ w' = w.alloc (.map es clock) := by
 have hq := fun w => run_eql_map_nil_sl (P := Try.prog) w 93 _ _ (some b) u93
 go_enter Try.func51, Try.ntmps51
 go_wp2
 rw [run_callFunc_extern Try.func72 (by kernel_rfl) (by kernel_rfl) (by kernel_rfl) (e := Extern.MapsClone.clone) (by kernel_rfl), run_maps_clone_sl w 93 hb]
 simp only [Result.andThen]
 rw [Oper.upon_value]
 go_wp2
 rw [run_typeAssert_map_sl _ 93 20 _ _ _ u93]
 simp only [Result.andThen]
 rw [Oper.upon_value]
 go_wp2
 go_ret
 exact ⟨rfl, rfl⟩
namespace F_maps_Clone
noncomputable def h {T : Type} : Hd T := fun args _ st K _ => match args with
 | [.mp j] => match lkp j st.H with
  | some (.map t ka va kl vl es) => K (.mp st.nx) (st.add (.map t ka va kl vl es))
  | _ => .no
 | _ => .no
theorem hd {T : Type} (k : Nat) : HdOk Try.prog 51 (h (T := T)) := by
 intro args sl st K Kp hne
 refine ⟨Try.call51, fun S w0 ν w hR hb => ?_⟩
 unfold h at hne ⊢
 split at hne
 ·rename_i j
  split at hne
  ·rename_i t ka va kl vl es hj
   obtain ⟨b, hb', ms, clock, hms, h2, h3, h4, h5⟩ := hR.sat _ _ hj
   have hden : denL ν [.mp j] = [.map (some b)] := by simp only [denL, den, hb']; rfl
   rw [hden]
   refine (clone_raw b ms clock w hms).mono ?_
   rintro e w' ⟨rfl, rfl⟩
   have hfr := hR.fresh (.map ms clock) (.map (some w.heap.size)) (.map t ka va kl vl es) rfl ⟨w.heap.size, upd_new, ms, clock, (MapKept.heap_alloc w _).1, h2, h3, h4, h5⟩ (fun c hc => by simpa [mineL, upd_new, blk] using hc) (by simp [mineL]) rfl
   refine ⟨_, _, .mp st.nx, hfr, Step.add _ _ _ _ _ _, ?_, by simp [svLt, St.add], ?_⟩
   ·simp [den, upd, mpV]
   ·rfl
  ·exact absurd rfl hne
 ·exact absurd rfl hne
end F_maps_Clone
end Go.Proofs.Ytpfddjdkafjjfaa
end
section

end
