/- drvq's Held: the held ids, rising, in a new row; by the kit's contracts; as a callee of the evaluator. -/
import Derived.Shelf.AbstractIn
import Derived.WalkKit
import Derived.OwnWalkIn
import Derived.TacticsInMore
import Derived.Lib.Hide
import Derived.Deep.Onto
import Derived.Test.YtpfddjdkafjjfaaGreatDH15p
import Derived.Test.YtpfddjdkafjjfaaGreatDH15i
namespace Go.Proofs.YtpfddjdkafjjfaaGreat
open Go.RowKit Go.Maps Go.Sort Go.Shelf
set_option linter.unusedVariables false
theorem held_sorts (m : Nat) : AnyZI.SortsIn Tryz.prog Tryz.heldSorted_ren Fence.wide m :=
  ⟨fun blk off cap ss W hH hblk hsz => callsIn_wide.2 (AnyM.slices_Sort_int Tryz.heldSort blk off cap ss W hH hblk hsz),
   fun p cap W => callsIn_wide.2 (AnyM.slices_Sort_int_none Tryz.heldSort p cap W)⟩
set_option maxRecDepth 100000 in
set_option maxHeartbeats 1000000 in
theorem held_kit (b0 b nn : Nat) (D0 : DataW Unit) (R : Value → Option (DataW Unit × List MemPlace)) (w : World) (c13 : w.cell? ⟨b0, 13, none⟩ = some (.map (some b))) (hown : w.ownsMap Tryz.prog 3 R b nn D0) (hmax : Maps.size D0 ≤ maxLen) (hbytes : Maps.size D0 * 8 ≤ 140737488355328) :
    Calls Tryz.prog 57 #[.pointer (some ⟨b0, 0, none⟩)] w fun e w' => ∃ (v : Value) (ss : List Int), e = .returned v ∧ ss.Perm (intKeys D0) ∧
      w'.ownsRow w.heap.size 3 1 v ss.length ((ss.mergeSort (fun x y => decide (x ≤ y))).map encZ) ∧ Below w.heap.size w w' := by
  refine (callsIn_wide (n := 6)).1 ?_
  have hbl := hown.lt
  have hseq : SeqGives Fence.wide 2 Tryz.prog 86 #[.pointer (some ⟨w.heap.size, 0, none⟩)] encZ (fun ss => ss.Perm (intKeys D0)) (Maps.size D0) (w.alloc (.cells #[.map (some b)] 76)) :=
    AnyZI.keys_gives (ρ := Tryz.heldKeys_ren) { Tryz.heldKeys with } Fence.wide _ trivial rfl (by omega) w.heap.size b nn D0 _ (by simp) (by simp) (by
      obtain ⟨es, clock, hb, Ft, hs, hD⟩ := hown
      exact ⟨es, clock, (Below.heap_alloc _ _ b hbl).trans hb, Ft, hs, hD⟩)
  have cK : ∀ mb W, CallsIn Fence.wide 5 Tryz.prog 77 #[.map mb] W fun e w' => e = .returned (.func (.func 86) #[] #[.pointer (some ⟨W.heap.size, 0, none⟩)]) ∧ w' = W.alloc (.cells #[.map mb] 76) := fun mb W => AnyZI.keys_in Tryz.heldKeys Fence.wide 5 trivial rfl mb W
  have cS := AnyZI.sorted_in Tryz.heldSorted Fence.wide 5 trivial trivial trivial trivial rfl (by omega) (held_sorts _) (enters_of Tryz.func85 (by kernel_rfl) rfl) 86 #[.pointer (some ⟨w.heap.size, 0, none⟩)] trivial (enters_of Tryz.func86 (by kernel_rfl) rfl) _ _ hmax hbytes _ hseq
  change CallsIn _ _ Tryz.prog 76 _ _ _ at cS
  have hfK : Fence.wide.fn 77 := trivial
  have hfS : Fence.wide.fn 76 := trivial
  clear hseq hown
  refine callsIn_of_wp Tryz.func57 rfl trivial ?_ rfl
  simp only [Tryz.ntmps57, List.size_toArray, List.length_cons, List.length_nil, Nat.reduceAdd, Nat.reduceSub, Array.replicate_succ, Array.replicate_zero, List.push_toArray, List.append_toArray, List.nil_append, List.cons_append]
  gi_wp2_with (first
    | (gi_at_call 77; refine (cK _ _).mono ?_; rintro e w' ⟨rfl, rfl⟩)
    | (gi_at_call 76; refine cS.mono ?_; rintro e w' ⟨v, ss, rfl, hS, hrow, hnil, hb⟩))
  go_ret
  exact ⟨v, ss, rfl, hS, hrow.mono (by simp), ((Below.refl _ w).alloc (Nat.le_refl _) _).trans (hb.mono (by simp))⟩
/-! ### From what the evaluator knows of a map to the kit's word -/
open Go.Aq
theorem ins_perm_w {H : Type} (x : Lit × DataW H) : ∀ l, (DataW.insert x l).Perm (x :: l)
  | [] => List.Perm.refl _
  | y :: r => by
    unfold DataW.insert
    split
    · exact List.Perm.refl _
    · exact ((ins_perm_w x r).cons y).trans (List.Perm.swap x y r)
theorem foldr_perm_w {H : Type} : ∀ l : List (Lit × DataW H), (l.foldr DataW.insert []).Perm l
  | [] => List.Perm.refl _
  | x :: l => (ins_perm_w x _).trans ((foldr_perm_w l).cons x)
def unitR : Value → Option (DataW Unit × List MemPlace) := fun _ => some (.nil, [])
theorem u3 : Tryz.prog.underlying 3 = some (.int .i64) := by kernel_rfl
/-- May the held ids be told? -/
def heldOk (es : EI) : Bool := decide (es.length ≤ 1000000) && es.all fun e => (Lit.int .i64 e.1).wf
def insI (x : Int) : List Int → List Int
  | [] => [x]
  | y :: r => if x ≤ y then x :: y :: r else y :: insI x r
def sortI : List Int → List Int
  | [] => []
  | x :: r => insI x (sortI r)
def heldL (es : EI) : List Int := sortI (es.map (·.1))
theorem insI_perm (x : Int) : ∀ l, (insI x l).Perm (x :: l)
  | [] => List.Perm.refl _
  | y :: r => by
    unfold insI
    split
    · exact List.Perm.refl _
    · exact ((insI_perm x r).cons y).trans (List.Perm.swap x y r)
theorem sortI_perm : ∀ l, (sortI l).Perm l
  | [] => List.Perm.refl _
  | x :: r => (insI_perm x (sortI r)).trans ((sortI_perm r).cons x)
theorem insI_up (x : Int) : ∀ l : List Int, l.Pairwise (· ≤ ·) → (insI x l).Pairwise (· ≤ ·)
  | [], _ => List.pairwise_singleton _ _
  | y :: r, h => by
    unfold insI
    obtain ⟨h1, h2⟩ := List.pairwise_cons.1 h
    split
    · rename_i hle
      refine List.pairwise_cons.2 ⟨fun z hz => ?_, h⟩
      rcases List.mem_cons.1 hz with rfl | hz
      · exact hle
      · exact Int.le_trans hle (h1 z hz)
    · rename_i hle
      refine List.pairwise_cons.2 ⟨fun z hz => ?_, insI_up x r h2⟩
      rcases List.mem_cons.1 ((insI_perm x r).mem_iff.1 hz) with rfl | hz
      · omega
      · exact h1 z hz
theorem sortI_up : ∀ l : List Int, (sortI l).Pairwise (· ≤ ·)
  | [] => List.Pairwise.nil
  | x :: r => insI_up x _ (sortI_up r)
theorem sortI_eq (l : List Int) : l.mergeSort (fun x y => decide (x ≤ y)) = sortI l := by
  refine List.Perm.eq_of_pairwise (le := fun a b => a ≤ b) (fun a b _ _ h1 h2 => Int.le_antisymm h1 h2) ?_ (sortI_up l) ((List.mergeSort_perm l _).trans (sortI_perm l).symm)
  have := List.pairwise_mergeSort (le := fun x y : Int => decide (x ≤ y)) (fun a b c h1 h2 => by simp only [decide_eq_true_eq] at *; exact Int.le_trans h1 h2) (fun a b => by simp only [Bool.or_eq_true, decide_eq_true_eq]; exact Int.le_total a b) l
  exact this.imp fun h => by simpa using h
theorem held_owns {w : World} {b : Nat} {es : EI} (h : MapSat w b false false [.int .i64] [.int .i64] es) (hok : heldOk es = true) :
    ∃ D : DataW Unit, w.ownsMap Tryz.prog 3 unitR b es.length D ∧ Maps.size D = es.length ∧ (intKeys D).Perm (es.map (·.1)) := by
  obtain ⟨ms, clock, hb, hm, hn, hc, hk⟩ := h
  unfold heldOk at hok
  rw [Bool.and_eq_true, decide_eq_true_eq, List.all_eq_true] at hok
  have hm' : ms.toList.map (fun e => (e.key, e.val)) = es.map (fun e => (Value.int .i64 e.1, Value.int .i64 e.2)) := hm
  have hlen : ms.toList.length = es.length := by simpa using congrArg List.length hm'
  have hkeys : ms.toList.map (·.key) = es.map (fun e => Value.int .i64 e.1) := by
    have := congrArg (List.map Prod.fst) hm'
    rw [List.map_map, List.map_map] at this
    exact this
  have each : ∀ x ∈ ms.toList, ∃ e ∈ es, x.key = .int .i64 e.1 := by
    intro x hx
    have : x.key ∈ ms.toList.map (·.key) := List.mem_map.2 ⟨x, hx, rfl⟩
    rw [hkeys] at this
    obtain ⟨e, he, h⟩ := List.mem_map.1 this
    exact ⟨e, he, h.symm⟩
  have kof : ∀ x ∈ ms.toList, ∃ a : Int, x.key = .int .i64 a ∧ Go.WideElems.rd Tryz.prog 3 unitR x = some (.int .i64 a, .nil) := by
    intro x hx
    obtain ⟨e, he, hxk⟩ := each x hx
    refine ⟨e.1, hxk, ?_⟩
    unfold Go.WideElems.rd
    rw [hxk, Go.Maps.keyOf_int_mk u3 (hok.2 e he)]
    rfl
  refine ⟨.map ((ms.toList.map (Go.WideElems.rg Tryz.prog 3 unitR)).foldr DataW.insert []), ⟨ms, clock, hb, ⟨?_, ⟨hc, hn, ?_⟩, fun x hx => ?_⟩, ?_, rfl⟩, ?_, ?_⟩
  · rw [← Array.length_toList, hlen]; have := hok.1; unfold maxLen; omega
  · rw [hkeys]
    have hk' : (es.map fun e => e.1).Nodup := hk
    unfold List.Nodup at hk' ⊢
    rw [List.pairwise_map] at hk' ⊢
    exact hk'.imp fun h e => h (by injection e)
  · obtain ⟨a, _, h⟩ := kof x hx
    exact ⟨_, h⟩
  · rw [← Array.length_toList, hlen]; exact Nat.le_refl _
  · show ((ms.toList.map (Go.WideElems.rg Tryz.prog 3 unitR)).foldr DataW.insert []).length = _
    rw [(foldr_perm_w _).length_eq, List.length_map, hlen]
  · show ((((ms.toList.map (Go.WideElems.rg Tryz.prog 3 unitR)).foldr DataW.insert []).map fun p => Go.intOf p.1)).Perm _
    refine ((foldr_perm_w _).map _).trans ?_
    rw [List.map_map]
    have : ms.toList.map ((fun p : Lit × DataW Unit => Go.intOf p.1) ∘ Go.WideElems.rg Tryz.prog 3 unitR) = es.map (·.1) := by
      have h1 : ms.toList.map ((fun p : Lit × DataW Unit => Go.intOf p.1) ∘ Go.WideElems.rg Tryz.prog 3 unitR) = (ms.toList.map (·.key)).map (fun v => match v with | .int _ a => a | _ => 0) := by
        rw [List.map_map]
        refine List.map_congr_left fun x hx => ?_
        obtain ⟨a, h1, h2⟩ := kof x hx
        have h3 : Go.WideElems.rg Tryz.prog 3 unitR x = (.int .i64 a, .nil) := by
          rw [Go.WideElems.rg, h2, Option.getD_some]
        rw [Function.comp_apply, Function.comp_apply, h3, h1]
        exact rfl
      rw [h1, hkeys, List.map_map]
      rfl
    rw [this]
theorem held_raw (b0 b : Nat) (es : EI) (w : World) (c13 : w.cell? ⟨b0, 13, none⟩ = some (.map (some b))) (h : MapSat w b false false [.int .i64] [.int .i64] es) (hok : heldOk es = true) :
    Calls Tryz.prog 57 #[.pointer (some ⟨b0, 0, none⟩)] w fun e w' => ∃ v : Value, e = .returned v ∧ w'.ownsRow w.heap.size 3 1 v (heldL es).length ((heldL es).map encZ) ∧ Below w.heap.size w w' := by
  obtain ⟨D, hown, hsz, hp⟩ := held_owns h hok
  have hl : es.length ≤ 1000000 := by
    unfold heldOk at hok
    rw [Bool.and_eq_true, decide_eq_true_eq] at hok
    exact hok.1
  refine (held_kit b0 b es.length D unitR w c13 hown (by rw [hsz]; unfold maxLen; omega) (by rw [hsz]; omega)).mono ?_
  rintro e w' ⟨v, ss, rfl, hS, hrow, hB⟩
  have hms : ss.mergeSort (fun x y => decide (x ≤ y)) = heldL es := (mergeSort_of_perm_i (hS.trans hp)).trans (sortI_eq _)
  have hln : ss.length = (heldL es).length := by rw [← hms, List.length_mergeSort]
  rw [hms, hln] at hrow
  exact ⟨v, rfl, hrow, hB⟩
end Go.Proofs.YtpfddjdkafjjfaaGreat
