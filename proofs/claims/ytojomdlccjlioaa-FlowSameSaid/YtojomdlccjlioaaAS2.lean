/- What this seat's functions come to, as plain functions, each with the proof that the code does just that. Printed by a program of this repo (wip/gen2/gen.py). -/
import Derived.Test.YtojomdlccjlioaaAHR
namespace Go.Proofs.Ytojomdlccjlioaa
open Go.Aq
set_option linter.unusedVariables false
set_option maxRecDepth 100000
/-! ### aqueduct/words.Turn: function 71 -/
noncomputable def F_words_Turn.as : As := .some (.one (.leaf .str))
noncomputable def F_words_Turn.rt : Rt := .val (.leaf .str)
noncomputable def F_words_Turn.nt : Notes := ⟨[(3, [0, 3, 9, 10])], [], [], [], []⟩
noncomputable def F_words_Turn.cal0 {T : Type} (k : Nat) : List (FuncId × Hd T) := []
theorem F_words_Turn.cal0_ok {T : Type} (k : Nat) : HdsOk Try.prog (F_words_Turn.cal0 (T := T) k) := trivial
noncomputable def F_words_Turn.cal {T : Type} (k : Nat) : List (FuncId × Hd T) := F_words_Turn.cal0 k
theorem F_words_Turn.cal_ok {T : Type} (k : Nat) : HdsOk Try.prog (F_words_Turn.cal (T := T) k) := F_words_Turn.cal0_ok k
noncomputable def F_words_Turn.l0_b (k : Nat) (a0 : ByteArray) (R_l0 : Int → (List Int) → O ByteArray) (v1 : Int) (v2 : List Int) : O ByteArray :=
  O.cond (decide (v1 < (ByteArray.size a0 : Int))) (
   O.chk (decide (0 ≤ v1 ∧ v1 < (ByteArray.size a0 : Int))) (
    O.chk (decide (0 ≤ (IntKind.i64.wrap ((IntKind.i64.wrap ((ByteArray.size a0 : Int) - (1 : Int))) - v1)) ∧ (IntKind.i64.wrap ((IntKind.i64.wrap ((ByteArray.size a0 : Int) - (1 : Int))) - v1)) < (List.length v2 : Int) ∧ (List.length v2 : Int) ≤ (List.length v2 : Int))) (
     O.chk (decide (0 ≤ (IntKind.i64.wrap ((IntKind.i64.wrap ((ByteArray.size a0 : Int) - (1 : Int))) - v1)) ∧ (IntKind.i64.wrap ((IntKind.i64.wrap ((ByteArray.size a0 : Int) - (1 : Int))) - v1)) < (List.length v2 : Int))) (
      R_l0 (IntKind.i64.wrap (v1 + (1 : Int))) (su v2 (IntKind.i64.wrap ((IntKind.i64.wrap ((ByteArray.size a0 : Int) - (1 : Int))) - v1)) (bt a0 v1)))))) (
   .ok (strOf v2))
noncomputable def F_words_Turn.l0 (k : Nat) (a0 : ByteArray) : Nat → Int → (List Int) → O ByteArray
  | 0, _, _ => .no
  | j + 1, v1, v2 => F_words_Turn.l0_b k a0 (F_words_Turn.l0 k a0 j) v1 v2
theorem F_words_Turn.l0_eq (k : Nat) (a0 : ByteArray) : ∀ (j : Nat) (v1 : Int) (v2 : List Int), loopAt (T := ByteArray) tab (calOf (F_words_Turn.cal k)) Go.Proofs.Try.f71.ntmps F_words_Turn.nt k [] [.r, .r, .l, .r, .b] (bodyOf Go.Proofs.Try.f71) (finK tab Go.Proofs.Try.f71.results.toList (fun v st => takeR F_words_Turn.rt v st.H .ok) panK) j ⟨[(0, .str a0), (3, .osl 0), (9, .int .i64 (ByteArray.size a0 : Int)), (10, .int .i64 v1)], [], 0, []⟩ ⟨1, true, [(0, .row true 5 [.int .u8] v2)]⟩ = F_words_Turn.l0 k a0 j v1 v2 := by
  intro j
  induction j with
  | zero => intro v1 v2; rfl
  | succ j ih =>
    intro v1 v2
    have rs : (fun (v1' : Int) (v2' : List Int) => loopAt (T := ByteArray) tab (calOf (F_words_Turn.cal k)) Go.Proofs.Try.f71.ntmps F_words_Turn.nt k [] [.r, .r, .l, .r, .b] (bodyOf Go.Proofs.Try.f71) (finK tab Go.Proofs.Try.f71.results.toList (fun v st => takeR F_words_Turn.rt v st.H .ok) panK) j ⟨[(0, .str a0), (3, .osl 0), (9, .int .i64 (ByteArray.size a0 : Int)), (10, .int .i64 v1')], [], 0, []⟩ ⟨1, true, [(0, .row true 5 [.int .u8] v2')]⟩) = F_words_Turn.l0 k a0 j := by funext v1' v2'; exact ih v1' v2'
    have h : loopAt (T := ByteArray) tab (calOf (F_words_Turn.cal k)) Go.Proofs.Try.f71.ntmps F_words_Turn.nt k [] [.r, .r, .l, .r, .b] (bodyOf Go.Proofs.Try.f71) (finK tab Go.Proofs.Try.f71.results.toList (fun v st => takeR F_words_Turn.rt v st.H .ok) panK) (j + 1) ⟨[(0, .str a0), (3, .osl 0), (9, .int .i64 (ByteArray.size a0 : Int)), (10, .int .i64 v1)], [], 0, []⟩ ⟨1, true, [(0, .row true 5 [.int .u8] v2)]⟩ = F_words_Turn.l0_b k a0 ((fun (v1' : Int) (v2' : List Int) => loopAt (T := ByteArray) tab (calOf (F_words_Turn.cal k)) Go.Proofs.Try.f71.ntmps F_words_Turn.nt k [] [.r, .r, .l, .r, .b] (bodyOf Go.Proofs.Try.f71) (finK tab Go.Proofs.Try.f71.results.toList (fun v st => takeR F_words_Turn.rt v st.H .ok) panK) j ⟨[(0, .str a0), (3, .osl 0), (9, .int .i64 (ByteArray.size a0 : Int)), (10, .int .i64 v1')], [], 0, []⟩ ⟨1, true, [(0, .row true 5 [.int .u8] v2')]⟩)) v1 v2 := by kernel_rfl
    exact h.trans (by rw [rs]; rfl)
noncomputable def F_words_Turn.top (k : Nat) (a0 : ByteArray) (D_l0 : Int → (List Int) → O ByteArray) : O ByteArray :=
  O.chk (decide (0 ≤ (ByteArray.size a0 : Int) ∧ (ByteArray.size a0 : Int) = (ByteArray.size a0 : Int) ∧ (ByteArray.size a0 : Int) ≤ 1073741824)) (
   D_l0 (0 : Int) (List.replicate (ByteArray.size a0 : Int).toNat (0 : Int)))
noncomputable def F_words_Turn.S (k : Nat) (a0 : ByteArray) : O ByteArray := F_words_Turn.top k a0 ((fun (v1 : Int) (v2 : List Int) => F_words_Turn.l0 k a0 k v1 v2))
theorem F_words_Turn.eq (k : Nat) (a0 : ByteArray) : evFn (T := ByteArray) tab (calOf (F_words_Turn.cal k)) Go.Proofs.Try.f71 F_words_Turn.nt k [.str a0] [] ⟨0, false, []⟩ (fun v st => takeR F_words_Turn.rt v st.H .ok) panK = F_words_Turn.S k a0 := by
  have e0 : (fun (v1 : Int) (v2 : List Int) => loopAt (T := ByteArray) tab (calOf (F_words_Turn.cal k)) Go.Proofs.Try.f71.ntmps F_words_Turn.nt k [] [.r, .r, .l, .r, .b] (bodyOf Go.Proofs.Try.f71) (finK tab Go.Proofs.Try.f71.results.toList (fun v st => takeR F_words_Turn.rt v st.H .ok) panK) k ⟨[(0, .str a0), (3, .osl 0), (9, .int .i64 (ByteArray.size a0 : Int)), (10, .int .i64 v1)], [], 0, []⟩ ⟨1, true, [(0, .row true 5 [.int .u8] v2)]⟩) = (fun (v1 : Int) (v2 : List Int) => F_words_Turn.l0 k a0 k v1 v2) := by funext v1 v2; exact F_words_Turn.l0_eq k a0 k v1 v2
  have h : evFn (T := ByteArray) tab (calOf (F_words_Turn.cal k)) Go.Proofs.Try.f71 F_words_Turn.nt k [.str a0] [] ⟨0, false, []⟩ (fun v st => takeR F_words_Turn.rt v st.H .ok) panK = F_words_Turn.top k a0 ((fun (v1 : Int) (v2 : List Int) => loopAt (T := ByteArray) tab (calOf (F_words_Turn.cal k)) Go.Proofs.Try.f71.ntmps F_words_Turn.nt k [] [.r, .r, .l, .r, .b] (bodyOf Go.Proofs.Try.f71) (finK tab Go.Proofs.Try.f71.results.toList (fun v st => takeR F_words_Turn.rt v st.H .ok) panK) k ⟨[(0, .str a0), (3, .osl 0), (9, .int .i64 (ByteArray.size a0 : Int)), (10, .int .i64 v1)], [], 0, []⟩ ⟨1, true, [(0, .row true 5 [.int .u8] v2)]⟩)) := by kernel_rfl
  exact h.trans (by rw [e0]; rfl)
theorem F_words_Turn.ok (k : Nat) : FnOk Try.prog 71 F_words_Turn.as F_words_Turn.rt (fun (x : ByteArray) => F_words_Turn.S k x) :=
  FnOk.of_ev tab_ok (calOf_ok (F_words_Turn.cal_ok k)) mixed Try.func71 F_words_Turn.nt k (fun _ => rfl) (fun (x : ByteArray) => F_words_Turn.eq k x)
theorem F_words_Turn.hd {T : Type} (k : Nat) : HdOk Try.prog 71 (pureN (T := T) F_words_Turn.as F_words_Turn.rt (fun (x : ByteArray) => F_words_Turn.S k x)) :=
  pureN_ok rfl rfl (F_words_Turn.ok k) Try.call71
/-! ### aqueduct/words.Get: function 62 -/
noncomputable def F_words_Get.as : As := .some (.cons (.leaf .str) (.cons (.leaf (.int .i64)) (.cons (.leaf (.int .i64)) (.one (.leaf .bool)))))
noncomputable def F_words_Get.rt : Rt := .tup (.cons (.leaf (.int .u64)) (.one (.leaf (.int .i64))))
noncomputable def F_words_Get.nt : Notes := ⟨[(10, [0, 10, 40, 41]), (10, [0, 10, 40, 41])], [], [], [], []⟩
noncomputable def F_words_Get.cal0 {T : Type} (k : Nat) : List (FuncId × Hd T) := [(71, pureN F_words_Turn.as F_words_Turn.rt (fun (x : ByteArray) => F_words_Turn.S k x))]
theorem F_words_Get.cal0_ok {T : Type} (k : Nat) : HdsOk Try.prog (F_words_Get.cal0 (T := T) k) := ⟨F_words_Turn.hd k, trivial⟩
noncomputable def F_words_Get.cal {T : Type} (k : Nat) : List (FuncId × Hd T) := F_words_Get.cal0 k
theorem F_words_Get.cal_ok {T : Type} (k : Nat) : HdsOk Try.prog (F_words_Get.cal (T := T) k) := F_words_Get.cal0_ok k
noncomputable def F_words_Get.l0_b (k : Nat) (a2 : Int) (r1 : ByteArray) (R_l0 : Int → Int → O (Int × Int)) (v3 : Int) (v4 : Int) : O (Int × Int) :=
  O.cond (decide (v4 < a2)) (
   O.chk (decide (0 ≤ v4 ∧ v4 < (ByteArray.size r1 : Int))) (
    R_l0 (bOr .u64 (shL .u64 v3 (8 : Int)) (IntKind.u64.wrap (bt r1 v4))) (IntKind.i64.wrap (v4 + (1 : Int))))) (
   .ok (v3, (0 : Int)))
noncomputable def F_words_Get.l0 (k : Nat) (a2 : Int) (r1 : ByteArray) : Nat → Int → Int → O (Int × Int)
  | 0, _, _ => .no
  | j + 1, v3, v4 => F_words_Get.l0_b k a2 r1 (F_words_Get.l0 k a2 r1 j) v3 v4
theorem F_words_Get.l0_eq (k : Nat) (a2 : Int) (r1 : ByteArray) : ∀ (j : Nat) (v3 : Int) (v4 : Int), loopAt (T := Int × Int) tab (calOf (F_words_Get.cal k)) Go.Proofs.Try.f62.ntmps F_words_Get.nt k [] [.r, .r, .r, .r, .r, .l, .r, .b] (bodyOf Go.Proofs.Try.f62) (finK tab Go.Proofs.Try.f62.results.toList (fun v st => takeR F_words_Get.rt v st.H .ok) panK) j ⟨[(0, .str r1), (10, .int .u64 v3), (40, .int .i64 a2), (41, .int .i64 v4)], [], 0, []⟩ ⟨0, true, []⟩ = F_words_Get.l0 k a2 r1 j v3 v4 := by
  intro j
  induction j with
  | zero => intro v3 v4; rfl
  | succ j ih =>
    intro v3 v4
    have rs : (fun (v3' : Int) (v4' : Int) => loopAt (T := Int × Int) tab (calOf (F_words_Get.cal k)) Go.Proofs.Try.f62.ntmps F_words_Get.nt k [] [.r, .r, .r, .r, .r, .l, .r, .b] (bodyOf Go.Proofs.Try.f62) (finK tab Go.Proofs.Try.f62.results.toList (fun v st => takeR F_words_Get.rt v st.H .ok) panK) j ⟨[(0, .str r1), (10, .int .u64 v3'), (40, .int .i64 a2), (41, .int .i64 v4')], [], 0, []⟩ ⟨0, true, []⟩) = F_words_Get.l0 k a2 r1 j := by funext v3' v4'; exact ih v3' v4'
    have h : loopAt (T := Int × Int) tab (calOf (F_words_Get.cal k)) Go.Proofs.Try.f62.ntmps F_words_Get.nt k [] [.r, .r, .r, .r, .r, .l, .r, .b] (bodyOf Go.Proofs.Try.f62) (finK tab Go.Proofs.Try.f62.results.toList (fun v st => takeR F_words_Get.rt v st.H .ok) panK) (j + 1) ⟨[(0, .str r1), (10, .int .u64 v3), (40, .int .i64 a2), (41, .int .i64 v4)], [], 0, []⟩ ⟨0, true, []⟩ = F_words_Get.l0_b k a2 r1 ((fun (v3' : Int) (v4' : Int) => loopAt (T := Int × Int) tab (calOf (F_words_Get.cal k)) Go.Proofs.Try.f62.ntmps F_words_Get.nt k [] [.r, .r, .r, .r, .r, .l, .r, .b] (bodyOf Go.Proofs.Try.f62) (finK tab Go.Proofs.Try.f62.results.toList (fun v st => takeR F_words_Get.rt v st.H .ok) panK) j ⟨[(0, .str r1), (10, .int .u64 v3'), (40, .int .i64 a2), (41, .int .i64 v4')], [], 0, []⟩ ⟨0, true, []⟩)) v3 v4 := by kernel_rfl
    exact h.trans (by rw [rs]; rfl)
noncomputable def F_words_Get.l1_b (k : Nat) (a0 : ByteArray) (a1 : Int) (a2 : Int) (R_l1 : Int → Int → O (Int × Int)) (v5 : Int) (v6 : Int) : O (Int × Int) :=
  O.cond (decide (v6 < a2)) (
   O.chk (decide (0 ≤ v6 ∧ v6 < (ByteArray.size (ByteArray.extract a0 a1.toNat (IntKind.i64.wrap (a1 + a2)).toNat) : Int))) (
    R_l1 (bOr .u64 (shL .u64 v5 (8 : Int)) (IntKind.u64.wrap (bt (ByteArray.extract a0 a1.toNat (IntKind.i64.wrap (a1 + a2)).toNat) v6))) (IntKind.i64.wrap (v6 + (1 : Int))))) (
   .ok (v5, (0 : Int)))
noncomputable def F_words_Get.l1 (k : Nat) (a0 : ByteArray) (a1 : Int) (a2 : Int) : Nat → Int → Int → O (Int × Int)
  | 0, _, _ => .no
  | j + 1, v5, v6 => F_words_Get.l1_b k a0 a1 a2 (F_words_Get.l1 k a0 a1 a2 j) v5 v6
theorem F_words_Get.l1_eq (k : Nat) (a0 : ByteArray) (a1 : Int) (a2 : Int) : ∀ (j : Nat) (v5 : Int) (v6 : Int), loopAt (T := Int × Int) tab (calOf (F_words_Get.cal k)) Go.Proofs.Try.f62.ntmps F_words_Get.nt k [] [.r, .r, .r, .r, .r, .l, .r, .b] (bodyOf Go.Proofs.Try.f62) (finK tab Go.Proofs.Try.f62.results.toList (fun v st => takeR F_words_Get.rt v st.H .ok) panK) j ⟨[(0, .str (ByteArray.extract a0 a1.toNat (IntKind.i64.wrap (a1 + a2)).toNat)), (10, .int .u64 v5), (40, .int .i64 a2), (41, .int .i64 v6)], [], 0, []⟩ ⟨0, true, []⟩ = F_words_Get.l1 k a0 a1 a2 j v5 v6 := by
  intro j
  induction j with
  | zero => intro v5 v6; rfl
  | succ j ih =>
    intro v5 v6
    have rs : (fun (v5' : Int) (v6' : Int) => loopAt (T := Int × Int) tab (calOf (F_words_Get.cal k)) Go.Proofs.Try.f62.ntmps F_words_Get.nt k [] [.r, .r, .r, .r, .r, .l, .r, .b] (bodyOf Go.Proofs.Try.f62) (finK tab Go.Proofs.Try.f62.results.toList (fun v st => takeR F_words_Get.rt v st.H .ok) panK) j ⟨[(0, .str (ByteArray.extract a0 a1.toNat (IntKind.i64.wrap (a1 + a2)).toNat)), (10, .int .u64 v5'), (40, .int .i64 a2), (41, .int .i64 v6')], [], 0, []⟩ ⟨0, true, []⟩) = F_words_Get.l1 k a0 a1 a2 j := by funext v5' v6'; exact ih v5' v6'
    have h : loopAt (T := Int × Int) tab (calOf (F_words_Get.cal k)) Go.Proofs.Try.f62.ntmps F_words_Get.nt k [] [.r, .r, .r, .r, .r, .l, .r, .b] (bodyOf Go.Proofs.Try.f62) (finK tab Go.Proofs.Try.f62.results.toList (fun v st => takeR F_words_Get.rt v st.H .ok) panK) (j + 1) ⟨[(0, .str (ByteArray.extract a0 a1.toNat (IntKind.i64.wrap (a1 + a2)).toNat)), (10, .int .u64 v5), (40, .int .i64 a2), (41, .int .i64 v6)], [], 0, []⟩ ⟨0, true, []⟩ = F_words_Get.l1_b k a0 a1 a2 ((fun (v5' : Int) (v6' : Int) => loopAt (T := Int × Int) tab (calOf (F_words_Get.cal k)) Go.Proofs.Try.f62.ntmps F_words_Get.nt k [] [.r, .r, .r, .r, .r, .l, .r, .b] (bodyOf Go.Proofs.Try.f62) (finK tab Go.Proofs.Try.f62.results.toList (fun v st => takeR F_words_Get.rt v st.H .ok) panK) j ⟨[(0, .str (ByteArray.extract a0 a1.toNat (IntKind.i64.wrap (a1 + a2)).toNat)), (10, .int .u64 v5'), (40, .int .i64 a2), (41, .int .i64 v6')], [], 0, []⟩ ⟨0, true, []⟩)) v5 v6 := by kernel_rfl
    exact h.trans (by rw [rs]; rfl)
noncomputable def F_words_Get.top (k : Nat) (a0 : ByteArray) (a1 : Int) (a2 : Int) (a3 : Bool) (D_l0 : ByteArray → Int → Int → O (Int × Int)) (D_l1 : Int → Int → O (Int × Int)) : O (Int × Int) :=
  O.cond (decide (a2 < (1 : Int))) (
   .ok ((0 : Int), (1 : Int))) (
   O.cond (decide (a2 > (8 : Int))) (
    .ok ((0 : Int), (1 : Int))) (
    O.cond (decide (a1 < (0 : Int))) (
     .ok ((0 : Int), (10 : Int))) (
     O.cond (decide (a1 > (IntKind.i64.wrap ((ByteArray.size a0 : Int) - a2)))) (
      .ok ((0 : Int), (10 : Int))) (
      O.chk (decide (0 ≤ a1 ∧ a1 ≤ (IntKind.i64.wrap (a1 + a2)) ∧ (IntKind.i64.wrap (a1 + a2)) ≤ (ByteArray.size a0 : Int))) (
       O.cond (!a3) (
        O.bind (F_words_Turn.S k (ByteArray.extract a0 a1.toNat (IntKind.i64.wrap (a1 + a2)).toNat)) fun r1 =>
        D_l0 r1 (0 : Int) (0 : Int)) (
        D_l1 (0 : Int) (0 : Int)))))))
noncomputable def F_words_Get.S (k : Nat) (a0 : ByteArray) (a1 : Int) (a2 : Int) (a3 : Bool) : O (Int × Int) := F_words_Get.top k a0 a1 a2 a3 ((fun (r1 : ByteArray) (v3 : Int) (v4 : Int) => F_words_Get.l0 k a2 r1 k v3 v4)) ((fun (v5 : Int) (v6 : Int) => F_words_Get.l1 k a0 a1 a2 k v5 v6))
theorem F_words_Get.eq (k : Nat) (a0 : ByteArray) (a1 : Int) (a2 : Int) (a3 : Bool) : evFn (T := Int × Int) tab (calOf (F_words_Get.cal k)) Go.Proofs.Try.f62 F_words_Get.nt k [.str a0, .int .i64 a1, .int .i64 a2, .bool a3] [] ⟨0, false, []⟩ (fun v st => takeR F_words_Get.rt v st.H .ok) panK = F_words_Get.S k a0 a1 a2 a3 := by
  have e0 : (fun (r1 : ByteArray) (v3 : Int) (v4 : Int) => loopAt (T := Int × Int) tab (calOf (F_words_Get.cal k)) Go.Proofs.Try.f62.ntmps F_words_Get.nt k [] [.r, .r, .r, .r, .r, .l, .r, .b] (bodyOf Go.Proofs.Try.f62) (finK tab Go.Proofs.Try.f62.results.toList (fun v st => takeR F_words_Get.rt v st.H .ok) panK) k ⟨[(0, .str r1), (10, .int .u64 v3), (40, .int .i64 a2), (41, .int .i64 v4)], [], 0, []⟩ ⟨0, true, []⟩) = (fun (r1 : ByteArray) (v3 : Int) (v4 : Int) => F_words_Get.l0 k a2 r1 k v3 v4) := by funext r1 v3 v4; exact F_words_Get.l0_eq k a2 r1 k v3 v4
  have e1 : (fun (v5 : Int) (v6 : Int) => loopAt (T := Int × Int) tab (calOf (F_words_Get.cal k)) Go.Proofs.Try.f62.ntmps F_words_Get.nt k [] [.r, .r, .r, .r, .r, .l, .r, .b] (bodyOf Go.Proofs.Try.f62) (finK tab Go.Proofs.Try.f62.results.toList (fun v st => takeR F_words_Get.rt v st.H .ok) panK) k ⟨[(0, .str (ByteArray.extract a0 a1.toNat (IntKind.i64.wrap (a1 + a2)).toNat)), (10, .int .u64 v5), (40, .int .i64 a2), (41, .int .i64 v6)], [], 0, []⟩ ⟨0, true, []⟩) = (fun (v5 : Int) (v6 : Int) => F_words_Get.l1 k a0 a1 a2 k v5 v6) := by funext v5 v6; exact F_words_Get.l1_eq k a0 a1 a2 k v5 v6
  have h : evFn (T := Int × Int) tab (calOf (F_words_Get.cal k)) Go.Proofs.Try.f62 F_words_Get.nt k [.str a0, .int .i64 a1, .int .i64 a2, .bool a3] [] ⟨0, false, []⟩ (fun v st => takeR F_words_Get.rt v st.H .ok) panK = F_words_Get.top k a0 a1 a2 a3 ((fun (r1 : ByteArray) (v3 : Int) (v4 : Int) => loopAt (T := Int × Int) tab (calOf (F_words_Get.cal k)) Go.Proofs.Try.f62.ntmps F_words_Get.nt k [] [.r, .r, .r, .r, .r, .l, .r, .b] (bodyOf Go.Proofs.Try.f62) (finK tab Go.Proofs.Try.f62.results.toList (fun v st => takeR F_words_Get.rt v st.H .ok) panK) k ⟨[(0, .str r1), (10, .int .u64 v3), (40, .int .i64 a2), (41, .int .i64 v4)], [], 0, []⟩ ⟨0, true, []⟩)) ((fun (v5 : Int) (v6 : Int) => loopAt (T := Int × Int) tab (calOf (F_words_Get.cal k)) Go.Proofs.Try.f62.ntmps F_words_Get.nt k [] [.r, .r, .r, .r, .r, .l, .r, .b] (bodyOf Go.Proofs.Try.f62) (finK tab Go.Proofs.Try.f62.results.toList (fun v st => takeR F_words_Get.rt v st.H .ok) panK) k ⟨[(0, .str (ByteArray.extract a0 a1.toNat (IntKind.i64.wrap (a1 + a2)).toNat)), (10, .int .u64 v5), (40, .int .i64 a2), (41, .int .i64 v6)], [], 0, []⟩ ⟨0, true, []⟩)) := by kernel_rfl
  exact h.trans (by rw [e0, e1]; rfl)
theorem F_words_Get.ok (k : Nat) : FnOk Try.prog 62 F_words_Get.as F_words_Get.rt (fun (x : ByteArray × Int × Int × Bool) => F_words_Get.S k x.1 x.2.1 x.2.2.1 x.2.2.2) :=
  FnOk.of_ev tab_ok (calOf_ok (F_words_Get.cal_ok k)) mixed Try.func62 F_words_Get.nt k (fun _ => rfl) (fun (x : ByteArray × Int × Int × Bool) => F_words_Get.eq k x.1 x.2.1 x.2.2.1 x.2.2.2)
theorem F_words_Get.hd {T : Type} (k : Nat) : HdOk Try.prog 62 (pureN (T := T) F_words_Get.as F_words_Get.rt (fun (x : ByteArray × Int × Int × Bool) => F_words_Get.S k x.1 x.2.1 x.2.2.1 x.2.2.2)) :=
  pureN_ok rfl rfl (F_words_Get.ok k) Try.call62
/-! ### aqueduct/eth.may: function 44 -/
noncomputable def F_eth_may.as : As := .some (.one (.leaf (.int .i64)))
noncomputable def F_eth_may.rt : Rt := .val (.leaf .bool)
noncomputable def F_eth_may.nt : Notes := ⟨[], [], [], [], []⟩
noncomputable def F_eth_may.cal0 {T : Type} (k : Nat) : List (FuncId × Hd T) := []
theorem F_eth_may.cal0_ok {T : Type} (k : Nat) : HdsOk Try.prog (F_eth_may.cal0 (T := T) k) := trivial
noncomputable def F_eth_may.cal {T : Type} (k : Nat) : List (FuncId × Hd T) := F_eth_may.cal0 k
theorem F_eth_may.cal_ok {T : Type} (k : Nat) : HdsOk Try.prog (F_eth_may.cal (T := T) k) := F_eth_may.cal0_ok k
noncomputable def F_eth_may.S (k : Nat) (a0 : Int) : O Bool :=
  O.cond (decide (a0 ≥ (1536 : Int))) (
   O.cond (decide (a0 ≤ (65535 : Int))) (
    .ok (decide (a0 ≠ (33024 : Int)))) (
    .ok false)) (
   .ok false)
theorem F_eth_may.eq (k : Nat) (a0 : Int) : evFn (T := Bool) tab (calOf (F_eth_may.cal k)) Go.Proofs.Try.f44 F_eth_may.nt k [.int .i64 a0] [] ⟨0, false, []⟩ (fun v st => takeR F_eth_may.rt v st.H .ok) panK = F_eth_may.S k a0 := by kernel_rfl
theorem F_eth_may.ok (k : Nat) : FnOk Try.prog 44 F_eth_may.as F_eth_may.rt (fun (x : Int) => F_eth_may.S k x) :=
  FnOk.of_ev tab_ok (calOf_ok (F_eth_may.cal_ok k)) mixed Try.func44 F_eth_may.nt k (fun _ => rfl) (fun (x : Int) => F_eth_may.eq k x)
theorem F_eth_may.hd {T : Type} (k : Nat) : HdOk Try.prog 44 (pureN (T := T) F_eth_may.as F_eth_may.rt (fun (x : Int) => F_eth_may.S k x)) :=
  pureN_ok rfl rfl (F_eth_may.ok k) Try.call44
/-! ### aqueduct/eth.Parse: function 21 -/
noncomputable def F_eth_Parse.as : As := .some (.one (.leaf .str))
noncomputable def F_eth_Parse.rt : Rt := .tup (.cons (.agg (.cons (.leaf .str) (.cons (.leaf .str) (.cons (.leaf (.int .i64)) (.cons (.leaf (.int .i64)) (.cons (.leaf (.int .i64)) (.one (.leaf .str)))))))) (.one (.leaf (.int .i64))))
noncomputable def F_eth_Parse.nt : Notes := ⟨[], [], [], [], []⟩
noncomputable def F_eth_Parse.cal0 {T : Type} (k : Nat) : List (FuncId × Hd T) := [(44, pureN F_eth_may.as F_eth_may.rt (fun (x : Int) => F_eth_may.S k x)), (62, pureN F_words_Get.as F_words_Get.rt (fun (x : ByteArray × Int × Int × Bool) => F_words_Get.S k x.1 x.2.1 x.2.2.1 x.2.2.2))]
theorem F_eth_Parse.cal0_ok {T : Type} (k : Nat) : HdsOk Try.prog (F_eth_Parse.cal0 (T := T) k) := ⟨F_eth_may.hd k, F_words_Get.hd k, trivial⟩
noncomputable def F_eth_Parse.nt42 : Notes := ⟨[], [], [], [], []⟩
noncomputable def F_eth_Parse.cal1 {T : Type} (k : Nat) : List (FuncId × Hd T) := (42, inlH tab (calOf (F_eth_Parse.cal0 k)) Go.Proofs.Try.f42 F_eth_Parse.nt42 k) :: F_eth_Parse.cal0 k
theorem F_eth_Parse.cal1_ok {T : Type} (k : Nat) : HdsOk Try.prog (F_eth_Parse.cal1 (T := T) k) := ⟨inlH_ok tab_ok (calOf_ok (F_eth_Parse.cal0_ok k)) mixed Try.func42 F_eth_Parse.nt42 k Try.call42, F_eth_Parse.cal0_ok k⟩
noncomputable def F_eth_Parse.nt43 : Notes := ⟨[], [], [], [], []⟩
noncomputable def F_eth_Parse.cal2 {T : Type} (k : Nat) : List (FuncId × Hd T) := (43, inlH tab (calOf (F_eth_Parse.cal1 k)) Go.Proofs.Try.f43 F_eth_Parse.nt43 k) :: F_eth_Parse.cal1 k
theorem F_eth_Parse.cal2_ok {T : Type} (k : Nat) : HdsOk Try.prog (F_eth_Parse.cal2 (T := T) k) := ⟨inlH_ok tab_ok (calOf_ok (F_eth_Parse.cal1_ok k)) mixed Try.func43 F_eth_Parse.nt43 k Try.call43, F_eth_Parse.cal1_ok k⟩
noncomputable def F_eth_Parse.cal {T : Type} (k : Nat) : List (FuncId × Hd T) := F_eth_Parse.cal2 k
theorem F_eth_Parse.cal_ok {T : Type} (k : Nat) : HdsOk Try.prog (F_eth_Parse.cal (T := T) k) := F_eth_Parse.cal2_ok k
noncomputable def F_eth_Parse.nt41 : Notes := ⟨[], [], [], [], []⟩
noncomputable def F_eth_Parse.D : Dfs := [(41, Go.Proofs.Try.f41, F_eth_Parse.nt41)]
theorem F_eth_Parse.D_ok : DfsOk Try.prog F_eth_Parse.D := ⟨⟨Try.func41, Try.call41⟩, trivial⟩
noncomputable def F_eth_Parse.S (k : Nat) (a0 : ByteArray) : O ((ByteArray × ByteArray × Int × Int × Int × ByteArray) × Int) :=
  O.cond (decide ((ByteArray.size a0 : Int) > (1518 : Int))) (
   .ok ((ByteArray.empty, ByteArray.empty, (0 : Int), (0 : Int), (0 : Int), ByteArray.empty), (61 : Int))) (
   O.cond (decide ((6 : Int) > (ByteArray.size a0 : Int))) (
    .ok ((ByteArray.empty, ByteArray.empty, (0 : Int), (0 : Int), (0 : Int), ByteArray.empty), (60 : Int))) (
    O.chk (decide (0 ≤ (6 : Int) ∧ (6 : Int) ≤ (ByteArray.size a0 : Int))) (
     O.chk (decide (0 ≤ (6 : Int) ∧ (6 : Int) ≤ (ByteArray.size a0 : Int))) (
      O.cond (decide ((6 : Int) > (ByteArray.size (ByteArray.extract a0 6 (ByteArray.size a0)) : Int))) (
       .ok ((ByteArray.empty, ByteArray.empty, (0 : Int), (0 : Int), (0 : Int), ByteArray.empty), (60 : Int))) (
       O.chk (decide (0 ≤ (6 : Int) ∧ (6 : Int) ≤ (ByteArray.size (ByteArray.extract a0 6 (ByteArray.size a0)) : Int))) (
        O.chk (decide (0 ≤ (6 : Int) ∧ (6 : Int) ≤ (ByteArray.size (ByteArray.extract a0 6 (ByteArray.size a0)) : Int))) (
         O.cond (decide ((2 : Int) > (ByteArray.size (ByteArray.extract (ByteArray.extract a0 6 (ByteArray.size a0)) 6 (ByteArray.size (ByteArray.extract a0 6 (ByteArray.size a0)))) : Int))) (
          .ok ((ByteArray.empty, ByteArray.empty, (0 : Int), (0 : Int), (0 : Int), ByteArray.empty), (60 : Int))) (
          O.chk (decide (0 ≤ (2 : Int) ∧ (2 : Int) ≤ (ByteArray.size (ByteArray.extract (ByteArray.extract a0 6 (ByteArray.size a0)) 6 (ByteArray.size (ByteArray.extract a0 6 (ByteArray.size a0)))) : Int))) (
           O.chk (decide (0 ≤ (2 : Int) ∧ (2 : Int) ≤ (ByteArray.size (ByteArray.extract (ByteArray.extract a0 6 (ByteArray.size a0)) 6 (ByteArray.size (ByteArray.extract a0 6 (ByteArray.size a0)))) : Int))) (
            O.bind (F_words_Get.S k (ByteArray.extract (ByteArray.extract (ByteArray.extract a0 6 (ByteArray.size a0)) 6 (ByteArray.size (ByteArray.extract a0 6 (ByteArray.size a0)))) 0 2) (0 : Int) (2 : Int) true) fun r3 =>
            O.cond (decide ((IntKind.i64.wrap r3.1) = (33024 : Int))) (
             O.cond (decide ((2 : Int) > (ByteArray.size (ByteArray.extract (ByteArray.extract (ByteArray.extract a0 6 (ByteArray.size a0)) 6 (ByteArray.size (ByteArray.extract a0 6 (ByteArray.size a0)))) 2 (ByteArray.size (ByteArray.extract (ByteArray.extract a0 6 (ByteArray.size a0)) 6 (ByteArray.size (ByteArray.extract a0 6 (ByteArray.size a0)))))) : Int))) (
              .ok ((ByteArray.empty, ByteArray.empty, (0 : Int), (0 : Int), (0 : Int), ByteArray.empty), (60 : Int))) (
              O.chk (decide (0 ≤ (2 : Int) ∧ (2 : Int) ≤ (ByteArray.size (ByteArray.extract (ByteArray.extract (ByteArray.extract a0 6 (ByteArray.size a0)) 6 (ByteArray.size (ByteArray.extract a0 6 (ByteArray.size a0)))) 2 (ByteArray.size (ByteArray.extract (ByteArray.extract a0 6 (ByteArray.size a0)) 6 (ByteArray.size (ByteArray.extract a0 6 (ByteArray.size a0)))))) : Int))) (
               O.chk (decide (0 ≤ (2 : Int) ∧ (2 : Int) ≤ (ByteArray.size (ByteArray.extract (ByteArray.extract (ByteArray.extract a0 6 (ByteArray.size a0)) 6 (ByteArray.size (ByteArray.extract a0 6 (ByteArray.size a0)))) 2 (ByteArray.size (ByteArray.extract (ByteArray.extract a0 6 (ByteArray.size a0)) 6 (ByteArray.size (ByteArray.extract a0 6 (ByteArray.size a0)))))) : Int))) (
                O.bind (F_words_Get.S k (ByteArray.extract (ByteArray.extract (ByteArray.extract (ByteArray.extract a0 6 (ByteArray.size a0)) 6 (ByteArray.size (ByteArray.extract a0 6 (ByteArray.size a0)))) 2 (ByteArray.size (ByteArray.extract (ByteArray.extract a0 6 (ByteArray.size a0)) 6 (ByteArray.size (ByteArray.extract a0 6 (ByteArray.size a0)))))) 0 2) (0 : Int) (2 : Int) true) fun r5 =>
                O.cond (decide ((2 : Int) > (ByteArray.size (ByteArray.extract (ByteArray.extract (ByteArray.extract (ByteArray.extract a0 6 (ByteArray.size a0)) 6 (ByteArray.size (ByteArray.extract a0 6 (ByteArray.size a0)))) 2 (ByteArray.size (ByteArray.extract (ByteArray.extract a0 6 (ByteArray.size a0)) 6 (ByteArray.size (ByteArray.extract a0 6 (ByteArray.size a0)))))) 2 (ByteArray.size (ByteArray.extract (ByteArray.extract (ByteArray.extract a0 6 (ByteArray.size a0)) 6 (ByteArray.size (ByteArray.extract a0 6 (ByteArray.size a0)))) 2 (ByteArray.size (ByteArray.extract (ByteArray.extract a0 6 (ByteArray.size a0)) 6 (ByteArray.size (ByteArray.extract a0 6 (ByteArray.size a0)))))))) : Int))) (
                 .ok ((ByteArray.empty, ByteArray.empty, (0 : Int), (0 : Int), (0 : Int), ByteArray.empty), (60 : Int))) (
                 O.chk (decide (0 ≤ (2 : Int) ∧ (2 : Int) ≤ (ByteArray.size (ByteArray.extract (ByteArray.extract (ByteArray.extract (ByteArray.extract a0 6 (ByteArray.size a0)) 6 (ByteArray.size (ByteArray.extract a0 6 (ByteArray.size a0)))) 2 (ByteArray.size (ByteArray.extract (ByteArray.extract a0 6 (ByteArray.size a0)) 6 (ByteArray.size (ByteArray.extract a0 6 (ByteArray.size a0)))))) 2 (ByteArray.size (ByteArray.extract (ByteArray.extract (ByteArray.extract a0 6 (ByteArray.size a0)) 6 (ByteArray.size (ByteArray.extract a0 6 (ByteArray.size a0)))) 2 (ByteArray.size (ByteArray.extract (ByteArray.extract a0 6 (ByteArray.size a0)) 6 (ByteArray.size (ByteArray.extract a0 6 (ByteArray.size a0)))))))) : Int))) (
                  O.chk (decide (0 ≤ (2 : Int) ∧ (2 : Int) ≤ (ByteArray.size (ByteArray.extract (ByteArray.extract (ByteArray.extract (ByteArray.extract a0 6 (ByteArray.size a0)) 6 (ByteArray.size (ByteArray.extract a0 6 (ByteArray.size a0)))) 2 (ByteArray.size (ByteArray.extract (ByteArray.extract a0 6 (ByteArray.size a0)) 6 (ByteArray.size (ByteArray.extract a0 6 (ByteArray.size a0)))))) 2 (ByteArray.size (ByteArray.extract (ByteArray.extract (ByteArray.extract a0 6 (ByteArray.size a0)) 6 (ByteArray.size (ByteArray.extract a0 6 (ByteArray.size a0)))) 2 (ByteArray.size (ByteArray.extract (ByteArray.extract a0 6 (ByteArray.size a0)) 6 (ByteArray.size (ByteArray.extract a0 6 (ByteArray.size a0)))))))) : Int))) (
                   O.bind (F_words_Get.S k (ByteArray.extract (ByteArray.extract (ByteArray.extract (ByteArray.extract (ByteArray.extract a0 6 (ByteArray.size a0)) 6 (ByteArray.size (ByteArray.extract a0 6 (ByteArray.size a0)))) 2 (ByteArray.size (ByteArray.extract (ByteArray.extract a0 6 (ByteArray.size a0)) 6 (ByteArray.size (ByteArray.extract a0 6 (ByteArray.size a0)))))) 2 (ByteArray.size (ByteArray.extract (ByteArray.extract (ByteArray.extract a0 6 (ByteArray.size a0)) 6 (ByteArray.size (ByteArray.extract a0 6 (ByteArray.size a0)))) 2 (ByteArray.size (ByteArray.extract (ByteArray.extract a0 6 (ByteArray.size a0)) 6 (ByteArray.size (ByteArray.extract a0 6 (ByteArray.size a0)))))))) 0 2) (0 : Int) (2 : Int) true) fun r7 =>
                   O.cond (decide ((bAnd .i64 (IntKind.i64.wrap r5.1) (4096 : Int)) ≠ (0 : Int))) (
                    .ok ((ByteArray.empty, ByteArray.empty, (0 : Int), (0 : Int), (0 : Int), ByteArray.empty), (61 : Int))) (
                    O.cond (decide ((bAnd .i64 (IntKind.i64.wrap r5.1) (4095 : Int)) > (4094 : Int))) (
                     .ok ((ByteArray.empty, ByteArray.empty, (0 : Int), (0 : Int), (0 : Int), ByteArray.empty), (61 : Int))) (
                     O.bind (F_eth_may.S k (IntKind.i64.wrap r7.1)) fun r9 =>
                     O.cond (!r9) (
                      .ok ((ByteArray.empty, ByteArray.empty, (0 : Int), (0 : Int), (0 : Int), ByteArray.empty), (61 : Int))) (
                      .ok (((ByteArray.extract a0 0 6), (ByteArray.extract (ByteArray.extract a0 6 (ByteArray.size a0)) 0 6), (bAnd .i64 (IntKind.i64.wrap r5.1) (4095 : Int)), (shR .i64 (IntKind.i64.wrap r5.1) (13 : Int)), (IntKind.i64.wrap r7.1), (ByteArray.extract (ByteArray.extract (ByteArray.extract (ByteArray.extract (ByteArray.extract a0 6 (ByteArray.size a0)) 6 (ByteArray.size (ByteArray.extract a0 6 (ByteArray.size a0)))) 2 (ByteArray.size (ByteArray.extract (ByteArray.extract a0 6 (ByteArray.size a0)) 6 (ByteArray.size (ByteArray.extract a0 6 (ByteArray.size a0)))))) 2 (ByteArray.size (ByteArray.extract (ByteArray.extract (ByteArray.extract a0 6 (ByteArray.size a0)) 6 (ByteArray.size (ByteArray.extract a0 6 (ByteArray.size a0)))) 2 (ByteArray.size (ByteArray.extract (ByteArray.extract a0 6 (ByteArray.size a0)) 6 (ByteArray.size (ByteArray.extract a0 6 (ByteArray.size a0)))))))) 2 (ByteArray.size (ByteArray.extract (ByteArray.extract (ByteArray.extract (ByteArray.extract a0 6 (ByteArray.size a0)) 6 (ByteArray.size (ByteArray.extract a0 6 (ByteArray.size a0)))) 2 (ByteArray.size (ByteArray.extract (ByteArray.extract a0 6 (ByteArray.size a0)) 6 (ByteArray.size (ByteArray.extract a0 6 (ByteArray.size a0)))))) 2 (ByteArray.size (ByteArray.extract (ByteArray.extract (ByteArray.extract a0 6 (ByteArray.size a0)) 6 (ByteArray.size (ByteArray.extract a0 6 (ByteArray.size a0)))) 2 (ByteArray.size (ByteArray.extract (ByteArray.extract a0 6 (ByteArray.size a0)) 6 (ByteArray.size (ByteArray.extract a0 6 (ByteArray.size a0))))))))))), (0 : Int)))))))))))) (
             O.cond false (
              .ok ((ByteArray.empty, ByteArray.empty, (0 : Int), (0 : Int), (0 : Int), ByteArray.empty), (61 : Int))) (
              O.bind (F_eth_may.S k (IntKind.i64.wrap r3.1)) fun r11 =>
              O.cond (!r11) (
               .ok ((ByteArray.empty, ByteArray.empty, (0 : Int), (0 : Int), (0 : Int), ByteArray.empty), (61 : Int))) (
               .ok (((ByteArray.extract a0 0 6), (ByteArray.extract (ByteArray.extract a0 6 (ByteArray.size a0)) 0 6), (-1 : Int), (0 : Int), (IntKind.i64.wrap r3.1), (ByteArray.extract (ByteArray.extract (ByteArray.extract a0 6 (ByteArray.size a0)) 6 (ByteArray.size (ByteArray.extract a0 6 (ByteArray.size a0)))) 2 (ByteArray.size (ByteArray.extract (ByteArray.extract a0 6 (ByteArray.size a0)) 6 (ByteArray.size (ByteArray.extract a0 6 (ByteArray.size a0))))))), (0 : Int)))))))))))))))
theorem F_eth_Parse.eq (k : Nat) (a0 : ByteArray) : evFnD (T := (ByteArray × ByteArray × Int × Int × Int × ByteArray) × Int) tab (calOf (F_eth_Parse.cal k)) F_eth_Parse.D Go.Proofs.Try.f21 F_eth_Parse.nt k [.str a0] ⟨0, false, []⟩ (fun v st => takeR F_eth_Parse.rt v st.H .ok) panK = F_eth_Parse.S k a0 := by kernel_rfl
theorem F_eth_Parse.ok (k : Nat) : FnOk Try.prog 21 F_eth_Parse.as F_eth_Parse.rt (fun (x : ByteArray) => F_eth_Parse.S k x) :=
  FnOk.of_evD tab_ok (calOf_ok (F_eth_Parse.cal_ok k)) mixed F_eth_Parse.D_ok Try.func21 F_eth_Parse.nt k (fun _ => rfl) (fun (x : ByteArray) => F_eth_Parse.eq k x)
theorem F_eth_Parse.hd {T : Type} (k : Nat) : HdOk Try.prog 21 (pureN (T := T) F_eth_Parse.as F_eth_Parse.rt (fun (x : ByteArray) => F_eth_Parse.S k x)) :=
  pureN_ok rfl rfl (F_eth_Parse.ok k) Try.call21
/-! ### aqueduct/flow.version: function 22 -/
noncomputable def F_flow_version.as : As := .some (.one (.leaf (.int .i64)))
noncomputable def F_flow_version.rt : Rt := .val (.leaf (.int .i64))
noncomputable def F_flow_version.nt : Notes := ⟨[], [], [], [], []⟩
noncomputable def F_flow_version.cal0 {T : Type} (k : Nat) : List (FuncId × Hd T) := []
theorem F_flow_version.cal0_ok {T : Type} (k : Nat) : HdsOk Try.prog (F_flow_version.cal0 (T := T) k) := trivial
noncomputable def F_flow_version.cal {T : Type} (k : Nat) : List (FuncId × Hd T) := F_flow_version.cal0 k
theorem F_flow_version.cal_ok {T : Type} (k : Nat) : HdsOk Try.prog (F_flow_version.cal (T := T) k) := F_flow_version.cal0_ok k
noncomputable def F_flow_version.S (k : Nat) (a0 : Int) : O Int :=
  O.cond (decide (a0 = (2048 : Int))) (
   .ok (4 : Int)) (
   O.cond (decide (a0 = (34525 : Int))) (
    .ok (6 : Int)) (
    .ok (0 : Int)))
theorem F_flow_version.eq (k : Nat) (a0 : Int) : evFn (T := Int) tab (calOf (F_flow_version.cal k)) Go.Proofs.Try.f22 F_flow_version.nt k [.int .i64 a0] [] ⟨0, false, []⟩ (fun v st => takeR F_flow_version.rt v st.H .ok) panK = F_flow_version.S k a0 := by kernel_rfl
theorem F_flow_version.ok (k : Nat) : FnOk Try.prog 22 F_flow_version.as F_flow_version.rt (fun (x : Int) => F_flow_version.S k x) :=
  FnOk.of_ev tab_ok (calOf_ok (F_flow_version.cal_ok k)) mixed Try.func22 F_flow_version.nt k (fun _ => rfl) (fun (x : Int) => F_flow_version.eq k x)
theorem F_flow_version.hd {T : Type} (k : Nat) : HdOk Try.prog 22 (pureN (T := T) F_flow_version.as F_flow_version.rt (fun (x : Int) => F_flow_version.S k x)) :=
  pureN_ok rfl rfl (F_flow_version.ok k) Try.call22
/-! ### aqueduct/csum.fold: function 75 -/
noncomputable def F_csum_fold.as : As := .some (.one (.leaf (.int .u32)))
noncomputable def F_csum_fold.rt : Rt := .val (.leaf (.int .u16))
noncomputable def F_csum_fold.nt : Notes := ⟨[(1, [0])], [], [], [], []⟩
noncomputable def F_csum_fold.cal0 {T : Type} (k : Nat) : List (FuncId × Hd T) := []
theorem F_csum_fold.cal0_ok {T : Type} (k : Nat) : HdsOk Try.prog (F_csum_fold.cal0 (T := T) k) := trivial
noncomputable def F_csum_fold.cal {T : Type} (k : Nat) : List (FuncId × Hd T) := F_csum_fold.cal0 k
theorem F_csum_fold.cal_ok {T : Type} (k : Nat) : HdsOk Try.prog (F_csum_fold.cal (T := T) k) := F_csum_fold.cal0_ok k
noncomputable def F_csum_fold.l0_b (k : Nat) (R_l0 : Int → O Int) (v1 : Int) : O Int :=
  O.cond (decide (v1 > (65535 : Int))) (
   R_l0 (IntKind.u32.wrap ((bAnd .u32 v1 (65535 : Int)) + (shR .u32 v1 (16 : Int))))) (
   .ok (IntKind.u16.wrap v1))
noncomputable def F_csum_fold.l0 (k : Nat) : Nat → Int → O Int
  | 0, _ => .no
  | j + 1, v1 => F_csum_fold.l0_b k (F_csum_fold.l0 k j) v1
theorem F_csum_fold.l0_eq (k : Nat) : ∀ (j : Nat) (v1 : Int), loopAt (T := Int) tab (calOf (F_csum_fold.cal k)) Go.Proofs.Try.f75.ntmps F_csum_fold.nt k [] [.r, .l, .b] (bodyOf Go.Proofs.Try.f75) (finK tab Go.Proofs.Try.f75.results.toList (fun v st => takeR F_csum_fold.rt v st.H .ok) panK) j ⟨[(0, .int .u32 v1)], [], 0, []⟩ ⟨0, true, []⟩ = F_csum_fold.l0 k j v1 := by
  intro j
  induction j with
  | zero => intro v1; rfl
  | succ j ih =>
    intro v1
    have rs : (fun (v1' : Int) => loopAt (T := Int) tab (calOf (F_csum_fold.cal k)) Go.Proofs.Try.f75.ntmps F_csum_fold.nt k [] [.r, .l, .b] (bodyOf Go.Proofs.Try.f75) (finK tab Go.Proofs.Try.f75.results.toList (fun v st => takeR F_csum_fold.rt v st.H .ok) panK) j ⟨[(0, .int .u32 v1')], [], 0, []⟩ ⟨0, true, []⟩) = F_csum_fold.l0 k j := by funext v1'; exact ih v1'
    have h : loopAt (T := Int) tab (calOf (F_csum_fold.cal k)) Go.Proofs.Try.f75.ntmps F_csum_fold.nt k [] [.r, .l, .b] (bodyOf Go.Proofs.Try.f75) (finK tab Go.Proofs.Try.f75.results.toList (fun v st => takeR F_csum_fold.rt v st.H .ok) panK) (j + 1) ⟨[(0, .int .u32 v1)], [], 0, []⟩ ⟨0, true, []⟩ = F_csum_fold.l0_b k ((fun (v1' : Int) => loopAt (T := Int) tab (calOf (F_csum_fold.cal k)) Go.Proofs.Try.f75.ntmps F_csum_fold.nt k [] [.r, .l, .b] (bodyOf Go.Proofs.Try.f75) (finK tab Go.Proofs.Try.f75.results.toList (fun v st => takeR F_csum_fold.rt v st.H .ok) panK) j ⟨[(0, .int .u32 v1')], [], 0, []⟩ ⟨0, true, []⟩)) v1 := by kernel_rfl
    exact h.trans (by rw [rs]; rfl)
noncomputable def F_csum_fold.top (k : Nat) (a0 : Int) (D_l0 : Int → O Int) : O Int :=
  D_l0 a0
noncomputable def F_csum_fold.S (k : Nat) (a0 : Int) : O Int := F_csum_fold.top k a0 ((fun (v1 : Int) => F_csum_fold.l0 k k v1))
theorem F_csum_fold.eq (k : Nat) (a0 : Int) : evFn (T := Int) tab (calOf (F_csum_fold.cal k)) Go.Proofs.Try.f75 F_csum_fold.nt k [.int .u32 a0] [] ⟨0, false, []⟩ (fun v st => takeR F_csum_fold.rt v st.H .ok) panK = F_csum_fold.S k a0 := by
  have e0 : (fun (v1 : Int) => loopAt (T := Int) tab (calOf (F_csum_fold.cal k)) Go.Proofs.Try.f75.ntmps F_csum_fold.nt k [] [.r, .l, .b] (bodyOf Go.Proofs.Try.f75) (finK tab Go.Proofs.Try.f75.results.toList (fun v st => takeR F_csum_fold.rt v st.H .ok) panK) k ⟨[(0, .int .u32 v1)], [], 0, []⟩ ⟨0, true, []⟩) = (fun (v1 : Int) => F_csum_fold.l0 k k v1) := by funext v1; exact F_csum_fold.l0_eq k k v1
  have h : evFn (T := Int) tab (calOf (F_csum_fold.cal k)) Go.Proofs.Try.f75 F_csum_fold.nt k [.int .u32 a0] [] ⟨0, false, []⟩ (fun v st => takeR F_csum_fold.rt v st.H .ok) panK = F_csum_fold.top k a0 ((fun (v1 : Int) => loopAt (T := Int) tab (calOf (F_csum_fold.cal k)) Go.Proofs.Try.f75.ntmps F_csum_fold.nt k [] [.r, .l, .b] (bodyOf Go.Proofs.Try.f75) (finK tab Go.Proofs.Try.f75.results.toList (fun v st => takeR F_csum_fold.rt v st.H .ok) panK) k ⟨[(0, .int .u32 v1)], [], 0, []⟩ ⟨0, true, []⟩)) := by kernel_rfl
  exact h.trans (by rw [e0]; rfl)
theorem F_csum_fold.ok (k : Nat) : FnOk Try.prog 75 F_csum_fold.as F_csum_fold.rt (fun (x : Int) => F_csum_fold.S k x) :=
  FnOk.of_ev tab_ok (calOf_ok (F_csum_fold.cal_ok k)) mixed Try.func75 F_csum_fold.nt k (fun _ => rfl) (fun (x : Int) => F_csum_fold.eq k x)
theorem F_csum_fold.hd {T : Type} (k : Nat) : HdOk Try.prog 75 (pureN (T := T) F_csum_fold.as F_csum_fold.rt (fun (x : Int) => F_csum_fold.S k x)) :=
  pureN_ok rfl rfl (F_csum_fold.ok k) Try.call75
/-! ### aqueduct/csum.On: function 67 -/
noncomputable def F_csum_On.as : As := .some (.cons (.leaf (.int .u16)) (.one (.leaf .str)))
noncomputable def F_csum_On.rt : Rt := .val (.leaf (.int .u16))
noncomputable def F_csum_On.nt : Notes := ⟨[(4, [1, 5, 6, 12, 13])], [], [(6, [0, 1, 2, 3, 4, 5, 6, 7, 8, 9, 10, 11, 12, 13, 14])], [], []⟩
noncomputable def F_csum_On.cal0 {T : Type} (k : Nat) : List (FuncId × Hd T) := [(75, pureN F_csum_fold.as F_csum_fold.rt (fun (x : Int) => F_csum_fold.S k x))]
theorem F_csum_On.cal0_ok {T : Type} (k : Nat) : HdsOk Try.prog (F_csum_On.cal0 (T := T) k) := ⟨F_csum_fold.hd k, trivial⟩
noncomputable def F_csum_On.nt74 : Notes := ⟨[], [], [], [], []⟩
noncomputable def F_csum_On.cal1 {T : Type} (k : Nat) : List (FuncId × Hd T) := (74, inlH tab (calOf (F_csum_On.cal0 k)) Go.Proofs.Try.f74 F_csum_On.nt74 k) :: F_csum_On.cal0 k
theorem F_csum_On.cal1_ok {T : Type} (k : Nat) : HdsOk Try.prog (F_csum_On.cal1 (T := T) k) := ⟨inlH_ok tab_ok (calOf_ok (F_csum_On.cal0_ok k)) mixed Try.func74 F_csum_On.nt74 k Try.call74, F_csum_On.cal0_ok k⟩
noncomputable def F_csum_On.cal {T : Type} (k : Nat) : List (FuncId × Hd T) := F_csum_On.cal1 k
theorem F_csum_On.cal_ok {T : Type} (k : Nat) : HdsOk Try.prog (F_csum_On.cal (T := T) k) := F_csum_On.cal1_ok k
noncomputable def F_csum_On.l0_b (k : Nat) (a1 : ByteArray) (R_l0 : Int → Int → O Int) (v3 : Int) (v4 : Int) : O Int :=
  O.cond (decide (v3 < (IntKind.i64.wrap (Int.tdiv (ByteArray.size a1 : Int) (2 : Int))))) (
   O.chk (decide (0 ≤ (IntKind.i64.wrap ((2 : Int) * v3)) ∧ (IntKind.i64.wrap ((2 : Int) * v3)) < (ByteArray.size a1 : Int))) (
    O.chk (decide (0 ≤ (IntKind.i64.wrap ((IntKind.i64.wrap ((2 : Int) * v3)) + (1 : Int))) ∧ (IntKind.i64.wrap ((IntKind.i64.wrap ((2 : Int) * v3)) + (1 : Int))) < (ByteArray.size a1 : Int))) (
     O.bind (F_csum_fold.S k (IntKind.u32.wrap ((IntKind.u32.wrap v4) + (bOr .u32 (shL .u32 (IntKind.u32.wrap (bt a1 (IntKind.i64.wrap ((2 : Int) * v3)))) (8 : Int)) (IntKind.u32.wrap (bt a1 (IntKind.i64.wrap ((IntKind.i64.wrap ((2 : Int) * v3)) + (1 : Int))))))))) fun r7 =>
     R_l0 (IntKind.i64.wrap (v3 + (1 : Int))) r7))) (
   O.cond (decide ((Int.tmod (ByteArray.size a1 : Int) (2 : Int)) = (1 : Int))) (
    O.chk (decide (0 ≤ (IntKind.i64.wrap ((ByteArray.size a1 : Int) - (1 : Int))) ∧ (IntKind.i64.wrap ((ByteArray.size a1 : Int) - (1 : Int))) < (ByteArray.size a1 : Int))) (
     O.bind (F_csum_fold.S k (IntKind.u32.wrap ((IntKind.u32.wrap v4) + (shL .u32 (IntKind.u32.wrap (bt a1 (IntKind.i64.wrap ((ByteArray.size a1 : Int) - (1 : Int))))) (8 : Int))))) fun r9 =>
     .ok r9)) (
    .ok v4))
noncomputable def F_csum_On.l0 (k : Nat) (a1 : ByteArray) : Nat → Int → Int → O Int
  | 0, _, _ => .no
  | j + 1, v3, v4 => F_csum_On.l0_b k a1 (F_csum_On.l0 k a1 j) v3 v4
theorem F_csum_On.l0_eq (k : Nat) (a1 : ByteArray) : ∀ (j : Nat) (v3 : Int) (v4 : Int), loopAt (T := Int) tab (calOf (F_csum_On.cal k)) Go.Proofs.Try.f67.ntmps F_csum_On.nt k [] [.r, .r, .r, .l, .r, .b] (bodyOf Go.Proofs.Try.f67) (finK tab Go.Proofs.Try.f67.results.toList (fun v st => takeR F_csum_On.rt v st.H .ok) panK) j ⟨[(1, .str a1), (5, .ptr 0 0), (6, .clo 74 [.ptr 0 0]), (12, .int .i64 (IntKind.i64.wrap (Int.tdiv (ByteArray.size a1 : Int) (2 : Int)))), (13, .int .i64 v3)], [], 0, []⟩ ⟨1, true, [(0, .cells 59 [.int .u16 v4])]⟩ = F_csum_On.l0 k a1 j v3 v4 := by
  intro j
  induction j with
  | zero => intro v3 v4; rfl
  | succ j ih =>
    intro v3 v4
    have rs : (fun (v3' : Int) (v4' : Int) => loopAt (T := Int) tab (calOf (F_csum_On.cal k)) Go.Proofs.Try.f67.ntmps F_csum_On.nt k [] [.r, .r, .r, .l, .r, .b] (bodyOf Go.Proofs.Try.f67) (finK tab Go.Proofs.Try.f67.results.toList (fun v st => takeR F_csum_On.rt v st.H .ok) panK) j ⟨[(1, .str a1), (5, .ptr 0 0), (6, .clo 74 [.ptr 0 0]), (12, .int .i64 (IntKind.i64.wrap (Int.tdiv (ByteArray.size a1 : Int) (2 : Int)))), (13, .int .i64 v3')], [], 0, []⟩ ⟨1, true, [(0, .cells 59 [.int .u16 v4'])]⟩) = F_csum_On.l0 k a1 j := by funext v3' v4'; exact ih v3' v4'
    have h : loopAt (T := Int) tab (calOf (F_csum_On.cal k)) Go.Proofs.Try.f67.ntmps F_csum_On.nt k [] [.r, .r, .r, .l, .r, .b] (bodyOf Go.Proofs.Try.f67) (finK tab Go.Proofs.Try.f67.results.toList (fun v st => takeR F_csum_On.rt v st.H .ok) panK) (j + 1) ⟨[(1, .str a1), (5, .ptr 0 0), (6, .clo 74 [.ptr 0 0]), (12, .int .i64 (IntKind.i64.wrap (Int.tdiv (ByteArray.size a1 : Int) (2 : Int)))), (13, .int .i64 v3)], [], 0, []⟩ ⟨1, true, [(0, .cells 59 [.int .u16 v4])]⟩ = F_csum_On.l0_b k a1 ((fun (v3' : Int) (v4' : Int) => loopAt (T := Int) tab (calOf (F_csum_On.cal k)) Go.Proofs.Try.f67.ntmps F_csum_On.nt k [] [.r, .r, .r, .l, .r, .b] (bodyOf Go.Proofs.Try.f67) (finK tab Go.Proofs.Try.f67.results.toList (fun v st => takeR F_csum_On.rt v st.H .ok) panK) j ⟨[(1, .str a1), (5, .ptr 0 0), (6, .clo 74 [.ptr 0 0]), (12, .int .i64 (IntKind.i64.wrap (Int.tdiv (ByteArray.size a1 : Int) (2 : Int)))), (13, .int .i64 v3')], [], 0, []⟩ ⟨1, true, [(0, .cells 59 [.int .u16 v4'])]⟩)) v3 v4 := by kernel_rfl
    exact h.trans (by rw [rs]; rfl)
noncomputable def F_csum_On.top (k : Nat) (a0 : Int) (a1 : ByteArray) (D_l0 : Int → Int → O Int) : O Int :=
  D_l0 (0 : Int) a0
noncomputable def F_csum_On.S (k : Nat) (a0 : Int) (a1 : ByteArray) : O Int := F_csum_On.top k a0 a1 ((fun (v3 : Int) (v4 : Int) => F_csum_On.l0 k a1 k v3 v4))
theorem F_csum_On.eq (k : Nat) (a0 : Int) (a1 : ByteArray) : evFn (T := Int) tab (calOf (F_csum_On.cal k)) Go.Proofs.Try.f67 F_csum_On.nt k [.int .u16 a0, .str a1] [] ⟨0, false, []⟩ (fun v st => takeR F_csum_On.rt v st.H .ok) panK = F_csum_On.S k a0 a1 := by
  have e0 : (fun (v3 : Int) (v4 : Int) => loopAt (T := Int) tab (calOf (F_csum_On.cal k)) Go.Proofs.Try.f67.ntmps F_csum_On.nt k [] [.r, .r, .r, .l, .r, .b] (bodyOf Go.Proofs.Try.f67) (finK tab Go.Proofs.Try.f67.results.toList (fun v st => takeR F_csum_On.rt v st.H .ok) panK) k ⟨[(1, .str a1), (5, .ptr 0 0), (6, .clo 74 [.ptr 0 0]), (12, .int .i64 (IntKind.i64.wrap (Int.tdiv (ByteArray.size a1 : Int) (2 : Int)))), (13, .int .i64 v3)], [], 0, []⟩ ⟨1, true, [(0, .cells 59 [.int .u16 v4])]⟩) = (fun (v3 : Int) (v4 : Int) => F_csum_On.l0 k a1 k v3 v4) := by funext v3 v4; exact F_csum_On.l0_eq k a1 k v3 v4
  have h : evFn (T := Int) tab (calOf (F_csum_On.cal k)) Go.Proofs.Try.f67 F_csum_On.nt k [.int .u16 a0, .str a1] [] ⟨0, false, []⟩ (fun v st => takeR F_csum_On.rt v st.H .ok) panK = F_csum_On.top k a0 a1 ((fun (v3 : Int) (v4 : Int) => loopAt (T := Int) tab (calOf (F_csum_On.cal k)) Go.Proofs.Try.f67.ntmps F_csum_On.nt k [] [.r, .r, .r, .l, .r, .b] (bodyOf Go.Proofs.Try.f67) (finK tab Go.Proofs.Try.f67.results.toList (fun v st => takeR F_csum_On.rt v st.H .ok) panK) k ⟨[(1, .str a1), (5, .ptr 0 0), (6, .clo 74 [.ptr 0 0]), (12, .int .i64 (IntKind.i64.wrap (Int.tdiv (ByteArray.size a1 : Int) (2 : Int)))), (13, .int .i64 v3)], [], 0, []⟩ ⟨1, true, [(0, .cells 59 [.int .u16 v4])]⟩)) := by kernel_rfl
  exact h.trans (by rw [e0]; rfl)
theorem F_csum_On.ok (k : Nat) : FnOk Try.prog 67 F_csum_On.as F_csum_On.rt (fun (x : Int × ByteArray) => F_csum_On.S k x.1 x.2) :=
  FnOk.of_ev tab_ok (calOf_ok (F_csum_On.cal_ok k)) mixed Try.func67 F_csum_On.nt k (fun _ => rfl) (fun (x : Int × ByteArray) => F_csum_On.eq k x.1 x.2)
theorem F_csum_On.hd {T : Type} (k : Nat) : HdOk Try.prog 67 (pureN (T := T) F_csum_On.as F_csum_On.rt (fun (x : Int × ByteArray) => F_csum_On.S k x.1 x.2)) :=
  pureN_ok rfl rfl (F_csum_On.ok k) Try.call67
/-! ### aqueduct/csum.Sum: function 55 -/
noncomputable def F_csum_Sum.as : As := .some (.one (.leaf .str))
noncomputable def F_csum_Sum.rt : Rt := .val (.leaf (.int .u16))
noncomputable def F_csum_Sum.nt : Notes := ⟨[], [], [], [], []⟩
noncomputable def F_csum_Sum.cal0 {T : Type} (k : Nat) : List (FuncId × Hd T) := [(67, pureN F_csum_On.as F_csum_On.rt (fun (x : Int × ByteArray) => F_csum_On.S k x.1 x.2))]
theorem F_csum_Sum.cal0_ok {T : Type} (k : Nat) : HdsOk Try.prog (F_csum_Sum.cal0 (T := T) k) := ⟨F_csum_On.hd k, trivial⟩
noncomputable def F_csum_Sum.cal {T : Type} (k : Nat) : List (FuncId × Hd T) := F_csum_Sum.cal0 k
theorem F_csum_Sum.cal_ok {T : Type} (k : Nat) : HdsOk Try.prog (F_csum_Sum.cal (T := T) k) := F_csum_Sum.cal0_ok k
noncomputable def F_csum_Sum.S (k : Nat) (a0 : ByteArray) : O Int :=
  O.bind (F_csum_On.S k (0 : Int) a0) fun r1 =>
  .ok (IntKind.u16.wrap ((65535 : Int) - r1))
theorem F_csum_Sum.eq (k : Nat) (a0 : ByteArray) : evFn (T := Int) tab (calOf (F_csum_Sum.cal k)) Go.Proofs.Try.f55 F_csum_Sum.nt k [.str a0] [] ⟨0, false, []⟩ (fun v st => takeR F_csum_Sum.rt v st.H .ok) panK = F_csum_Sum.S k a0 := by kernel_rfl
theorem F_csum_Sum.ok (k : Nat) : FnOk Try.prog 55 F_csum_Sum.as F_csum_Sum.rt (fun (x : ByteArray) => F_csum_Sum.S k x) :=
  FnOk.of_ev tab_ok (calOf_ok (F_csum_Sum.cal_ok k)) mixed Try.func55 F_csum_Sum.nt k (fun _ => rfl) (fun (x : ByteArray) => F_csum_Sum.eq k x)
theorem F_csum_Sum.hd {T : Type} (k : Nat) : HdOk Try.prog 55 (pureN (T := T) F_csum_Sum.as F_csum_Sum.rt (fun (x : ByteArray) => F_csum_Sum.S k x)) :=
  pureN_ok rfl rfl (F_csum_Sum.ok k) Try.call55
/-! ### aqueduct/ip.four: function 45 -/
noncomputable def F_ip_four.as : As := .some (.one (.leaf .str))
noncomputable def F_ip_four.rt : Rt := .val (.agg (.cons (.leaf (.int .i64)) (.cons (.leaf .str) (.cons (.leaf .str) (.cons (.leaf (.int .i64)) (.cons (.leaf (.int .i64)) (.cons (.leaf (.int .i64)) (.cons (.leaf (.int .i64)) (.cons (.leaf (.int .i64)) (.cons (.leaf (.int .i64)) (.cons (.leaf (.int .i64)) (.cons (.leaf .str) (.one (.leaf .str))))))))))))))
noncomputable def F_ip_four.nt : Notes := ⟨[], [], [(6, [0, 1, 2, 3, 4, 5, 6, 8, 7, 9, 10, 11, 12]), (7, [0, 1, 2, 3, 5, 6, 7, 8, 9, 10, 11, 12, 13, 14, 15, 16, 17, 18, 19, 20, 21, 22, 23, 24, 4, 25, 26])], [], []⟩
noncomputable def F_ip_four.cal0 {T : Type} (k : Nat) : List (FuncId × Hd T) := [(55, pureN F_csum_Sum.as F_csum_Sum.rt (fun (x : ByteArray) => F_csum_Sum.S k x)), (62, pureN F_words_Get.as F_words_Get.rt (fun (x : ByteArray × Int × Int × Bool) => F_words_Get.S k x.1 x.2.1 x.2.2.1 x.2.2.2))]
theorem F_ip_four.cal0_ok {T : Type} (k : Nat) : HdsOk Try.prog (F_ip_four.cal0 (T := T) k) := ⟨F_csum_Sum.hd k, F_words_Get.hd k, trivial⟩
noncomputable def F_ip_four.nt34 : Notes := ⟨[], [], [], [], []⟩
noncomputable def F_ip_four.cal1 {T : Type} (k : Nat) : List (FuncId × Hd T) := (34, inlH tab (calOf (F_ip_four.cal0 k)) Go.Proofs.Try.f34 F_ip_four.nt34 k) :: F_ip_four.cal0 k
theorem F_ip_four.cal1_ok {T : Type} (k : Nat) : HdsOk Try.prog (F_ip_four.cal1 (T := T) k) := ⟨inlH_ok tab_ok (calOf_ok (F_ip_four.cal0_ok k)) mixed Try.func34 F_ip_four.nt34 k Try.call34, F_ip_four.cal0_ok k⟩
noncomputable def F_ip_four.nt63 : Notes := ⟨[], [], [], [], []⟩
noncomputable def F_ip_four.cal2 {T : Type} (k : Nat) : List (FuncId × Hd T) := (63, inlH tab (calOf (F_ip_four.cal1 k)) Go.Proofs.Try.f63 F_ip_four.nt63 k) :: F_ip_four.cal1 k
theorem F_ip_four.cal2_ok {T : Type} (k : Nat) : HdsOk Try.prog (F_ip_four.cal2 (T := T) k) := ⟨inlH_ok tab_ok (calOf_ok (F_ip_four.cal1_ok k)) mixed Try.func63 F_ip_four.nt63 k Try.call63, F_ip_four.cal1_ok k⟩
noncomputable def F_ip_four.cal {T : Type} (k : Nat) : List (FuncId × Hd T) := F_ip_four.cal2 k
theorem F_ip_four.cal_ok {T : Type} (k : Nat) : HdsOk Try.prog (F_ip_four.cal (T := T) k) := F_ip_four.cal2_ok k
noncomputable def F_ip_four.S (k : Nat) (a0 : ByteArray) : O (Int ⊕ (Int × ByteArray × ByteArray × Int × Int × Int × Int × Int × Int × Int × ByteArray × ByteArray)) :=
  O.cond (!(decide ((ByteArray.size a0 : Int) ≥ (20 : Int)))) (
   .ok (.inl (70 : Int))) (
   O.chk (decide (0 ≤ (0 : Int) ∧ (0 : Int) < (ByteArray.size a0 : Int))) (
    O.cond (!(decide ((ByteArray.size a0 : Int) ≥ (IntKind.i64.wrap ((4 : Int) * (IntKind.i64.wrap (bAnd .u8 (bt a0 (0 : Int)) (15 : Int)))))))) (
     .ok (.inl (70 : Int))) (
     O.bind (F_words_Get.S k a0 (6 : Int) (2 : Int) true) fun r3 =>
     O.cond (!(decide (r3.2 = (0 : Int)))) (
      .ok (.inl (70 : Int))) (
      O.cond (decide ((IntKind.i64.wrap ((4 : Int) * (IntKind.i64.wrap (bAnd .u8 (bt a0 (0 : Int)) (15 : Int))))) ≥ (20 : Int))) (
       O.cond (decide ((shR .i64 (IntKind.i64.wrap r3.1) (15 : Int)) = (0 : Int))) (
        O.bind (F_words_Get.S k a0 (2 : Int) (2 : Int) true) fun r7 =>
        O.cond (!(decide (r7.2 = (0 : Int)))) (
         .ok (.inl (70 : Int))) (
         O.cond (!(decide ((IntKind.i64.wrap r7.1) = (ByteArray.size a0 : Int)))) (
          .ok (.inl (71 : Int))) (
          O.chk (decide (0 ≤ (10 : Int) ∧ (10 : Int) ≤ (ByteArray.size a0 : Int))) (
           O.chk (decide (((ByteArray.size (ByteArray.extract a0 0 10) + ByteArray.size (⟨#[0, 0]⟩ : ByteArray) : Nat) : Int) ≤ 9223372036854775807)) (
            O.chk (decide (0 ≤ (12 : Int) ∧ (12 : Int) ≤ (IntKind.i64.wrap ((4 : Int) * (IntKind.i64.wrap (bAnd .u8 (bt a0 (0 : Int)) (15 : Int))))) ∧ (IntKind.i64.wrap ((4 : Int) * (IntKind.i64.wrap (bAnd .u8 (bt a0 (0 : Int)) (15 : Int))))) ≤ (ByteArray.size a0 : Int))) (
             O.chk (decide (((ByteArray.size ((ByteArray.extract a0 0 10) ++ (⟨#[0, 0]⟩ : ByteArray)) + ByteArray.size (ByteArray.extract a0 12 (IntKind.i64.wrap ((4 : Int) * (IntKind.i64.wrap (bAnd .u8 (bt a0 (0 : Int)) (15 : Int))))).toNat) : Nat) : Int) ≤ 9223372036854775807)) (
              O.bind (F_csum_Sum.S k (((ByteArray.extract a0 0 10) ++ (⟨#[0, 0]⟩ : ByteArray)) ++ (ByteArray.extract a0 12 (IntKind.i64.wrap ((4 : Int) * (IntKind.i64.wrap (bAnd .u8 (bt a0 (0 : Int)) (15 : Int))))).toNat))) fun r9 =>
              O.bind (F_words_Get.S k a0 (10 : Int) (2 : Int) true) fun r11 =>
              O.cond (!(decide (r11.2 = (0 : Int)))) (
               .ok (.inl (70 : Int))) (
               O.cond (!(decide (r9 = (IntKind.u16.wrap (IntKind.i64.wrap r11.1))))) (
                .ok (.inl (72 : Int))) (
                O.chk (decide (0 ≤ (1 : Int) ∧ (1 : Int) < (ByteArray.size a0 : Int))) (
                 O.chk (decide (0 ≤ (8 : Int) ∧ (8 : Int) < (ByteArray.size a0 : Int))) (
                  O.chk (decide (0 ≤ (9 : Int) ∧ (9 : Int) < (ByteArray.size a0 : Int))) (
                   O.chk (decide (0 ≤ (12 : Int) ∧ (12 : Int) ≤ (16 : Int) ∧ (16 : Int) ≤ (ByteArray.size a0 : Int))) (
                    O.chk (decide (0 ≤ (16 : Int) ∧ (16 : Int) ≤ (20 : Int) ∧ (20 : Int) ≤ (ByteArray.size a0 : Int))) (
                     O.chk (decide (0 ≤ (20 : Int) ∧ (20 : Int) ≤ (IntKind.i64.wrap ((4 : Int) * (IntKind.i64.wrap (bAnd .u8 (bt a0 (0 : Int)) (15 : Int))))) ∧ (IntKind.i64.wrap ((4 : Int) * (IntKind.i64.wrap (bAnd .u8 (bt a0 (0 : Int)) (15 : Int))))) ≤ (ByteArray.size a0 : Int))) (
                      O.chk (decide (0 ≤ (IntKind.i64.wrap ((4 : Int) * (IntKind.i64.wrap (bAnd .u8 (bt a0 (0 : Int)) (15 : Int))))) ∧ (IntKind.i64.wrap ((4 : Int) * (IntKind.i64.wrap (bAnd .u8 (bt a0 (0 : Int)) (15 : Int))))) ≤ (ByteArray.size a0 : Int))) (
                       O.bind (F_words_Get.S k a0 (4 : Int) (2 : Int) true) fun r13 =>
                       O.cond (!(decide (r13.2 = (0 : Int)))) (
                        .ok (.inl (70 : Int))) (
                        .ok (.inr ((4 : Int), (ByteArray.extract a0 12 16), (ByteArray.extract a0 16 20), (IntKind.i64.wrap (bt a0 (9 : Int))), (IntKind.i64.wrap (bt a0 (8 : Int))), (IntKind.i64.wrap (bt a0 (1 : Int))), (IntKind.i64.wrap r13.1), (shR .i64 (IntKind.i64.wrap r3.1) (13 : Int)), (bAnd .i64 (IntKind.i64.wrap r3.1) (8191 : Int)), (0 : Int), (ByteArray.extract a0 20 (IntKind.i64.wrap ((4 : Int) * (IntKind.i64.wrap (bAnd .u8 (bt a0 (0 : Int)) (15 : Int))))).toNat), (ByteArray.extract a0 (IntKind.i64.wrap ((4 : Int) * (IntKind.i64.wrap (bAnd .u8 (bt a0 (0 : Int)) (15 : Int))))).toNat (ByteArray.size a0))))))))))))))))))))) (
        .ok (.inl (71 : Int)))) (
       .ok (.inl (71 : Int)))))))
theorem F_ip_four.eq (k : Nat) (a0 : ByteArray) : evFn (T := Int ⊕ (Int × ByteArray × ByteArray × Int × Int × Int × Int × Int × Int × Int × ByteArray × ByteArray)) tab (calOf (F_ip_four.cal k)) Go.Proofs.Try.f45 F_ip_four.nt k [.str a0] [] ⟨0, false, []⟩ (fun v st => takeR F_ip_four.rt v st.H (fun x => .ok (.inr x))) (panE 91 true [.int .i64]) = F_ip_four.S k a0 := by kernel_rfl
theorem F_ip_four.ok (k : Nat) : FnOkE Try.prog 45 F_ip_four.as F_ip_four.rt 91 true [.int .i64] (fun (x : ByteArray) => F_ip_four.S k x) :=
  FnOkE.of_ev tab_ok (calOf_ok (F_ip_four.cal_ok k)) mixed Try.func45 F_ip_four.nt k (fun _ => rfl) (fun (x : ByteArray) => F_ip_four.eq k x)
theorem F_ip_four.hd {T : Type} (k : Nat) : HdOk Try.prog 45 (pureE (T := T) F_ip_four.as F_ip_four.rt 91 true [.int .i64] (fun (x : ByteArray) => F_ip_four.S k x)) :=
  pureE_ok rfl rfl (F_ip_four.ok k) Try.call45
/-! ### aqueduct/ip.six: function 46 -/
noncomputable def F_ip_six.as : As := .some (.one (.leaf .str))
noncomputable def F_ip_six.rt : Rt := .val (.agg (.cons (.leaf (.int .i64)) (.cons (.leaf .str) (.cons (.leaf .str) (.cons (.leaf (.int .i64)) (.cons (.leaf (.int .i64)) (.cons (.leaf (.int .i64)) (.cons (.leaf (.int .i64)) (.cons (.leaf (.int .i64)) (.cons (.leaf (.int .i64)) (.cons (.leaf (.int .i64)) (.cons (.leaf .str) (.one (.leaf .str))))))))))))))
noncomputable def F_ip_six.nt : Notes := ⟨[], [], [(4, [0, 1, 2, 3, 4, 5, 6, 7, 8, 9, 10, 11, 12, 13, 14, 15, 16, 17, 18])], [], []⟩
noncomputable def F_ip_six.cal0 {T : Type} (k : Nat) : List (FuncId × Hd T) := [(62, pureN F_words_Get.as F_words_Get.rt (fun (x : ByteArray × Int × Int × Bool) => F_words_Get.S k x.1 x.2.1 x.2.2.1 x.2.2.2))]
theorem F_ip_six.cal0_ok {T : Type} (k : Nat) : HdsOk Try.prog (F_ip_six.cal0 (T := T) k) := ⟨F_words_Get.hd k, trivial⟩
noncomputable def F_ip_six.nt34 : Notes := ⟨[], [], [], [], []⟩
noncomputable def F_ip_six.cal1 {T : Type} (k : Nat) : List (FuncId × Hd T) := (34, inlH tab (calOf (F_ip_six.cal0 k)) Go.Proofs.Try.f34 F_ip_six.nt34 k) :: F_ip_six.cal0 k
theorem F_ip_six.cal1_ok {T : Type} (k : Nat) : HdsOk Try.prog (F_ip_six.cal1 (T := T) k) := ⟨inlH_ok tab_ok (calOf_ok (F_ip_six.cal0_ok k)) mixed Try.func34 F_ip_six.nt34 k Try.call34, F_ip_six.cal0_ok k⟩
noncomputable def F_ip_six.nt63 : Notes := ⟨[], [], [], [], []⟩
noncomputable def F_ip_six.cal2 {T : Type} (k : Nat) : List (FuncId × Hd T) := (63, inlH tab (calOf (F_ip_six.cal1 k)) Go.Proofs.Try.f63 F_ip_six.nt63 k) :: F_ip_six.cal1 k
theorem F_ip_six.cal2_ok {T : Type} (k : Nat) : HdsOk Try.prog (F_ip_six.cal2 (T := T) k) := ⟨inlH_ok tab_ok (calOf_ok (F_ip_six.cal1_ok k)) mixed Try.func63 F_ip_six.nt63 k Try.call63, F_ip_six.cal1_ok k⟩
noncomputable def F_ip_six.cal {T : Type} (k : Nat) : List (FuncId × Hd T) := F_ip_six.cal2 k
theorem F_ip_six.cal_ok {T : Type} (k : Nat) : HdsOk Try.prog (F_ip_six.cal (T := T) k) := F_ip_six.cal2_ok k
noncomputable def F_ip_six.S (k : Nat) (a0 : ByteArray) : O (Int ⊕ (Int × ByteArray × ByteArray × Int × Int × Int × Int × Int × Int × Int × ByteArray × ByteArray)) :=
  O.cond (!(decide ((ByteArray.size a0 : Int) ≥ (40 : Int)))) (
   .ok (.inl (70 : Int))) (
   O.bind (F_words_Get.S k a0 (4 : Int) (2 : Int) true) fun r1 =>
   O.cond (!(decide (r1.2 = (0 : Int)))) (
    .ok (.inl (70 : Int))) (
    O.cond (!(decide ((IntKind.i64.wrap r1.1) = (IntKind.i64.wrap ((ByteArray.size a0 : Int) - (40 : Int)))))) (
     .ok (.inl (71 : Int))) (
     O.bind (F_words_Get.S k a0 (0 : Int) (4 : Int) true) fun r3 =>
     O.cond (!(decide (r3.2 = (0 : Int)))) (
      .ok (.inl (70 : Int))) (
      O.chk (decide (0 ≤ (6 : Int) ∧ (6 : Int) < (ByteArray.size a0 : Int))) (
       O.chk (decide (0 ≤ (7 : Int) ∧ (7 : Int) < (ByteArray.size a0 : Int))) (
        O.chk (decide (0 ≤ (8 : Int) ∧ (8 : Int) ≤ (24 : Int) ∧ (24 : Int) ≤ (ByteArray.size a0 : Int))) (
         O.chk (decide (0 ≤ (24 : Int) ∧ (24 : Int) ≤ (40 : Int) ∧ (40 : Int) ≤ (ByteArray.size a0 : Int))) (
          O.chk (decide (0 ≤ (40 : Int) ∧ (40 : Int) ≤ (ByteArray.size a0 : Int))) (
           .ok (.inr ((6 : Int), (ByteArray.extract a0 8 24), (ByteArray.extract a0 24 40), (IntKind.i64.wrap (bt a0 (6 : Int))), (IntKind.i64.wrap (bt a0 (7 : Int))), (bAnd .i64 (shR .i64 (IntKind.i64.wrap r3.1) (20 : Int)) (255 : Int)), (0 : Int), (0 : Int), (0 : Int), (bAnd .i64 (IntKind.i64.wrap r3.1) (1048575 : Int)), ByteArray.empty, (ByteArray.extract a0 40 (ByteArray.size a0)))))))))))))
theorem F_ip_six.eq (k : Nat) (a0 : ByteArray) : evFn (T := Int ⊕ (Int × ByteArray × ByteArray × Int × Int × Int × Int × Int × Int × Int × ByteArray × ByteArray)) tab (calOf (F_ip_six.cal k)) Go.Proofs.Try.f46 F_ip_six.nt k [.str a0] [] ⟨0, false, []⟩ (fun v st => takeR F_ip_six.rt v st.H (fun x => .ok (.inr x))) (panE 91 true [.int .i64]) = F_ip_six.S k a0 := by kernel_rfl
theorem F_ip_six.ok (k : Nat) : FnOkE Try.prog 46 F_ip_six.as F_ip_six.rt 91 true [.int .i64] (fun (x : ByteArray) => F_ip_six.S k x) :=
  FnOkE.of_ev tab_ok (calOf_ok (F_ip_six.cal_ok k)) mixed Try.func46 F_ip_six.nt k (fun _ => rfl) (fun (x : ByteArray) => F_ip_six.eq k x)
theorem F_ip_six.hd {T : Type} (k : Nat) : HdOk Try.prog 46 (pureE (T := T) F_ip_six.as F_ip_six.rt 91 true [.int .i64] (fun (x : ByteArray) => F_ip_six.S k x)) :=
  pureE_ok rfl rfl (F_ip_six.ok k) Try.call46
/-! ### aqueduct/ip.Parse: function 23 -/
noncomputable def F_ip_Parse.as : As := .some (.one (.leaf .str))
noncomputable def F_ip_Parse.rt : Rt := .tup (.cons (.agg (.cons (.leaf (.int .i64)) (.cons (.leaf .str) (.cons (.leaf .str) (.cons (.leaf (.int .i64)) (.cons (.leaf (.int .i64)) (.cons (.leaf (.int .i64)) (.cons (.leaf (.int .i64)) (.cons (.leaf (.int .i64)) (.cons (.leaf (.int .i64)) (.cons (.leaf (.int .i64)) (.cons (.leaf .str) (.one (.leaf .str)))))))))))))) (.one (.leaf (.int .i64))))
noncomputable def F_ip_Parse.nt : Notes := ⟨[], [], [], [], []⟩
noncomputable def F_ip_Parse.cal0 {T : Type} (k : Nat) : List (FuncId × Hd T) := [(45, pureE F_ip_four.as F_ip_four.rt 91 true [.int .i64] (fun (x : ByteArray) => F_ip_four.S k x)), (46, pureE F_ip_six.as F_ip_six.rt 91 true [.int .i64] (fun (x : ByteArray) => F_ip_six.S k x))]
theorem F_ip_Parse.cal0_ok {T : Type} (k : Nat) : HdsOk Try.prog (F_ip_Parse.cal0 (T := T) k) := ⟨F_ip_four.hd k, F_ip_six.hd k, trivial⟩
noncomputable def F_ip_Parse.nt33 : Notes := ⟨[], [], [], [], []⟩
noncomputable def F_ip_Parse.cal1 {T : Type} (k : Nat) : List (FuncId × Hd T) := (33, inlH tab (calOf (F_ip_Parse.cal0 k)) Go.Proofs.Try.f33 F_ip_Parse.nt33 k) :: F_ip_Parse.cal0 k
theorem F_ip_Parse.cal1_ok {T : Type} (k : Nat) : HdsOk Try.prog (F_ip_Parse.cal1 (T := T) k) := ⟨inlH_ok tab_ok (calOf_ok (F_ip_Parse.cal0_ok k)) mixed Try.func33 F_ip_Parse.nt33 k Try.call33, F_ip_Parse.cal0_ok k⟩
noncomputable def F_ip_Parse.nt34 : Notes := ⟨[], [], [], [], []⟩
noncomputable def F_ip_Parse.cal2 {T : Type} (k : Nat) : List (FuncId × Hd T) := (34, inlH tab (calOf (F_ip_Parse.cal1 k)) Go.Proofs.Try.f34 F_ip_Parse.nt34 k) :: F_ip_Parse.cal1 k
theorem F_ip_Parse.cal2_ok {T : Type} (k : Nat) : HdsOk Try.prog (F_ip_Parse.cal2 (T := T) k) := ⟨inlH_ok tab_ok (calOf_ok (F_ip_Parse.cal1_ok k)) mixed Try.func34 F_ip_Parse.nt34 k Try.call34, F_ip_Parse.cal1_ok k⟩
noncomputable def F_ip_Parse.cal {T : Type} (k : Nat) : List (FuncId × Hd T) := F_ip_Parse.cal2 k
theorem F_ip_Parse.cal_ok {T : Type} (k : Nat) : HdsOk Try.prog (F_ip_Parse.cal (T := T) k) := F_ip_Parse.cal2_ok k
noncomputable def F_ip_Parse.nt57 : Notes := ⟨[], [], [(7, [0, 1, 2, 3, 4, 5, 6, 7, 8, 9, 10, 11])], [], [(7, [5], [4])]⟩
noncomputable def F_ip_Parse.D : Dfs := [(57, Go.Proofs.Try.f57, F_ip_Parse.nt57)]
theorem F_ip_Parse.D_ok : DfsOk Try.prog F_ip_Parse.D := ⟨⟨Try.func57, Try.call57⟩, trivial⟩
noncomputable def F_ip_Parse.S (k : Nat) (a0 : ByteArray) : O ((Int × ByteArray × ByteArray × Int × Int × Int × Int × Int × Int × Int × ByteArray × ByteArray) × Int) :=
  O.cond (!(decide (a0 ≠ (⟨#[]⟩ : ByteArray)))) (
   .ok (((0 : Int), ByteArray.empty, ByteArray.empty, (0 : Int), (0 : Int), (0 : Int), (0 : Int), (0 : Int), (0 : Int), (0 : Int), ByteArray.empty, ByteArray.empty), (70 : Int))) (
   O.chk (decide (0 ≤ (0 : Int) ∧ (0 : Int) < (ByteArray.size a0 : Int))) (
    O.cond (decide ((shR .u8 (bt a0 (0 : Int)) (4 : Int)) = (4 : Int))) (
     O.sum (F_ip_four.S k a0) (fun e2 =>
      .ok (((0 : Int), ByteArray.empty, ByteArray.empty, (0 : Int), (0 : Int), (0 : Int), (0 : Int), (0 : Int), (0 : Int), (0 : Int), ByteArray.empty, ByteArray.empty), e2)) fun r1 =>
     .ok (r1, (0 : Int))) (
     O.cond (decide ((shR .u8 (bt a0 (0 : Int)) (4 : Int)) = (6 : Int))) (
      O.sum (F_ip_six.S k a0) (fun e4 =>
       .ok (((0 : Int), ByteArray.empty, ByteArray.empty, (0 : Int), (0 : Int), (0 : Int), (0 : Int), (0 : Int), (0 : Int), (0 : Int), ByteArray.empty, ByteArray.empty), e4)) fun r3 =>
      .ok (r3, (0 : Int))) (
      .ok (((0 : Int), ByteArray.empty, ByteArray.empty, (0 : Int), (0 : Int), (0 : Int), (0 : Int), (0 : Int), (0 : Int), (0 : Int), ByteArray.empty, ByteArray.empty), (71 : Int))))))
theorem F_ip_Parse.eq (k : Nat) (a0 : ByteArray) : evFnD (T := (Int × ByteArray × ByteArray × Int × Int × Int × Int × Int × Int × Int × ByteArray × ByteArray) × Int) tab (calOf (F_ip_Parse.cal k)) F_ip_Parse.D Go.Proofs.Try.f23 F_ip_Parse.nt k [.str a0] ⟨0, false, []⟩ (fun v st => takeR F_ip_Parse.rt v st.H .ok) panK = F_ip_Parse.S k a0 := by kernel_rfl
theorem F_ip_Parse.ok (k : Nat) : FnOk Try.prog 23 F_ip_Parse.as F_ip_Parse.rt (fun (x : ByteArray) => F_ip_Parse.S k x) :=
  FnOk.of_evD tab_ok (calOf_ok (F_ip_Parse.cal_ok k)) mixed F_ip_Parse.D_ok Try.func23 F_ip_Parse.nt k (fun _ => rfl) (fun (x : ByteArray) => F_ip_Parse.eq k x)
theorem F_ip_Parse.hd {T : Type} (k : Nat) : HdOk Try.prog 23 (pureN (T := T) F_ip_Parse.as F_ip_Parse.rt (fun (x : ByteArray) => F_ip_Parse.S k x)) :=
  pureN_ok rfl rfl (F_ip_Parse.ok k) Try.call23
/-! ### aqueduct/flow.ported: function 24 -/
noncomputable def F_flow_ported.as : As := .some (.one (.agg (.cons (.leaf (.int .i64)) (.cons (.leaf .str) (.cons (.leaf .str) (.cons (.leaf (.int .i64)) (.cons (.leaf (.int .i64)) (.cons (.leaf (.int .i64)) (.cons (.leaf (.int .i64)) (.cons (.leaf (.int .i64)) (.cons (.leaf (.int .i64)) (.cons (.leaf (.int .i64)) (.cons (.leaf .str) (.one (.leaf .str)))))))))))))))
noncomputable def F_flow_ported.rt : Rt := .val (.leaf (.int .i64))
noncomputable def F_flow_ported.nt : Notes := ⟨[], [], [], [], []⟩
noncomputable def F_flow_ported.cal0 {T : Type} (k : Nat) : List (FuncId × Hd T) := []
theorem F_flow_ported.cal0_ok {T : Type} (k : Nat) : HdsOk Try.prog (F_flow_ported.cal0 (T := T) k) := trivial
noncomputable def F_flow_ported.cal {T : Type} (k : Nat) : List (FuncId × Hd T) := F_flow_ported.cal0 k
theorem F_flow_ported.cal_ok {T : Type} (k : Nat) : HdsOk Try.prog (F_flow_ported.cal (T := T) k) := F_flow_ported.cal0_ok k
noncomputable def F_flow_ported.S (k : Nat) (a0 : Int × ByteArray × ByteArray × Int × Int × Int × Int × Int × Int × Int × ByteArray × ByteArray) : O Int :=
  O.cond (decide (a0.2.2.2.2.2.2.2.2.1 ≠ (0 : Int))) (
   .ok (0 : Int)) (
   O.cond (decide ((bAnd .i64 a0.2.2.2.2.2.2.2.1 (1 : Int)) ≠ (0 : Int))) (
    .ok (0 : Int)) (
    O.cond (decide ((ByteArray.size a0.2.2.2.2.2.2.2.2.2.2.2 : Int) < (4 : Int))) (
     .ok (0 : Int)) (
     O.cond (decide (a0.2.2.2.1 = (6 : Int))) (
      O.cond (decide (a0.1 = (6 : Int))) (
       .ok (5 : Int)) (
       O.cond (decide (a0.2.2.2.1 = (6 : Int))) (
        .ok (2 : Int)) (
        O.cond (decide (a0.2.2.2.1 = (17 : Int))) (
         O.cond (decide (a0.1 = (6 : Int))) (
          .ok (6 : Int)) (
          O.cond (decide (a0.2.2.2.1 = (17 : Int))) (
           .ok (3 : Int)) (
           .ok (0 : Int)))) (
         O.cond (decide (a0.2.2.2.1 = (17 : Int))) (
          .ok (3 : Int)) (
          .ok (0 : Int)))))) (
      O.cond (decide (a0.2.2.2.1 = (6 : Int))) (
       .ok (2 : Int)) (
       O.cond (decide (a0.2.2.2.1 = (17 : Int))) (
        O.cond (decide (a0.1 = (6 : Int))) (
         .ok (6 : Int)) (
         O.cond (decide (a0.2.2.2.1 = (17 : Int))) (
          .ok (3 : Int)) (
          .ok (0 : Int)))) (
        O.cond (decide (a0.2.2.2.1 = (17 : Int))) (
         .ok (3 : Int)) (
         .ok (0 : Int))))))))
theorem F_flow_ported.eq (k : Nat) (a0 : Int × ByteArray × ByteArray × Int × Int × Int × Int × Int × Int × Int × ByteArray × ByteArray) : evFn (T := Int) tab (calOf (F_flow_ported.cal k)) Go.Proofs.Try.f24 F_flow_ported.nt k [.agg [.int .i64 a0.1, .str a0.2.1, .str a0.2.2.1, .int .i64 a0.2.2.2.1, .int .i64 a0.2.2.2.2.1, .int .i64 a0.2.2.2.2.2.1, .int .i64 a0.2.2.2.2.2.2.1, .int .i64 a0.2.2.2.2.2.2.2.1, .int .i64 a0.2.2.2.2.2.2.2.2.1, .int .i64 a0.2.2.2.2.2.2.2.2.2.1, .str a0.2.2.2.2.2.2.2.2.2.2.1, .str a0.2.2.2.2.2.2.2.2.2.2.2]] [] ⟨0, false, []⟩ (fun v st => takeR F_flow_ported.rt v st.H .ok) panK = F_flow_ported.S k a0 := by kernel_rfl
theorem F_flow_ported.ok (k : Nat) : FnOk Try.prog 24 F_flow_ported.as F_flow_ported.rt (fun (x : Int × ByteArray × ByteArray × Int × Int × Int × Int × Int × Int × Int × ByteArray × ByteArray) => F_flow_ported.S k x) :=
  FnOk.of_ev tab_ok (calOf_ok (F_flow_ported.cal_ok k)) mixed Try.func24 F_flow_ported.nt k (fun _ => rfl) (fun (x : Int × ByteArray × ByteArray × Int × Int × Int × Int × Int × Int × Int × ByteArray × ByteArray) => F_flow_ported.eq k x)
theorem F_flow_ported.hd {T : Type} (k : Nat) : HdOk Try.prog 24 (pureN (T := T) F_flow_ported.as F_flow_ported.rt (fun (x : Int × ByteArray × ByteArray × Int × Int × Int × Int × Int × Int × Int × ByteArray × ByteArray) => F_flow_ported.S k x)) :=
  pureN_ok rfl rfl (F_flow_ported.ok k) Try.call24
/-! ### aqueduct/flow.Of: function 10 -/
noncomputable def F_flow_Of.as : As := .some (.one (.leaf .str))
noncomputable def F_flow_Of.rt : Rt := .val (.agg (.cons (.leaf (.int .i64)) (.one (.leaf .str))))
noncomputable def F_flow_Of.nt : Notes := ⟨[], [], [(8, [0, 2, 3, 4, 5, 6, 1, 7, 8, 9]), (11, [0, 1, 2, 3, 4, 5, 6, 7])], [], []⟩
noncomputable def F_flow_Of.cal0 {T : Type} (k : Nat) : List (FuncId × Hd T) := [(21, pureN F_eth_Parse.as F_eth_Parse.rt (fun (x : ByteArray) => F_eth_Parse.S k x)), (22, pureN F_flow_version.as F_flow_version.rt (fun (x : Int) => F_flow_version.S k x)), (23, pureN F_ip_Parse.as F_ip_Parse.rt (fun (x : ByteArray) => F_ip_Parse.S k x)), (24, pureN F_flow_ported.as F_flow_ported.rt (fun (x : Int × ByteArray × ByteArray × Int × Int × Int × Int × Int × Int × Int × ByteArray × ByteArray) => F_flow_ported.S k x))]
theorem F_flow_Of.cal0_ok {T : Type} (k : Nat) : HdsOk Try.prog (F_flow_Of.cal0 (T := T) k) := ⟨F_eth_Parse.hd k, F_flow_version.hd k, F_ip_Parse.hd k, F_flow_ported.hd k, trivial⟩
noncomputable def F_flow_Of.cal {T : Type} (k : Nat) : List (FuncId × Hd T) := F_flow_Of.cal0 k
theorem F_flow_Of.cal_ok {T : Type} (k : Nat) : HdsOk Try.prog (F_flow_Of.cal (T := T) k) := F_flow_Of.cal0_ok k
noncomputable def F_flow_Of.S (k : Nat) (a0 : ByteArray) : O (Int × ByteArray) :=
  O.bind (F_eth_Parse.S k a0) fun r3 =>
  O.bind (F_flow_version.S k r3.1.2.2.2.2.1) fun r7 =>
  O.cond (decide (r3.2 ≠ (0 : Int))) (
   .ok ((0 : Int), ByteArray.empty)) (
   O.cond (decide (r7 = (0 : Int))) (
    .ok ((0 : Int), ByteArray.empty)) (
    O.bind (F_ip_Parse.S k r3.1.2.2.2.2.2) fun r11 =>
    O.cond (decide (r11.2 ≠ (0 : Int))) (
     .ok ((0 : Int), ByteArray.empty)) (
     O.cond (decide (r11.1.1 ≠ r7)) (
      .ok ((0 : Int), ByteArray.empty)) (
      O.chk (decide (((ByteArray.size r11.1.2.1 + ByteArray.size r11.1.2.2.1 : Nat) : Int) ≤ 9223372036854775807)) (
       O.twice (
        O.bind (F_flow_ported.S k r11.1) fun r13 =>
        O.cond (decide (r13 ≠ (0 : Int))) (
         O.chk (decide (0 ≤ (4 : Int) ∧ (4 : Int) ≤ (ByteArray.size r11.1.2.2.2.2.2.2.2.2.2.2.2 : Int))) (
          O.chk (decide (((ByteArray.size (r11.1.2.1 ++ r11.1.2.2.1) + ByteArray.size (ByteArray.extract r11.1.2.2.2.2.2.2.2.2.2.2.2 0 4) : Nat) : Int) ≤ 9223372036854775807)) (
           .ok (r13, ((r11.1.2.1 ++ r11.1.2.2.1) ++ (ByteArray.extract r11.1.2.2.2.2.2.2.2.2.2.2.2 0 4)))))) (
         O.cond (decide (r7 = (4 : Int))) (
          .ok ((1 : Int), (r11.1.2.1 ++ r11.1.2.2.1))) (
          .ok ((4 : Int), (r11.1.2.1 ++ r11.1.2.2.1))))))))))
theorem F_flow_Of.eq (k : Nat) (a0 : ByteArray) : evFn (T := Int × ByteArray) tab (calOf (F_flow_Of.cal k)) Go.Proofs.Try.f10 F_flow_Of.nt k [.str a0] [] ⟨0, false, []⟩ (fun v st => takeR F_flow_Of.rt v st.H .ok) panK = F_flow_Of.S k a0 := by kernel_rfl
theorem F_flow_Of.ok (k : Nat) : FnOk Try.prog 10 F_flow_Of.as F_flow_Of.rt (fun (x : ByteArray) => F_flow_Of.S k x) :=
  FnOk.of_ev tab_ok (calOf_ok (F_flow_Of.cal_ok k)) mixed Try.func10 F_flow_Of.nt k (fun _ => rfl) (fun (x : ByteArray) => F_flow_Of.eq k x)
theorem F_flow_Of.hd {T : Type} (k : Nat) : HdOk Try.prog 10 (pureN (T := T) F_flow_Of.as F_flow_Of.rt (fun (x : ByteArray) => F_flow_Of.S k x)) :=
  pureN_ok rfl rfl (F_flow_Of.ok k) Try.call10
/-! ### aqueduct/flow.Less: function 12 -/
noncomputable def F_flow_Less.as : As := .some (.one (.agg (.cons (.leaf (.int .i64)) (.one (.leaf .str)))))
noncomputable def F_flow_Less.rt : Rt := .val (.agg (.cons (.leaf (.int .i64)) (.one (.leaf .str))))
noncomputable def F_flow_Less.nt : Notes := ⟨[], [], [], [], []⟩
noncomputable def F_flow_Less.cal0 {T : Type} (k : Nat) : List (FuncId × Hd T) := []
theorem F_flow_Less.cal0_ok {T : Type} (k : Nat) : HdsOk Try.prog (F_flow_Less.cal0 (T := T) k) := trivial
noncomputable def F_flow_Less.cal {T : Type} (k : Nat) : List (FuncId × Hd T) := F_flow_Less.cal0 k
theorem F_flow_Less.cal_ok {T : Type} (k : Nat) : HdsOk Try.prog (F_flow_Less.cal (T := T) k) := F_flow_Less.cal0_ok k
noncomputable def F_flow_Less.S (k : Nat) (a0 : Int × ByteArray) : O (Int × ByteArray) :=
  O.cond (decide (a0.1 = (2 : Int))) (
   O.cond (decide (a0.1 = (2 : Int))) (
    O.chk (decide (0 ≤ (min (ByteArray.size a0.2 : Int) (8 : Int)) ∧ (min (ByteArray.size a0.2 : Int) (8 : Int)) ≤ (ByteArray.size a0.2 : Int))) (
     .ok ((1 : Int), (ByteArray.extract a0.2 0 (min (ByteArray.size a0.2 : Int) (8 : Int)).toNat)))) (
    O.cond (decide (a0.1 = (5 : Int))) (
     O.cond (decide (a0.1 = (5 : Int))) (
      O.chk (decide (0 ≤ (min (ByteArray.size a0.2 : Int) (32 : Int)) ∧ (min (ByteArray.size a0.2 : Int) (32 : Int)) ≤ (ByteArray.size a0.2 : Int))) (
       .ok ((4 : Int), (ByteArray.extract a0.2 0 (min (ByteArray.size a0.2 : Int) (32 : Int)).toNat)))) (
      .ok a0)) (
     O.cond (decide (a0.1 = (6 : Int))) (
      O.chk (decide (0 ≤ (min (ByteArray.size a0.2 : Int) (32 : Int)) ∧ (min (ByteArray.size a0.2 : Int) (32 : Int)) ≤ (ByteArray.size a0.2 : Int))) (
       .ok ((4 : Int), (ByteArray.extract a0.2 0 (min (ByteArray.size a0.2 : Int) (32 : Int)).toNat)))) (
      .ok a0)))) (
   O.cond (decide (a0.1 = (3 : Int))) (
    O.chk (decide (0 ≤ (min (ByteArray.size a0.2 : Int) (8 : Int)) ∧ (min (ByteArray.size a0.2 : Int) (8 : Int)) ≤ (ByteArray.size a0.2 : Int))) (
     .ok ((1 : Int), (ByteArray.extract a0.2 0 (min (ByteArray.size a0.2 : Int) (8 : Int)).toNat)))) (
    O.cond (decide (a0.1 = (5 : Int))) (
     O.cond (decide (a0.1 = (5 : Int))) (
      O.chk (decide (0 ≤ (min (ByteArray.size a0.2 : Int) (32 : Int)) ∧ (min (ByteArray.size a0.2 : Int) (32 : Int)) ≤ (ByteArray.size a0.2 : Int))) (
       .ok ((4 : Int), (ByteArray.extract a0.2 0 (min (ByteArray.size a0.2 : Int) (32 : Int)).toNat)))) (
      .ok a0)) (
     O.cond (decide (a0.1 = (6 : Int))) (
      O.chk (decide (0 ≤ (min (ByteArray.size a0.2 : Int) (32 : Int)) ∧ (min (ByteArray.size a0.2 : Int) (32 : Int)) ≤ (ByteArray.size a0.2 : Int))) (
       .ok ((4 : Int), (ByteArray.extract a0.2 0 (min (ByteArray.size a0.2 : Int) (32 : Int)).toNat)))) (
      .ok a0))))
theorem F_flow_Less.eq (k : Nat) (a0 : Int × ByteArray) : evFn (T := Int × ByteArray) tab (calOf (F_flow_Less.cal k)) Go.Proofs.Try.f12 F_flow_Less.nt k [.agg [.int .i64 a0.1, .str a0.2]] [] ⟨0, false, []⟩ (fun v st => takeR F_flow_Less.rt v st.H .ok) panK = F_flow_Less.S k a0 := by kernel_rfl
theorem F_flow_Less.ok (k : Nat) : FnOk Try.prog 12 F_flow_Less.as F_flow_Less.rt (fun (x : Int × ByteArray) => F_flow_Less.S k x) :=
  FnOk.of_ev tab_ok (calOf_ok (F_flow_Less.cal_ok k)) mixed Try.func12 F_flow_Less.nt k (fun _ => rfl) (fun (x : Int × ByteArray) => F_flow_Less.eq k x)
theorem F_flow_Less.hd {T : Type} (k : Nat) : HdOk Try.prog 12 (pureN (T := T) F_flow_Less.as F_flow_Less.rt (fun (x : Int × ByteArray) => F_flow_Less.S k x)) :=
  pureN_ok rfl rfl (F_flow_Less.ok k) Try.call12
/-! ### aqueduct/segment.may: function 51 -/
noncomputable def F_segment_may.as : As := .some (.one (.agg (.cons (.leaf (.int .i64)) (.cons (.leaf .str) (.cons (.leaf .str) (.cons (.leaf (.int .i64)) (.cons (.leaf (.int .i64)) (.cons (.leaf (.int .i64)) (.cons (.leaf (.int .i64)) (.cons (.leaf (.int .i64)) (.cons (.leaf (.int .i64)) (.cons (.leaf (.int .i64)) (.cons (.leaf .str) (.one (.leaf .str)))))))))))))))
noncomputable def F_segment_may.rt : Rt := .unit
noncomputable def F_segment_may.nt : Notes := ⟨[], [(4, [1, 2])], [], [], []⟩
noncomputable def F_segment_may.cal0 {T : Type} (k : Nat) : List (FuncId × Hd T) := []
theorem F_segment_may.cal0_ok {T : Type} (k : Nat) : HdsOk Try.prog (F_segment_may.cal0 (T := T) k) := trivial
noncomputable def F_segment_may.nt53 : Notes := ⟨[], [], [], [], []⟩
noncomputable def F_segment_may.cal1 {T : Type} (k : Nat) : List (FuncId × Hd T) := (53, inlH tab (calOf (F_segment_may.cal0 k)) Go.Proofs.Try.f53 F_segment_may.nt53 k) :: F_segment_may.cal0 k
theorem F_segment_may.cal1_ok {T : Type} (k : Nat) : HdsOk Try.prog (F_segment_may.cal1 (T := T) k) := ⟨inlH_ok tab_ok (calOf_ok (F_segment_may.cal0_ok k)) mixed Try.func53 F_segment_may.nt53 k Try.call53, F_segment_may.cal0_ok k⟩
noncomputable def F_segment_may.cal {T : Type} (k : Nat) : List (FuncId × Hd T) := F_segment_may.cal1 k
theorem F_segment_may.cal_ok {T : Type} (k : Nat) : HdsOk Try.prog (F_segment_may.cal (T := T) k) := F_segment_may.cal1_ok k
noncomputable def F_segment_may.j3_b (k : Nat) (a0 : Int × ByteArray × ByteArray × Int × Int × Int × Int × Int × Int × Int × ByteArray × ByteArray) (v1 : Int) : O (Int ⊕ Unit) :=
  O.cond (decide (a0.2.2.2.1 = (6 : Int))) (
   O.cond (decide (a0.2.2.2.2.2.2.2.2.1 = (0 : Int))) (
    O.cond (decide ((bAnd .i64 a0.2.2.2.2.2.2.2.1 (1 : Int)) = (0 : Int))) (
     O.cond (decide (a0.1 = (4 : Int))) (
      O.cond (decide ((ByteArray.size a0.2.1 : Int) = v1)) (
       O.cond (!(decide ((ByteArray.size a0.2.2.1 : Int) = v1))) (
        .ok (.inl (81 : Int))) (
        .ok (.inr ()))) (
       .ok (.inl (81 : Int)))) (
      O.cond (decide (a0.1 = (6 : Int))) (
       O.cond (decide ((ByteArray.size a0.2.1 : Int) = v1)) (
        O.cond (!(decide ((ByteArray.size a0.2.2.1 : Int) = v1))) (
         .ok (.inl (81 : Int))) (
         .ok (.inr ()))) (
        .ok (.inl (81 : Int)))) (
       .ok (.inl (81 : Int))))) (
     .ok (.inl (81 : Int)))) (
    .ok (.inl (81 : Int)))) (
   O.cond (decide (a0.2.2.2.1 = (17 : Int))) (
    O.cond (decide (a0.2.2.2.2.2.2.2.2.1 = (0 : Int))) (
     O.cond (decide ((bAnd .i64 a0.2.2.2.2.2.2.2.1 (1 : Int)) = (0 : Int))) (
      O.cond (decide (a0.1 = (4 : Int))) (
       O.cond (decide ((ByteArray.size a0.2.1 : Int) = v1)) (
        O.cond (!(decide ((ByteArray.size a0.2.2.1 : Int) = v1))) (
         .ok (.inl (81 : Int))) (
         .ok (.inr ()))) (
        .ok (.inl (81 : Int)))) (
       O.cond (decide (a0.1 = (6 : Int))) (
        O.cond (decide ((ByteArray.size a0.2.1 : Int) = v1)) (
         O.cond (!(decide ((ByteArray.size a0.2.2.1 : Int) = v1))) (
          .ok (.inl (81 : Int))) (
          .ok (.inr ()))) (
         .ok (.inl (81 : Int)))) (
        .ok (.inl (81 : Int))))) (
      .ok (.inl (81 : Int)))) (
     .ok (.inl (81 : Int)))) (
    .ok (.inl (81 : Int))))
noncomputable def F_segment_may.j3 (k : Nat) (a0 : Int × ByteArray × ByteArray × Int × Int × Int × Int × Int × Int × Int × ByteArray × ByteArray) (v1 : Int) : O (Int ⊕ Unit) := F_segment_may.j3_b k a0 v1
theorem F_segment_may.j3_eq (k : Nat) (a0 : Int × ByteArray × ByteArray × Int × Int × Int × Int × Int × Int × Int × ByteArray × ByteArray) (v1 : Int) : codeAt (T := Int ⊕ Unit) tab (calOf (F_segment_may.cal k)) Go.Proofs.Try.f51.ntmps F_segment_may.nt k [] [.r, .r, .r] (bodyOf Go.Proofs.Try.f51) (finK tab Go.Proofs.Try.f51.results.toList (fun v st => takeR F_segment_may.rt v st.H (fun x => .ok (.inr x))) (panE 82 true [.int .i64])) ⟨[(1, .ptr 0 0), (2, .int .i64 v1)], [], 0, []⟩ ⟨1, true, [(0, .cells 30 [.int .i64 a0.1, .str a0.2.1, .str a0.2.2.1, .int .i64 a0.2.2.2.1, .int .i64 a0.2.2.2.2.1, .int .i64 a0.2.2.2.2.2.1, .int .i64 a0.2.2.2.2.2.2.1, .int .i64 a0.2.2.2.2.2.2.2.1, .int .i64 a0.2.2.2.2.2.2.2.2.1, .int .i64 a0.2.2.2.2.2.2.2.2.2.1, .str a0.2.2.2.2.2.2.2.2.2.2.1, .str a0.2.2.2.2.2.2.2.2.2.2.2])]⟩ = F_segment_may.j3 k a0 v1 := by
    have h : codeAt (T := Int ⊕ Unit) tab (calOf (F_segment_may.cal k)) Go.Proofs.Try.f51.ntmps F_segment_may.nt k [] [.r, .r, .r] (bodyOf Go.Proofs.Try.f51) (finK tab Go.Proofs.Try.f51.results.toList (fun v st => takeR F_segment_may.rt v st.H (fun x => .ok (.inr x))) (panE 82 true [.int .i64])) ⟨[(1, .ptr 0 0), (2, .int .i64 v1)], [], 0, []⟩ ⟨1, true, [(0, .cells 30 [.int .i64 a0.1, .str a0.2.1, .str a0.2.2.1, .int .i64 a0.2.2.2.1, .int .i64 a0.2.2.2.2.1, .int .i64 a0.2.2.2.2.2.1, .int .i64 a0.2.2.2.2.2.2.1, .int .i64 a0.2.2.2.2.2.2.2.1, .int .i64 a0.2.2.2.2.2.2.2.2.1, .int .i64 a0.2.2.2.2.2.2.2.2.2.1, .str a0.2.2.2.2.2.2.2.2.2.2.1, .str a0.2.2.2.2.2.2.2.2.2.2.2])]⟩ = F_segment_may.j3_b k a0 v1 := (codeAt_eq _ _ _ _ _ _ _ _ _ _ _).trans (by show _ = _; kernel_rfl)
    exact h.trans (by rfl)
noncomputable def F_segment_may.top (k : Nat) (a0 : Int × ByteArray × ByteArray × Int × Int × Int × Int × Int × Int × Int × ByteArray × ByteArray) (D_j3 : Int → O (Int ⊕ Unit)) : O (Int ⊕ Unit) :=
  O.cond (decide (a0.1 = (4 : Int))) (
   D_j3 (4 : Int)) (
   D_j3 (16 : Int))
noncomputable def F_segment_may.S (k : Nat) (a0 : Int × ByteArray × ByteArray × Int × Int × Int × Int × Int × Int × Int × ByteArray × ByteArray) : O (Int ⊕ Unit) := F_segment_may.top k a0 ((fun (v1 : Int) => F_segment_may.j3 k a0 v1))
theorem F_segment_may.eq (k : Nat) (a0 : Int × ByteArray × ByteArray × Int × Int × Int × Int × Int × Int × Int × ByteArray × ByteArray) : evFn (T := Int ⊕ Unit) tab (calOf (F_segment_may.cal k)) Go.Proofs.Try.f51 F_segment_may.nt k [.agg [.int .i64 a0.1, .str a0.2.1, .str a0.2.2.1, .int .i64 a0.2.2.2.1, .int .i64 a0.2.2.2.2.1, .int .i64 a0.2.2.2.2.2.1, .int .i64 a0.2.2.2.2.2.2.1, .int .i64 a0.2.2.2.2.2.2.2.1, .int .i64 a0.2.2.2.2.2.2.2.2.1, .int .i64 a0.2.2.2.2.2.2.2.2.2.1, .str a0.2.2.2.2.2.2.2.2.2.2.1, .str a0.2.2.2.2.2.2.2.2.2.2.2]] [] ⟨0, false, []⟩ (fun v st => takeR F_segment_may.rt v st.H (fun x => .ok (.inr x))) (panE 82 true [.int .i64]) = F_segment_may.S k a0 := by
  have e0 : (fun (v1 : Int) => codeAt (T := Int ⊕ Unit) tab (calOf (F_segment_may.cal k)) Go.Proofs.Try.f51.ntmps F_segment_may.nt k [] [.r, .r, .r] (bodyOf Go.Proofs.Try.f51) (finK tab Go.Proofs.Try.f51.results.toList (fun v st => takeR F_segment_may.rt v st.H (fun x => .ok (.inr x))) (panE 82 true [.int .i64])) ⟨[(1, .ptr 0 0), (2, .int .i64 v1)], [], 0, []⟩ ⟨1, true, [(0, .cells 30 [.int .i64 a0.1, .str a0.2.1, .str a0.2.2.1, .int .i64 a0.2.2.2.1, .int .i64 a0.2.2.2.2.1, .int .i64 a0.2.2.2.2.2.1, .int .i64 a0.2.2.2.2.2.2.1, .int .i64 a0.2.2.2.2.2.2.2.1, .int .i64 a0.2.2.2.2.2.2.2.2.1, .int .i64 a0.2.2.2.2.2.2.2.2.2.1, .str a0.2.2.2.2.2.2.2.2.2.2.1, .str a0.2.2.2.2.2.2.2.2.2.2.2])]⟩) = (fun (v1 : Int) => F_segment_may.j3 k a0 v1) := by funext v1; exact F_segment_may.j3_eq k a0 v1
  have h : evFn (T := Int ⊕ Unit) tab (calOf (F_segment_may.cal k)) Go.Proofs.Try.f51 F_segment_may.nt k [.agg [.int .i64 a0.1, .str a0.2.1, .str a0.2.2.1, .int .i64 a0.2.2.2.1, .int .i64 a0.2.2.2.2.1, .int .i64 a0.2.2.2.2.2.1, .int .i64 a0.2.2.2.2.2.2.1, .int .i64 a0.2.2.2.2.2.2.2.1, .int .i64 a0.2.2.2.2.2.2.2.2.1, .int .i64 a0.2.2.2.2.2.2.2.2.2.1, .str a0.2.2.2.2.2.2.2.2.2.2.1, .str a0.2.2.2.2.2.2.2.2.2.2.2]] [] ⟨0, false, []⟩ (fun v st => takeR F_segment_may.rt v st.H (fun x => .ok (.inr x))) (panE 82 true [.int .i64]) = F_segment_may.top k a0 ((fun (v1 : Int) => codeAt (T := Int ⊕ Unit) tab (calOf (F_segment_may.cal k)) Go.Proofs.Try.f51.ntmps F_segment_may.nt k [] [.r, .r, .r] (bodyOf Go.Proofs.Try.f51) (finK tab Go.Proofs.Try.f51.results.toList (fun v st => takeR F_segment_may.rt v st.H (fun x => .ok (.inr x))) (panE 82 true [.int .i64])) ⟨[(1, .ptr 0 0), (2, .int .i64 v1)], [], 0, []⟩ ⟨1, true, [(0, .cells 30 [.int .i64 a0.1, .str a0.2.1, .str a0.2.2.1, .int .i64 a0.2.2.2.1, .int .i64 a0.2.2.2.2.1, .int .i64 a0.2.2.2.2.2.1, .int .i64 a0.2.2.2.2.2.2.1, .int .i64 a0.2.2.2.2.2.2.2.1, .int .i64 a0.2.2.2.2.2.2.2.2.1, .int .i64 a0.2.2.2.2.2.2.2.2.2.1, .str a0.2.2.2.2.2.2.2.2.2.2.1, .str a0.2.2.2.2.2.2.2.2.2.2.2])]⟩)) := by kernel_rfl
  exact h.trans (by rw [e0]; rfl)
theorem F_segment_may.ok (k : Nat) : FnOkE Try.prog 51 F_segment_may.as F_segment_may.rt 82 true [.int .i64] (fun (x : Int × ByteArray × ByteArray × Int × Int × Int × Int × Int × Int × Int × ByteArray × ByteArray) => F_segment_may.S k x) :=
  FnOkE.of_ev tab_ok (calOf_ok (F_segment_may.cal_ok k)) mixed Try.func51 F_segment_may.nt k (fun _ => rfl) (fun (x : Int × ByteArray × ByteArray × Int × Int × Int × Int × Int × Int × Int × ByteArray × ByteArray) => F_segment_may.eq k x)
theorem F_segment_may.hd {T : Type} (k : Nat) : HdOk Try.prog 51 (pureE (T := T) F_segment_may.as F_segment_may.rt 82 true [.int .i64] (fun (x : Int × ByteArray × ByteArray × Int × Int × Int × Int × Int × Int × Int × ByteArray × ByteArray) => F_segment_may.S k x)) :=
  pureE_ok rfl rfl (F_segment_may.ok k) Try.call51
/-! ### aqueduct/words.may: function 73 -/
noncomputable def F_words_may.as : As := .some (.cons (.leaf (.int .u64)) (.one (.leaf (.int .i64))))
noncomputable def F_words_may.rt : Rt := .val (.leaf .bool)
noncomputable def F_words_may.nt : Notes := ⟨[], [], [], [], []⟩
noncomputable def F_words_may.cal0 {T : Type} (k : Nat) : List (FuncId × Hd T) := []
theorem F_words_may.cal0_ok {T : Type} (k : Nat) : HdsOk Try.prog (F_words_may.cal0 (T := T) k) := trivial
noncomputable def F_words_may.cal {T : Type} (k : Nat) : List (FuncId × Hd T) := F_words_may.cal0 k
theorem F_words_may.cal_ok {T : Type} (k : Nat) : HdsOk Try.prog (F_words_may.cal (T := T) k) := F_words_may.cal0_ok k
noncomputable def F_words_may.S (k : Nat) (a0 : Int) (a1 : Int) : O Bool :=
  O.cond (decide (a1 ≥ (1 : Int))) (
   O.cond (decide (a1 ≤ (8 : Int))) (
    O.cond (decide (a1 = (8 : Int))) (
     .ok true) (
     O.chk (decide (0 ≤ (IntKind.i64.wrap ((8 : Int) * a1)))) (
      .ok (decide ((shR .u64 a0 (IntKind.i64.wrap ((8 : Int) * a1))) = (0 : Int)))))) (
    .ok false)) (
   .ok false)
theorem F_words_may.eq (k : Nat) (a0 : Int) (a1 : Int) : evFn (T := Bool) tab (calOf (F_words_may.cal k)) Go.Proofs.Try.f73 F_words_may.nt k [.int .u64 a0, .int .i64 a1] [] ⟨0, false, []⟩ (fun v st => takeR F_words_may.rt v st.H .ok) panK = F_words_may.S k a0 a1 := by kernel_rfl
theorem F_words_may.ok (k : Nat) : FnOk Try.prog 73 F_words_may.as F_words_may.rt (fun (x : Int × Int) => F_words_may.S k x.1 x.2) :=
  FnOk.of_ev tab_ok (calOf_ok (F_words_may.cal_ok k)) mixed Try.func73 F_words_may.nt k (fun _ => rfl) (fun (x : Int × Int) => F_words_may.eq k x.1 x.2)
theorem F_words_may.hd {T : Type} (k : Nat) : HdOk Try.prog 73 (pureN (T := T) F_words_may.as F_words_may.rt (fun (x : Int × Int) => F_words_may.S k x.1 x.2)) :=
  pureN_ok rfl rfl (F_words_may.ok k) Try.call73
/-! ### aqueduct/words.Put: function 66 -/
noncomputable def F_words_Put.as : As := .some (.cons (.leaf (.int .u64)) (.cons (.leaf (.int .i64)) (.one (.leaf .bool))))
noncomputable def F_words_Put.rt : Rt := .tup (.cons (.leaf .str) (.one (.leaf (.int .i64))))
noncomputable def F_words_Put.nt : Notes := ⟨[(5, [0, 1, 2, 8, 16, 17])], [], [], [], []⟩
noncomputable def F_words_Put.cal0 {T : Type} (k : Nat) : List (FuncId × Hd T) := [(71, pureN F_words_Turn.as F_words_Turn.rt (fun (x : ByteArray) => F_words_Turn.S k x)), (73, pureN F_words_may.as F_words_may.rt (fun (x : Int × Int) => F_words_may.S k x.1 x.2))]
theorem F_words_Put.cal0_ok {T : Type} (k : Nat) : HdsOk Try.prog (F_words_Put.cal0 (T := T) k) := ⟨F_words_Turn.hd k, F_words_may.hd k, trivial⟩
noncomputable def F_words_Put.cal {T : Type} (k : Nat) : List (FuncId × Hd T) := F_words_Put.cal0 k
theorem F_words_Put.cal_ok {T : Type} (k : Nat) : HdsOk Try.prog (F_words_Put.cal (T := T) k) := F_words_Put.cal0_ok k
noncomputable def F_words_Put.l0_b (k : Nat) (a0 : Int) (a1 : Int) (a2 : Bool) (R_l0 : Int → (List Int) → O (ByteArray × Int)) (v3 : Int) (v4 : List Int) : O (ByteArray × Int) :=
  O.cond (decide (v3 < a1)) (
   O.chk (decide (0 ≤ (IntKind.i64.wrap ((8 : Int) * v3)))) (
    O.chk (decide (0 ≤ (IntKind.i64.wrap ((IntKind.i64.wrap (a1 - (1 : Int))) - v3)) ∧ (IntKind.i64.wrap ((IntKind.i64.wrap (a1 - (1 : Int))) - v3)) < (List.length v4 : Int) ∧ (List.length v4 : Int) ≤ (List.length v4 : Int))) (
     O.chk (decide (0 ≤ (IntKind.i64.wrap ((IntKind.i64.wrap (a1 - (1 : Int))) - v3)) ∧ (IntKind.i64.wrap ((IntKind.i64.wrap (a1 - (1 : Int))) - v3)) < (List.length v4 : Int))) (
      R_l0 (IntKind.i64.wrap (v3 + (1 : Int))) (su v4 (IntKind.i64.wrap ((IntKind.i64.wrap (a1 - (1 : Int))) - v3)) (IntKind.u8.wrap (shR .u64 a0 (IntKind.i64.wrap ((8 : Int) * v3))))))))) (
   O.cond (!a2) (
    O.bind (F_words_Turn.S k (strOf v4)) fun r5 =>
    .ok (r5, (0 : Int))) (
    .ok ((strOf v4), (0 : Int))))
noncomputable def F_words_Put.l0 (k : Nat) (a0 : Int) (a1 : Int) (a2 : Bool) : Nat → Int → (List Int) → O (ByteArray × Int)
  | 0, _, _ => .no
  | j + 1, v3, v4 => F_words_Put.l0_b k a0 a1 a2 (F_words_Put.l0 k a0 a1 a2 j) v3 v4
theorem F_words_Put.l0_eq (k : Nat) (a0 : Int) (a1 : Int) (a2 : Bool) : ∀ (j : Nat) (v3 : Int) (v4 : List Int), loopAt (T := ByteArray × Int) tab (calOf (F_words_Put.cal k)) Go.Proofs.Try.f66.ntmps F_words_Put.nt k [] [.r, .r, .r, .l, .r, .b] (bodyOf Go.Proofs.Try.f66) (finK tab Go.Proofs.Try.f66.results.toList (fun v st => takeR F_words_Put.rt v st.H .ok) panK) j ⟨[(0, .int .u64 a0), (1, .int .i64 a1), (2, .bool a2), (8, .osl 0), (16, .int .i64 a1), (17, .int .i64 v3)], [], 0, []⟩ ⟨1, true, [(0, .row true 5 [.int .u8] v4)]⟩ = F_words_Put.l0 k a0 a1 a2 j v3 v4 := by
  intro j
  induction j with
  | zero => intro v3 v4; rfl
  | succ j ih =>
    intro v3 v4
    have rs : (fun (v3' : Int) (v4' : List Int) => loopAt (T := ByteArray × Int) tab (calOf (F_words_Put.cal k)) Go.Proofs.Try.f66.ntmps F_words_Put.nt k [] [.r, .r, .r, .l, .r, .b] (bodyOf Go.Proofs.Try.f66) (finK tab Go.Proofs.Try.f66.results.toList (fun v st => takeR F_words_Put.rt v st.H .ok) panK) j ⟨[(0, .int .u64 a0), (1, .int .i64 a1), (2, .bool a2), (8, .osl 0), (16, .int .i64 a1), (17, .int .i64 v3')], [], 0, []⟩ ⟨1, true, [(0, .row true 5 [.int .u8] v4')]⟩) = F_words_Put.l0 k a0 a1 a2 j := by funext v3' v4'; exact ih v3' v4'
    have h : loopAt (T := ByteArray × Int) tab (calOf (F_words_Put.cal k)) Go.Proofs.Try.f66.ntmps F_words_Put.nt k [] [.r, .r, .r, .l, .r, .b] (bodyOf Go.Proofs.Try.f66) (finK tab Go.Proofs.Try.f66.results.toList (fun v st => takeR F_words_Put.rt v st.H .ok) panK) (j + 1) ⟨[(0, .int .u64 a0), (1, .int .i64 a1), (2, .bool a2), (8, .osl 0), (16, .int .i64 a1), (17, .int .i64 v3)], [], 0, []⟩ ⟨1, true, [(0, .row true 5 [.int .u8] v4)]⟩ = F_words_Put.l0_b k a0 a1 a2 ((fun (v3' : Int) (v4' : List Int) => loopAt (T := ByteArray × Int) tab (calOf (F_words_Put.cal k)) Go.Proofs.Try.f66.ntmps F_words_Put.nt k [] [.r, .r, .r, .l, .r, .b] (bodyOf Go.Proofs.Try.f66) (finK tab Go.Proofs.Try.f66.results.toList (fun v st => takeR F_words_Put.rt v st.H .ok) panK) j ⟨[(0, .int .u64 a0), (1, .int .i64 a1), (2, .bool a2), (8, .osl 0), (16, .int .i64 a1), (17, .int .i64 v3')], [], 0, []⟩ ⟨1, true, [(0, .row true 5 [.int .u8] v4')]⟩)) v3 v4 := by kernel_rfl
    exact h.trans (by rw [rs]; rfl)
noncomputable def F_words_Put.top (k : Nat) (a0 : Int) (a1 : Int) (a2 : Bool) (D_l0 : Int → (List Int) → O (ByteArray × Int)) : O (ByteArray × Int) :=
  O.bind (F_words_may.S k a0 a1) fun r1 =>
  O.cond (!r1) (
   .ok ((⟨#[]⟩ : ByteArray), (1 : Int))) (
   O.chk (decide (0 ≤ a1 ∧ a1 = a1 ∧ a1 ≤ 1073741824)) (
    D_l0 (0 : Int) (List.replicate a1.toNat (0 : Int))))
noncomputable def F_words_Put.S (k : Nat) (a0 : Int) (a1 : Int) (a2 : Bool) : O (ByteArray × Int) := F_words_Put.top k a0 a1 a2 ((fun (v3 : Int) (v4 : List Int) => F_words_Put.l0 k a0 a1 a2 k v3 v4))
theorem F_words_Put.eq (k : Nat) (a0 : Int) (a1 : Int) (a2 : Bool) : evFn (T := ByteArray × Int) tab (calOf (F_words_Put.cal k)) Go.Proofs.Try.f66 F_words_Put.nt k [.int .u64 a0, .int .i64 a1, .bool a2] [] ⟨0, false, []⟩ (fun v st => takeR F_words_Put.rt v st.H .ok) panK = F_words_Put.S k a0 a1 a2 := by
  have e0 : (fun (v3 : Int) (v4 : List Int) => loopAt (T := ByteArray × Int) tab (calOf (F_words_Put.cal k)) Go.Proofs.Try.f66.ntmps F_words_Put.nt k [] [.r, .r, .r, .l, .r, .b] (bodyOf Go.Proofs.Try.f66) (finK tab Go.Proofs.Try.f66.results.toList (fun v st => takeR F_words_Put.rt v st.H .ok) panK) k ⟨[(0, .int .u64 a0), (1, .int .i64 a1), (2, .bool a2), (8, .osl 0), (16, .int .i64 a1), (17, .int .i64 v3)], [], 0, []⟩ ⟨1, true, [(0, .row true 5 [.int .u8] v4)]⟩) = (fun (v3 : Int) (v4 : List Int) => F_words_Put.l0 k a0 a1 a2 k v3 v4) := by funext v3 v4; exact F_words_Put.l0_eq k a0 a1 a2 k v3 v4
  have h : evFn (T := ByteArray × Int) tab (calOf (F_words_Put.cal k)) Go.Proofs.Try.f66 F_words_Put.nt k [.int .u64 a0, .int .i64 a1, .bool a2] [] ⟨0, false, []⟩ (fun v st => takeR F_words_Put.rt v st.H .ok) panK = F_words_Put.top k a0 a1 a2 ((fun (v3 : Int) (v4 : List Int) => loopAt (T := ByteArray × Int) tab (calOf (F_words_Put.cal k)) Go.Proofs.Try.f66.ntmps F_words_Put.nt k [] [.r, .r, .r, .l, .r, .b] (bodyOf Go.Proofs.Try.f66) (finK tab Go.Proofs.Try.f66.results.toList (fun v st => takeR F_words_Put.rt v st.H .ok) panK) k ⟨[(0, .int .u64 a0), (1, .int .i64 a1), (2, .bool a2), (8, .osl 0), (16, .int .i64 a1), (17, .int .i64 v3)], [], 0, []⟩ ⟨1, true, [(0, .row true 5 [.int .u8] v4)]⟩)) := by kernel_rfl
  exact h.trans (by rw [e0]; rfl)
theorem F_words_Put.ok (k : Nat) : FnOk Try.prog 66 F_words_Put.as F_words_Put.rt (fun (x : Int × Int × Bool) => F_words_Put.S k x.1 x.2.1 x.2.2) :=
  FnOk.of_ev tab_ok (calOf_ok (F_words_Put.cal_ok k)) mixed Try.func66 F_words_Put.nt k (fun _ => rfl) (fun (x : Int × Int × Bool) => F_words_Put.eq k x.1 x.2.1 x.2.2)
theorem F_words_Put.hd {T : Type} (k : Nat) : HdOk Try.prog 66 (pureN (T := T) F_words_Put.as F_words_Put.rt (fun (x : Int × Int × Bool) => F_words_Put.S k x.1 x.2.1 x.2.2)) :=
  pureN_ok rfl rfl (F_words_Put.ok k) Try.call66
/-! ### aqueduct/segment.bare: function 29 -/
noncomputable def F_segment_bare.as : As := .some (.cons (.agg (.cons (.leaf (.int .i64)) (.cons (.leaf .str) (.cons (.leaf .str) (.cons (.leaf (.int .i64)) (.cons (.leaf (.int .i64)) (.cons (.leaf (.int .i64)) (.cons (.leaf (.int .i64)) (.cons (.leaf (.int .i64)) (.cons (.leaf (.int .i64)) (.cons (.leaf (.int .i64)) (.cons (.leaf .str) (.one (.leaf .str)))))))))))))) (.one (.agg (.cons (.leaf (.int .i64)) (.cons (.leaf (.int .i64)) (.cons (.leaf (.int .u32)) (.cons (.leaf (.int .u32)) (.cons (.leaf (.int .i64)) (.cons (.leaf (.int .i64)) (.cons (.leaf (.int .i64)) (.cons (.leaf .str) (.cons (.leaf .str) (.one (.leaf .bool))))))))))))))
noncomputable def F_segment_bare.rt : Rt := .val (.leaf .str)
noncomputable def F_segment_bare.nt : Notes := ⟨[], [], [(2, [0, 1, 3, 4, 2, 5, 6, 7]), (5, [0, 1, 2, 3, 4, 8, 9, 5, 6, 7, 10, 11]), (8, [0, 1, 2, 3, 6, 7, 8, 11, 12, 13, 16, 17, 20, 21, 25, 26, 29, 30, 32, 33, 4, 5, 9, 10, 14, 15, 18, 19, 22, 23, 24, 27, 28, 31, 34, 35])], [], []⟩
noncomputable def F_segment_bare.cal0 {T : Type} (k : Nat) : List (FuncId × Hd T) := [(51, pureE F_segment_may.as F_segment_may.rt 82 true [.int .i64] (fun (x : Int × ByteArray × ByteArray × Int × Int × Int × Int × Int × Int × Int × ByteArray × ByteArray) => F_segment_may.S k x)), (66, pureN F_words_Put.as F_words_Put.rt (fun (x : Int × Int × Bool) => F_words_Put.S k x.1 x.2.1 x.2.2))]
theorem F_segment_bare.cal0_ok {T : Type} (k : Nat) : HdsOk Try.prog (F_segment_bare.cal0 (T := T) k) := ⟨F_segment_may.hd k, F_words_Put.hd k, trivial⟩
noncomputable def F_segment_bare.nt53 : Notes := ⟨[], [], [], [], []⟩
noncomputable def F_segment_bare.cal1 {T : Type} (k : Nat) : List (FuncId × Hd T) := (53, inlH tab (calOf (F_segment_bare.cal0 k)) Go.Proofs.Try.f53 F_segment_bare.nt53 k) :: F_segment_bare.cal0 k
theorem F_segment_bare.cal1_ok {T : Type} (k : Nat) : HdsOk Try.prog (F_segment_bare.cal1 (T := T) k) := ⟨inlH_ok tab_ok (calOf_ok (F_segment_bare.cal0_ok k)) mixed Try.func53 F_segment_bare.nt53 k Try.call53, F_segment_bare.cal0_ok k⟩
noncomputable def F_segment_bare.nt52 : Notes := ⟨[], [], [], [], []⟩
noncomputable def F_segment_bare.cal2 {T : Type} (k : Nat) : List (FuncId × Hd T) := (52, inlH tab (calOf (F_segment_bare.cal1 k)) Go.Proofs.Try.f52 F_segment_bare.nt52 k) :: F_segment_bare.cal1 k
theorem F_segment_bare.cal2_ok {T : Type} (k : Nat) : HdsOk Try.prog (F_segment_bare.cal2 (T := T) k) := ⟨inlH_ok tab_ok (calOf_ok (F_segment_bare.cal1_ok k)) mixed Try.func52 F_segment_bare.nt52 k Try.call52, F_segment_bare.cal1_ok k⟩
noncomputable def F_segment_bare.cal {T : Type} (k : Nat) : List (FuncId × Hd T) := F_segment_bare.cal2 k
theorem F_segment_bare.cal_ok {T : Type} (k : Nat) : HdsOk Try.prog (F_segment_bare.cal (T := T) k) := F_segment_bare.cal2_ok k
noncomputable def F_segment_bare.S (k : Nat) (a0 : Int × ByteArray × ByteArray × Int × Int × Int × Int × Int × Int × Int × ByteArray × ByteArray) (a1 : Int × Int × Int × Int × Int × Int × Int × ByteArray × ByteArray × Bool) : O (Int ⊕ ByteArray) :=
  O.sum (F_segment_may.S k a0) (fun e4 =>
   .ok (.inl e4)) fun r3 =>
  O.cond (!(decide (a1.1 ≥ (0 : Int)))) (
   .ok (.inl (81 : Int))) (
   O.bind (F_words_Put.S k (IntKind.u64.wrap a1.1) (2 : Int) true) fun r9 =>
   O.cond (!(decide (r9.2 = (0 : Int)))) (
    .ok (.inl (81 : Int))) (
    O.cond (!(decide (a1.2.1 ≥ (0 : Int)))) (
     .ok (.inl (81 : Int))) (
     O.bind (F_words_Put.S k (IntKind.u64.wrap a1.2.1) (2 : Int) true) fun r11 =>
     O.cond (!(decide (r11.2 = (0 : Int)))) (
      .ok (.inl (81 : Int))) (
      O.chk (decide (((ByteArray.size r9.1 + ByteArray.size r11.1 : Nat) : Int) ≤ 9223372036854775807)) (
       O.cond (decide (a0.2.2.2.1 = (17 : Int))) (
        O.cond (decide (a1.2.2.1 = (0 : Int))) (
         O.cond (decide (a1.2.2.2.1 = (0 : Int))) (
          O.cond (decide (a1.2.2.2.2.1 = (0 : Int))) (
           O.cond (decide (a1.2.2.2.2.2.1 = (0 : Int))) (
            O.cond (decide (a1.2.2.2.2.2.2.1 = (0 : Int))) (
             O.cond (decide (a1.2.2.2.2.2.2.2.1 = (⟨#[]⟩ : ByteArray))) (
              O.cond a1.2.2.2.2.2.2.2.2.2 (
               O.cond (!(decide (a0.1 = (6 : Int)))) (
                O.cond (!(decide ((ByteArray.size a1.2.2.2.2.2.2.2.2.1 : Int) ≤ (65527 : Int)))) (
                 .ok (.inl (81 : Int))) (
                 O.cond (!(decide ((IntKind.i64.wrap ((8 : Int) + (ByteArray.size a1.2.2.2.2.2.2.2.2.1 : Int))) ≥ (0 : Int)))) (
                  .ok (.inl (81 : Int))) (
                  O.bind (F_words_Put.S k (IntKind.u64.wrap (IntKind.i64.wrap ((8 : Int) + (ByteArray.size a1.2.2.2.2.2.2.2.2.1 : Int)))) (2 : Int) true) fun r17 =>
                  O.cond (!(decide (r17.2 = (0 : Int)))) (
                   .ok (.inl (81 : Int))) (
                   O.chk (decide (((ByteArray.size (r9.1 ++ r11.1) + ByteArray.size r17.1 : Nat) : Int) ≤ 9223372036854775807)) (
                    O.chk (decide (((ByteArray.size ((r9.1 ++ r11.1) ++ r17.1) + ByteArray.size (⟨#[0, 0]⟩ : ByteArray) : Nat) : Int) ≤ 9223372036854775807)) (
                     O.chk (decide (((ByteArray.size (((r9.1 ++ r11.1) ++ r17.1) ++ (⟨#[0, 0]⟩ : ByteArray)) + ByteArray.size a1.2.2.2.2.2.2.2.2.1 : Nat) : Int) ≤ 9223372036854775807)) (
                      .ok (.inr ((((r9.1 ++ r11.1) ++ r17.1) ++ (⟨#[0, 0]⟩ : ByteArray)) ++ a1.2.2.2.2.2.2.2.2.1))))))))) (
                .ok (.inl (81 : Int)))) (
               O.cond (!(decide ((ByteArray.size a1.2.2.2.2.2.2.2.2.1 : Int) ≤ (65527 : Int)))) (
                .ok (.inl (81 : Int))) (
                O.cond (!(decide ((IntKind.i64.wrap ((8 : Int) + (ByteArray.size a1.2.2.2.2.2.2.2.2.1 : Int))) ≥ (0 : Int)))) (
                 .ok (.inl (81 : Int))) (
                 O.bind (F_words_Put.S k (IntKind.u64.wrap (IntKind.i64.wrap ((8 : Int) + (ByteArray.size a1.2.2.2.2.2.2.2.2.1 : Int)))) (2 : Int) true) fun r19 =>
                 O.cond (!(decide (r19.2 = (0 : Int)))) (
                  .ok (.inl (81 : Int))) (
                  O.chk (decide (((ByteArray.size (r9.1 ++ r11.1) + ByteArray.size r19.1 : Nat) : Int) ≤ 9223372036854775807)) (
                   O.chk (decide (((ByteArray.size ((r9.1 ++ r11.1) ++ r19.1) + ByteArray.size (⟨#[0, 0]⟩ : ByteArray) : Nat) : Int) ≤ 9223372036854775807)) (
                    O.chk (decide (((ByteArray.size (((r9.1 ++ r11.1) ++ r19.1) ++ (⟨#[0, 0]⟩ : ByteArray)) + ByteArray.size a1.2.2.2.2.2.2.2.2.1 : Nat) : Int) ≤ 9223372036854775807)) (
                     .ok (.inr ((((r9.1 ++ r11.1) ++ r19.1) ++ (⟨#[0, 0]⟩ : ByteArray)) ++ a1.2.2.2.2.2.2.2.2.1)))))))))) (
              .ok (.inl (81 : Int)))) (
             .ok (.inl (81 : Int)))) (
            .ok (.inl (81 : Int)))) (
           .ok (.inl (81 : Int)))) (
          .ok (.inl (81 : Int)))) (
         .ok (.inl (81 : Int)))) (
        O.cond (!a1.2.2.2.2.2.2.2.2.2) (
         O.cond (decide ((ByteArray.size a1.2.2.2.2.2.2.2.1 : Int) ≤ (40 : Int))) (
          O.cond (decide ((Int.tmod (ByteArray.size a1.2.2.2.2.2.2.2.1 : Int) (4 : Int)) = (0 : Int))) (
           O.cond (!(decide ((ByteArray.size a1.2.2.2.2.2.2.2.2.1 : Int) ≤ (IntKind.i64.wrap ((65535 : Int) - (IntKind.i64.wrap ((20 : Int) + (ByteArray.size a1.2.2.2.2.2.2.2.1 : Int)))))))) (
            .ok (.inl (81 : Int))) (
            O.cond (!(decide ((IntKind.i64.wrap a1.2.2.1) ≥ (0 : Int)))) (
             .ok (.inl (81 : Int))) (
             O.bind (F_words_Put.S k (IntKind.u64.wrap (IntKind.i64.wrap a1.2.2.1)) (4 : Int) true) fun r21 =>
             O.cond (!(decide (r21.2 = (0 : Int)))) (
              .ok (.inl (81 : Int))) (
              O.chk (decide (((ByteArray.size (r9.1 ++ r11.1) + ByteArray.size r21.1 : Nat) : Int) ≤ 9223372036854775807)) (
               O.cond (!(decide ((IntKind.i64.wrap a1.2.2.2.1) ≥ (0 : Int)))) (
                .ok (.inl (81 : Int))) (
                O.bind (F_words_Put.S k (IntKind.u64.wrap (IntKind.i64.wrap a1.2.2.2.1)) (4 : Int) true) fun r23 =>
                O.cond (!(decide (r23.2 = (0 : Int)))) (
                 .ok (.inl (81 : Int))) (
                 O.chk (decide (((ByteArray.size ((r9.1 ++ r11.1) ++ r21.1) + ByteArray.size r23.1 : Nat) : Int) ≤ 9223372036854775807)) (
                  O.cond (!(decide ((shL .i64 (IntKind.i64.wrap (Int.tdiv (IntKind.i64.wrap ((20 : Int) + (ByteArray.size a1.2.2.2.2.2.2.2.1 : Int))) (4 : Int))) (4 : Int)) ≥ (0 : Int)))) (
                   .ok (.inl (81 : Int))) (
                   O.bind (F_words_Put.S k (IntKind.u64.wrap (shL .i64 (IntKind.i64.wrap (Int.tdiv (IntKind.i64.wrap ((20 : Int) + (ByteArray.size a1.2.2.2.2.2.2.2.1 : Int))) (4 : Int))) (4 : Int))) (1 : Int) true) fun r25 =>
                   O.cond (!(decide (r25.2 = (0 : Int)))) (
                    .ok (.inl (81 : Int))) (
                    O.chk (decide (((ByteArray.size (((r9.1 ++ r11.1) ++ r21.1) ++ r23.1) + ByteArray.size r25.1 : Nat) : Int) ≤ 9223372036854775807)) (
                     O.cond (!(decide (a1.2.2.2.2.1 ≥ (0 : Int)))) (
                      .ok (.inl (81 : Int))) (
                      O.bind (F_words_Put.S k (IntKind.u64.wrap a1.2.2.2.2.1) (1 : Int) true) fun r27 =>
                      O.cond (!(decide (r27.2 = (0 : Int)))) (
                       .ok (.inl (81 : Int))) (
                       O.chk (decide (((ByteArray.size ((((r9.1 ++ r11.1) ++ r21.1) ++ r23.1) ++ r25.1) + ByteArray.size r27.1 : Nat) : Int) ≤ 9223372036854775807)) (
                        O.cond (!(decide (a1.2.2.2.2.2.1 ≥ (0 : Int)))) (
                         .ok (.inl (81 : Int))) (
                         O.bind (F_words_Put.S k (IntKind.u64.wrap a1.2.2.2.2.2.1) (2 : Int) true) fun r29 =>
                         O.cond (!(decide (r29.2 = (0 : Int)))) (
                          .ok (.inl (81 : Int))) (
                          O.chk (decide (((ByteArray.size (((((r9.1 ++ r11.1) ++ r21.1) ++ r23.1) ++ r25.1) ++ r27.1) + ByteArray.size r29.1 : Nat) : Int) ≤ 9223372036854775807)) (
                           O.chk (decide (((ByteArray.size ((((((r9.1 ++ r11.1) ++ r21.1) ++ r23.1) ++ r25.1) ++ r27.1) ++ r29.1) + ByteArray.size (⟨#[0, 0]⟩ : ByteArray) : Nat) : Int) ≤ 9223372036854775807)) (
                            O.cond (!(decide (a1.2.2.2.2.2.2.1 ≥ (0 : Int)))) (
                             .ok (.inl (81 : Int))) (
                             O.bind (F_words_Put.S k (IntKind.u64.wrap a1.2.2.2.2.2.2.1) (2 : Int) true) fun r31 =>
                             O.cond (!(decide (r31.2 = (0 : Int)))) (
                              .ok (.inl (81 : Int))) (
                              O.chk (decide (((ByteArray.size (((((((r9.1 ++ r11.1) ++ r21.1) ++ r23.1) ++ r25.1) ++ r27.1) ++ r29.1) ++ (⟨#[0, 0]⟩ : ByteArray)) + ByteArray.size r31.1 : Nat) : Int) ≤ 9223372036854775807)) (
                               O.chk (decide (((ByteArray.size ((((((((r9.1 ++ r11.1) ++ r21.1) ++ r23.1) ++ r25.1) ++ r27.1) ++ r29.1) ++ (⟨#[0, 0]⟩ : ByteArray)) ++ r31.1) + ByteArray.size a1.2.2.2.2.2.2.2.1 : Nat) : Int) ≤ 9223372036854775807)) (
                                O.chk (decide (((ByteArray.size (((((((((r9.1 ++ r11.1) ++ r21.1) ++ r23.1) ++ r25.1) ++ r27.1) ++ r29.1) ++ (⟨#[0, 0]⟩ : ByteArray)) ++ r31.1) ++ a1.2.2.2.2.2.2.2.1) + ByteArray.size a1.2.2.2.2.2.2.2.2.1 : Nat) : Int) ≤ 9223372036854775807)) (
                                 .ok (.inr ((((((((((r9.1 ++ r11.1) ++ r21.1) ++ r23.1) ++ r25.1) ++ r27.1) ++ r29.1) ++ (⟨#[0, 0]⟩ : ByteArray)) ++ r31.1) ++ a1.2.2.2.2.2.2.2.1) ++ a1.2.2.2.2.2.2.2.2.1))))))))))))))))))))))))) (
           .ok (.inl (81 : Int)))) (
          .ok (.inl (81 : Int)))) (
         .ok (.inl (81 : Int)))))))))
theorem F_segment_bare.eq (k : Nat) (a0 : Int × ByteArray × ByteArray × Int × Int × Int × Int × Int × Int × Int × ByteArray × ByteArray) (a1 : Int × Int × Int × Int × Int × Int × Int × ByteArray × ByteArray × Bool) : evFn (T := Int ⊕ ByteArray) tab (calOf (F_segment_bare.cal k)) Go.Proofs.Try.f29 F_segment_bare.nt k [.agg [.int .i64 a0.1, .str a0.2.1, .str a0.2.2.1, .int .i64 a0.2.2.2.1, .int .i64 a0.2.2.2.2.1, .int .i64 a0.2.2.2.2.2.1, .int .i64 a0.2.2.2.2.2.2.1, .int .i64 a0.2.2.2.2.2.2.2.1, .int .i64 a0.2.2.2.2.2.2.2.2.1, .int .i64 a0.2.2.2.2.2.2.2.2.2.1, .str a0.2.2.2.2.2.2.2.2.2.2.1, .str a0.2.2.2.2.2.2.2.2.2.2.2], .agg [.int .i64 a1.1, .int .i64 a1.2.1, .int .u32 a1.2.2.1, .int .u32 a1.2.2.2.1, .int .i64 a1.2.2.2.2.1, .int .i64 a1.2.2.2.2.2.1, .int .i64 a1.2.2.2.2.2.2.1, .str a1.2.2.2.2.2.2.2.1, .str a1.2.2.2.2.2.2.2.2.1, .bool a1.2.2.2.2.2.2.2.2.2]] [] ⟨0, false, []⟩ (fun v st => takeR F_segment_bare.rt v st.H (fun x => .ok (.inr x))) (panE 82 true [.int .i64]) = F_segment_bare.S k a0 a1 := by kernel_rfl
theorem F_segment_bare.ok (k : Nat) : FnOkE Try.prog 29 F_segment_bare.as F_segment_bare.rt 82 true [.int .i64] (fun (x : (Int × ByteArray × ByteArray × Int × Int × Int × Int × Int × Int × Int × ByteArray × ByteArray) × (Int × Int × Int × Int × Int × Int × Int × ByteArray × ByteArray × Bool)) => F_segment_bare.S k x.1 x.2) :=
  FnOkE.of_ev tab_ok (calOf_ok (F_segment_bare.cal_ok k)) mixed Try.func29 F_segment_bare.nt k (fun _ => rfl) (fun (x : (Int × ByteArray × ByteArray × Int × Int × Int × Int × Int × Int × Int × ByteArray × ByteArray) × (Int × Int × Int × Int × Int × Int × Int × ByteArray × ByteArray × Bool)) => F_segment_bare.eq k x.1 x.2)
theorem F_segment_bare.hd {T : Type} (k : Nat) : HdOk Try.prog 29 (pureE (T := T) F_segment_bare.as F_segment_bare.rt 82 true [.int .i64] (fun (x : (Int × ByteArray × ByteArray × Int × Int × Int × Int × Int × Int × Int × ByteArray × ByteArray) × (Int × Int × Int × Int × Int × Int × Int × ByteArray × ByteArray × Bool)) => F_segment_bare.S k x.1 x.2)) :=
  pureE_ok rfl rfl (F_segment_bare.ok k) Try.call29
/-! ### aqueduct/segment.set: function 30 -/
noncomputable def F_segment_set.as : As := .some (.cons (.leaf .str) (.cons (.leaf (.int .i64)) (.one (.leaf (.int .u16)))))
noncomputable def F_segment_set.rt : Rt := .val (.leaf .str)
noncomputable def F_segment_set.nt : Notes := ⟨[], [], [(1, [0, 1, 2, 3, 4, 5, 6, 7, 11, 12, 13, 14, 8, 9, 10, 15, 16])], [], []⟩
noncomputable def F_segment_set.cal0 {T : Type} (k : Nat) : List (FuncId × Hd T) := []
theorem F_segment_set.cal0_ok {T : Type} (k : Nat) : HdsOk Try.prog (F_segment_set.cal0 (T := T) k) := trivial
noncomputable def F_segment_set.cal {T : Type} (k : Nat) : List (FuncId × Hd T) := F_segment_set.cal0 k
theorem F_segment_set.cal_ok {T : Type} (k : Nat) : HdsOk Try.prog (F_segment_set.cal (T := T) k) := F_segment_set.cal0_ok k
noncomputable def F_segment_set.S (k : Nat) (a0 : ByteArray) (a1 : Int) (a2 : Int) : O ByteArray :=
  O.chk (decide (0 ≤ a1 ∧ a1 ≤ (ByteArray.size a0 : Int))) (
   O.chk (decide (0 ≤ (IntKind.i64.wrap (a1 + (2 : Int))) ∧ (IntKind.i64.wrap (a1 + (2 : Int))) ≤ (ByteArray.size a0 : Int))) (
    O.chk (decide (((ByteArray.size (ByteArray.extract a0 0 a1.toNat) + ByteArray.size (strOf [(IntKind.u8.wrap (shR .u16 a2 (8 : Int))), (IntKind.u8.wrap a2)]) : Nat) : Int) ≤ 9223372036854775807)) (
     O.chk (decide (((ByteArray.size ((ByteArray.extract a0 0 a1.toNat) ++ (strOf [(IntKind.u8.wrap (shR .u16 a2 (8 : Int))), (IntKind.u8.wrap a2)])) + ByteArray.size (ByteArray.extract a0 (IntKind.i64.wrap (a1 + (2 : Int))).toNat (ByteArray.size a0)) : Nat) : Int) ≤ 9223372036854775807)) (
      .ok (((ByteArray.extract a0 0 a1.toNat) ++ (strOf [(IntKind.u8.wrap (shR .u16 a2 (8 : Int))), (IntKind.u8.wrap a2)])) ++ (ByteArray.extract a0 (IntKind.i64.wrap (a1 + (2 : Int))).toNat (ByteArray.size a0)))))))
theorem F_segment_set.eq (k : Nat) (a0 : ByteArray) (a1 : Int) (a2 : Int) : evFn (T := ByteArray) tab (calOf (F_segment_set.cal k)) Go.Proofs.Try.f30 F_segment_set.nt k [.str a0, .int .i64 a1, .int .u16 a2] [] ⟨0, false, []⟩ (fun v st => takeR F_segment_set.rt v st.H .ok) panK = F_segment_set.S k a0 a1 a2 := by kernel_rfl
theorem F_segment_set.ok (k : Nat) : FnOk Try.prog 30 F_segment_set.as F_segment_set.rt (fun (x : ByteArray × Int × Int) => F_segment_set.S k x.1 x.2.1 x.2.2) :=
  FnOk.of_ev tab_ok (calOf_ok (F_segment_set.cal_ok k)) mixed Try.func30 F_segment_set.nt k (fun _ => rfl) (fun (x : ByteArray × Int × Int) => F_segment_set.eq k x.1 x.2.1 x.2.2)
theorem F_segment_set.hd {T : Type} (k : Nat) : HdOk Try.prog 30 (pureN (T := T) F_segment_set.as F_segment_set.rt (fun (x : ByteArray × Int × Int) => F_segment_set.S k x.1 x.2.1 x.2.2)) :=
  pureN_ok rfl rfl (F_segment_set.ok k) Try.call30
/-! ### aqueduct/segment.place: function 31 -/
noncomputable def F_segment_place.as : As := .some (.one (.agg (.cons (.leaf (.int .i64)) (.cons (.leaf .str) (.cons (.leaf .str) (.cons (.leaf (.int .i64)) (.cons (.leaf (.int .i64)) (.cons (.leaf (.int .i64)) (.cons (.leaf (.int .i64)) (.cons (.leaf (.int .i64)) (.cons (.leaf (.int .i64)) (.cons (.leaf (.int .i64)) (.cons (.leaf .str) (.one (.leaf .str)))))))))))))))
noncomputable def F_segment_place.rt : Rt := .val (.leaf (.int .i64))
noncomputable def F_segment_place.nt : Notes := ⟨[], [], [], [], []⟩
noncomputable def F_segment_place.cal0 {T : Type} (k : Nat) : List (FuncId × Hd T) := []
theorem F_segment_place.cal0_ok {T : Type} (k : Nat) : HdsOk Try.prog (F_segment_place.cal0 (T := T) k) := trivial
noncomputable def F_segment_place.cal {T : Type} (k : Nat) : List (FuncId × Hd T) := F_segment_place.cal0 k
theorem F_segment_place.cal_ok {T : Type} (k : Nat) : HdsOk Try.prog (F_segment_place.cal (T := T) k) := F_segment_place.cal0_ok k
noncomputable def F_segment_place.S (k : Nat) (a0 : Int × ByteArray × ByteArray × Int × Int × Int × Int × Int × Int × Int × ByteArray × ByteArray) : O Int :=
  O.cond (decide (a0.2.2.2.1 = (6 : Int))) (
   .ok (16 : Int)) (
   .ok (6 : Int))
theorem F_segment_place.eq (k : Nat) (a0 : Int × ByteArray × ByteArray × Int × Int × Int × Int × Int × Int × Int × ByteArray × ByteArray) : evFn (T := Int) tab (calOf (F_segment_place.cal k)) Go.Proofs.Try.f31 F_segment_place.nt k [.agg [.int .i64 a0.1, .str a0.2.1, .str a0.2.2.1, .int .i64 a0.2.2.2.1, .int .i64 a0.2.2.2.2.1, .int .i64 a0.2.2.2.2.2.1, .int .i64 a0.2.2.2.2.2.2.1, .int .i64 a0.2.2.2.2.2.2.2.1, .int .i64 a0.2.2.2.2.2.2.2.2.1, .int .i64 a0.2.2.2.2.2.2.2.2.2.1, .str a0.2.2.2.2.2.2.2.2.2.2.1, .str a0.2.2.2.2.2.2.2.2.2.2.2]] [] ⟨0, false, []⟩ (fun v st => takeR F_segment_place.rt v st.H .ok) panK = F_segment_place.S k a0 := by kernel_rfl
theorem F_segment_place.ok (k : Nat) : FnOk Try.prog 31 F_segment_place.as F_segment_place.rt (fun (x : Int × ByteArray × ByteArray × Int × Int × Int × Int × Int × Int × Int × ByteArray × ByteArray) => F_segment_place.S k x) :=
  FnOk.of_ev tab_ok (calOf_ok (F_segment_place.cal_ok k)) mixed Try.func31 F_segment_place.nt k (fun _ => rfl) (fun (x : Int × ByteArray × ByteArray × Int × Int × Int × Int × Int × Int × Int × ByteArray × ByteArray) => F_segment_place.eq k x)
theorem F_segment_place.hd {T : Type} (k : Nat) : HdOk Try.prog 31 (pureN (T := T) F_segment_place.as F_segment_place.rt (fun (x : Int × ByteArray × ByteArray × Int × Int × Int × Int × Int × Int × Int × ByteArray × ByteArray) => F_segment_place.S k x)) :=
  pureN_ok rfl rfl (F_segment_place.ok k) Try.call31
/-! ### aqueduct/segment.full: function 54 -/
noncomputable def F_segment_full.as : As := .some (.one (.leaf (.int .u16)))
noncomputable def F_segment_full.rt : Rt := .val (.leaf (.int .u16))
noncomputable def F_segment_full.nt : Notes := ⟨[], [], [], [], []⟩
noncomputable def F_segment_full.cal0 {T : Type} (k : Nat) : List (FuncId × Hd T) := []
theorem F_segment_full.cal0_ok {T : Type} (k : Nat) : HdsOk Try.prog (F_segment_full.cal0 (T := T) k) := trivial
noncomputable def F_segment_full.cal {T : Type} (k : Nat) : List (FuncId × Hd T) := F_segment_full.cal0 k
theorem F_segment_full.cal_ok {T : Type} (k : Nat) : HdsOk Try.prog (F_segment_full.cal (T := T) k) := F_segment_full.cal0_ok k
noncomputable def F_segment_full.S (k : Nat) (a0 : Int) : O Int :=
  O.cond (decide (a0 = (0 : Int))) (
   .ok (65535 : Int)) (
   .ok a0)
theorem F_segment_full.eq (k : Nat) (a0 : Int) : evFn (T := Int) tab (calOf (F_segment_full.cal k)) Go.Proofs.Try.f54 F_segment_full.nt k [.int .u16 a0] [] ⟨0, false, []⟩ (fun v st => takeR F_segment_full.rt v st.H .ok) panK = F_segment_full.S k a0 := by kernel_rfl
theorem F_segment_full.ok (k : Nat) : FnOk Try.prog 54 F_segment_full.as F_segment_full.rt (fun (x : Int) => F_segment_full.S k x) :=
  FnOk.of_ev tab_ok (calOf_ok (F_segment_full.cal_ok k)) mixed Try.func54 F_segment_full.nt k (fun _ => rfl) (fun (x : Int) => F_segment_full.eq k x)
theorem F_segment_full.hd {T : Type} (k : Nat) : HdOk Try.prog 54 (pureN (T := T) F_segment_full.as F_segment_full.rt (fun (x : Int) => F_segment_full.S k x)) :=
  pureN_ok rfl rfl (F_segment_full.ok k) Try.call54
/-! ### aqueduct/ip.Pseudo: function 56 -/
noncomputable def F_ip_Pseudo.as : As := .some (.cons (.agg (.cons (.leaf (.int .i64)) (.cons (.leaf .str) (.cons (.leaf .str) (.cons (.leaf (.int .i64)) (.cons (.leaf (.int .i64)) (.cons (.leaf (.int .i64)) (.cons (.leaf (.int .i64)) (.cons (.leaf (.int .i64)) (.cons (.leaf (.int .i64)) (.cons (.leaf (.int .i64)) (.cons (.leaf .str) (.one (.leaf .str)))))))))))))) (.one (.leaf (.int .i64))))
noncomputable def F_ip_Pseudo.rt : Rt := .val (.leaf .str)
noncomputable def F_ip_Pseudo.nt : Notes := ⟨[], [], [(7, [0, 1, 2, 3, 4, 5, 6, 7, 8, 9, 10, 14, 18, 11, 12, 13, 15, 16, 17, 19, 20])], [], []⟩
noncomputable def F_ip_Pseudo.cal0 {T : Type} (k : Nat) : List (FuncId × Hd T) := [(68, pureN F_strings_Repeat.as F_strings_Repeat.rt (fun (x : ByteArray × Int) => F_strings_Repeat.S k x.1 x.2))]
theorem F_ip_Pseudo.cal0_ok {T : Type} (k : Nat) : HdsOk Try.prog (F_ip_Pseudo.cal0 (T := T) k) := ⟨F_strings_Repeat.hd k, trivial⟩
noncomputable def F_ip_Pseudo.cal {T : Type} (k : Nat) : List (FuncId × Hd T) := F_ip_Pseudo.cal0 k
theorem F_ip_Pseudo.cal_ok {T : Type} (k : Nat) : HdsOk Try.prog (F_ip_Pseudo.cal (T := T) k) := F_ip_Pseudo.cal0_ok k
noncomputable def F_ip_Pseudo.S (k : Nat) (a0 : Int × ByteArray × ByteArray × Int × Int × Int × Int × Int × Int × Int × ByteArray × ByteArray) (a1 : Int) : O ByteArray :=
  O.cond (decide (a0.1 = (4 : Int))) (
   O.chk (decide (((ByteArray.size a0.2.1 + ByteArray.size a0.2.2.1 : Nat) : Int) ≤ 9223372036854775807)) (
    O.chk (decide (((ByteArray.size (a0.2.1 ++ a0.2.2.1) + ByteArray.size (⟨#[0]⟩ : ByteArray) : Nat) : Int) ≤ 9223372036854775807)) (
     O.chk (decide (((ByteArray.size ((a0.2.1 ++ a0.2.2.1) ++ (⟨#[0]⟩ : ByteArray)) + ByteArray.size (strOf [(IntKind.u8.wrap a0.2.2.2.1)]) : Nat) : Int) ≤ 9223372036854775807)) (
      O.chk (decide (((ByteArray.size (((a0.2.1 ++ a0.2.2.1) ++ (⟨#[0]⟩ : ByteArray)) ++ (strOf [(IntKind.u8.wrap a0.2.2.2.1)])) + ByteArray.size (strOf [(IntKind.u8.wrap (shR .i64 a1 (8 : Int))), (IntKind.u8.wrap a1)]) : Nat) : Int) ≤ 9223372036854775807)) (
       .ok ((((a0.2.1 ++ a0.2.2.1) ++ (⟨#[0]⟩ : ByteArray)) ++ (strOf [(IntKind.u8.wrap a0.2.2.2.1)])) ++ (strOf [(IntKind.u8.wrap (shR .i64 a1 (8 : Int))), (IntKind.u8.wrap a1)]))))))) (
   O.cond (decide (a0.1 = (6 : Int))) (
    O.chk (decide (((ByteArray.size a0.2.1 + ByteArray.size a0.2.2.1 : Nat) : Int) ≤ 9223372036854775807)) (
     O.same (
      O.chk (decide (((ByteArray.size (a0.2.1 ++ a0.2.2.1) + ByteArray.size (strOf [(IntKind.u8.wrap (shR .i64 a1 (24 : Int))), (IntKind.u8.wrap (shR .i64 a1 (16 : Int)))]) : Nat) : Int) ≤ 9223372036854775807)) (
       O.chk (decide (((ByteArray.size ((a0.2.1 ++ a0.2.2.1) ++ (strOf [(IntKind.u8.wrap (shR .i64 a1 (24 : Int))), (IntKind.u8.wrap (shR .i64 a1 (16 : Int)))])) + ByteArray.size (strOf [(IntKind.u8.wrap (shR .i64 a1 (8 : Int))), (IntKind.u8.wrap a1)]) : Nat) : Int) ≤ 9223372036854775807)) (
        O.bind (F_strings_Repeat.S k (⟨#[0]⟩ : ByteArray) (3 : Int)) fun r1 =>
        O.chk (decide (((ByteArray.size (((a0.2.1 ++ a0.2.2.1) ++ (strOf [(IntKind.u8.wrap (shR .i64 a1 (24 : Int))), (IntKind.u8.wrap (shR .i64 a1 (16 : Int)))])) ++ (strOf [(IntKind.u8.wrap (shR .i64 a1 (8 : Int))), (IntKind.u8.wrap a1)])) + ByteArray.size r1 : Nat) : Int) ≤ 9223372036854775807)) (
         O.chk (decide (((ByteArray.size ((((a0.2.1 ++ a0.2.2.1) ++ (strOf [(IntKind.u8.wrap (shR .i64 a1 (24 : Int))), (IntKind.u8.wrap (shR .i64 a1 (16 : Int)))])) ++ (strOf [(IntKind.u8.wrap (shR .i64 a1 (8 : Int))), (IntKind.u8.wrap a1)])) ++ r1) + ByteArray.size (strOf [(IntKind.u8.wrap a0.2.2.2.1)]) : Nat) : Int) ≤ 9223372036854775807)) (
          .ok (((((a0.2.1 ++ a0.2.2.1) ++ (strOf [(IntKind.u8.wrap (shR .i64 a1 (24 : Int))), (IntKind.u8.wrap (shR .i64 a1 (16 : Int)))])) ++ (strOf [(IntKind.u8.wrap (shR .i64 a1 (8 : Int))), (IntKind.u8.wrap a1)])) ++ r1) ++ (strOf [(IntKind.u8.wrap a0.2.2.2.1)]))))))) (
      O.bind (F_strings_Repeat.S k (⟨#[0]⟩ : ByteArray) (3 : Int)) fun r3 =>
      O.chk (decide (((ByteArray.size (a0.2.1 ++ a0.2.2.1) + ByteArray.size (strOf [(IntKind.u8.wrap (shR .i64 a1 (24 : Int))), (IntKind.u8.wrap (shR .i64 a1 (16 : Int)))]) : Nat) : Int) ≤ 9223372036854775807)) (
       O.chk (decide (((ByteArray.size ((a0.2.1 ++ a0.2.2.1) ++ (strOf [(IntKind.u8.wrap (shR .i64 a1 (24 : Int))), (IntKind.u8.wrap (shR .i64 a1 (16 : Int)))])) + ByteArray.size (strOf [(IntKind.u8.wrap (shR .i64 a1 (8 : Int))), (IntKind.u8.wrap a1)]) : Nat) : Int) ≤ 9223372036854775807)) (
        O.chk (decide (((ByteArray.size (((a0.2.1 ++ a0.2.2.1) ++ (strOf [(IntKind.u8.wrap (shR .i64 a1 (24 : Int))), (IntKind.u8.wrap (shR .i64 a1 (16 : Int)))])) ++ (strOf [(IntKind.u8.wrap (shR .i64 a1 (8 : Int))), (IntKind.u8.wrap a1)])) + ByteArray.size r3 : Nat) : Int) ≤ 9223372036854775807)) (
         O.chk (decide (((ByteArray.size ((((a0.2.1 ++ a0.2.2.1) ++ (strOf [(IntKind.u8.wrap (shR .i64 a1 (24 : Int))), (IntKind.u8.wrap (shR .i64 a1 (16 : Int)))])) ++ (strOf [(IntKind.u8.wrap (shR .i64 a1 (8 : Int))), (IntKind.u8.wrap a1)])) ++ r3) + ByteArray.size (strOf [(IntKind.u8.wrap a0.2.2.2.1)]) : Nat) : Int) ≤ 9223372036854775807)) (
          .ok (((((a0.2.1 ++ a0.2.2.1) ++ (strOf [(IntKind.u8.wrap (shR .i64 a1 (24 : Int))), (IntKind.u8.wrap (shR .i64 a1 (16 : Int)))])) ++ (strOf [(IntKind.u8.wrap (shR .i64 a1 (8 : Int))), (IntKind.u8.wrap a1)])) ++ r3) ++ (strOf [(IntKind.u8.wrap a0.2.2.2.1)]))))))))) (
    .ok (⟨#[]⟩ : ByteArray)))
theorem F_ip_Pseudo.eq (k : Nat) (a0 : Int × ByteArray × ByteArray × Int × Int × Int × Int × Int × Int × Int × ByteArray × ByteArray) (a1 : Int) : evFn (T := ByteArray) tab (calOf (F_ip_Pseudo.cal k)) Go.Proofs.Try.f56 F_ip_Pseudo.nt k [.agg [.int .i64 a0.1, .str a0.2.1, .str a0.2.2.1, .int .i64 a0.2.2.2.1, .int .i64 a0.2.2.2.2.1, .int .i64 a0.2.2.2.2.2.1, .int .i64 a0.2.2.2.2.2.2.1, .int .i64 a0.2.2.2.2.2.2.2.1, .int .i64 a0.2.2.2.2.2.2.2.2.1, .int .i64 a0.2.2.2.2.2.2.2.2.2.1, .str a0.2.2.2.2.2.2.2.2.2.2.1, .str a0.2.2.2.2.2.2.2.2.2.2.2], .int .i64 a1] [] ⟨0, false, []⟩ (fun v st => takeR F_ip_Pseudo.rt v st.H .ok) panK = F_ip_Pseudo.S k a0 a1 := by kernel_rfl
theorem F_ip_Pseudo.ok (k : Nat) : FnOk Try.prog 56 F_ip_Pseudo.as F_ip_Pseudo.rt (fun (x : (Int × ByteArray × ByteArray × Int × Int × Int × Int × Int × Int × Int × ByteArray × ByteArray) × Int) => F_ip_Pseudo.S k x.1 x.2) :=
  FnOk.of_ev tab_ok (calOf_ok (F_ip_Pseudo.cal_ok k)) mixed Try.func56 F_ip_Pseudo.nt k (fun _ => rfl) (fun (x : (Int × ByteArray × ByteArray × Int × Int × Int × Int × Int × Int × Int × ByteArray × ByteArray) × Int) => F_ip_Pseudo.eq k x.1 x.2)
theorem F_ip_Pseudo.hd {T : Type} (k : Nat) : HdOk Try.prog 56 (pureN (T := T) F_ip_Pseudo.as F_ip_Pseudo.rt (fun (x : (Int × ByteArray × ByteArray × Int × Int × Int × Int × Int × Int × Int × ByteArray × ByteArray) × Int) => F_ip_Pseudo.S k x.1 x.2)) :=
  pureN_ok rfl rfl (F_ip_Pseudo.ok k) Try.call56
end Go.Proofs.Ytojomdlccjlioaa
