/- What this seat's functions come to, as plain functions, each with the proof that the code does just that. Printed by a program of this repo (wip/gen2/gen.py). -/
import Derived.Test.YtkmhbpiphepjoaaAHR
namespace Go.Proofs.Ytkmhbpiphepjoaa
open Go.Aq
set_option linter.unusedVariables false
set_option maxRecDepth 100000
/-! ### aqueduct/words.Turn: function 52 -/
noncomputable def F_words_Turn.as : As := .some (.one (.leaf .str))
noncomputable def F_words_Turn.rt : Rt := .val (.leaf .str)
noncomputable def F_words_Turn.nt : Notes := ⟨[(3, [0, 3, 9, 10])], [], [], [], []⟩
noncomputable def F_words_Turn.cal0 {T : Type} (k : Nat) : List (FuncId × Hd T) := []
theorem F_words_Turn.cal0_ok {T : Type} (k : Nat) : HdsOk Try.prog (F_words_Turn.cal0 (T := T) k) := trivial
noncomputable def F_words_Turn.cal {T : Type} (k : Nat) : List (FuncId × Hd T) := F_words_Turn.cal0 k
theorem F_words_Turn.cal_ok {T : Type} (k : Nat) : HdsOk Try.prog (F_words_Turn.cal (T := T) k) := F_words_Turn.cal0_ok k
noncomputable def F_words_Turn.l0_b (k : Nat) (a0 : ByteArray) (R_l0 : Int → (List Int) → O ByteArray) (v1 : Int) (v2 : List Int) : O ByteArray :=
  O.cond (decide (v1 < (ByteArray.size a0 : Int))) (
   O.chk (decide (0 ≤ v1 ∧ v1 < (ByteArray.size a0 : Int))) (
    O.chk (decide (0 ≤ (IntKind.i64.wrap ((IntKind.i64.wrap ((ByteArray.size a0 : Int) - (1 : Int))) - v1)) ∧ (IntKind.i64.wrap ((IntKind.i64.wrap ((ByteArray.size a0 : Int) - (1 : Int))) - v1)) < (List.length v2 : Int) ∧ (List.length v2 : Int) ≤ (List.length v2 : Int))) (
     O.chk (decide (0 ≤ (IntKind.i64.wrap ((IntKind.i64.wrap ((ByteArray.size a0 : Int) - (1 : Int))) - v1)) ∧ (IntKind.i64.wrap ((IntKind.i64.wrap ((ByteArray.size a0 : Int) - (1 : Int))) - v1)) < (List.length v2 : Int))) (
      R_l0 (IntKind.i64.wrap (v1 + (1 : Int))) (su v2 (IntKind.i64.wrap ((IntKind.i64.wrap ((ByteArray.size a0 : Int) - (1 : Int))) - v1)) (bt a0 v1)))))) (
   .ok (strOf v2))
noncomputable def F_words_Turn.l0 (k : Nat) (a0 : ByteArray) : Nat → Int → (List Int) → O ByteArray
  | 0, _, _ => .no
  | j + 1, v1, v2 => F_words_Turn.l0_b k a0 (F_words_Turn.l0 k a0 j) v1 v2
theorem F_words_Turn.l0_eq (k : Nat) (a0 : ByteArray) : ∀ (j : Nat) (v1 : Int) (v2 : List Int), loopAt (T := ByteArray) tab (calOf (F_words_Turn.cal k)) Go.Proofs.Try.f52.ntmps F_words_Turn.nt k [] [.r, .r, .l, .r, .b] (bodyOf Go.Proofs.Try.f52) (finK tab Go.Proofs.Try.f52.results.toList (fun v st => takeR F_words_Turn.rt v st.H .ok) panK) j ⟨[(0, .str a0), (3, .osl 0), (9, .int .i64 (ByteArray.size a0 : Int)), (10, .int .i64 v1)], [], 0, []⟩ ⟨1, true, [(0, .row true 5 [.int .u8] v2)]⟩ = F_words_Turn.l0 k a0 j v1 v2 := by
  intro j
  induction j with
  | zero => intro v1 v2; rfl
  | succ j ih =>
    intro v1 v2
    have rs : (fun (v1' : Int) (v2' : List Int) => loopAt (T := ByteArray) tab (calOf (F_words_Turn.cal k)) Go.Proofs.Try.f52.ntmps F_words_Turn.nt k [] [.r, .r, .l, .r, .b] (bodyOf Go.Proofs.Try.f52) (finK tab Go.Proofs.Try.f52.results.toList (fun v st => takeR F_words_Turn.rt v st.H .ok) panK) j ⟨[(0, .str a0), (3, .osl 0), (9, .int .i64 (ByteArray.size a0 : Int)), (10, .int .i64 v1')], [], 0, []⟩ ⟨1, true, [(0, .row true 5 [.int .u8] v2')]⟩) = F_words_Turn.l0 k a0 j := by funext v1' v2'; exact ih v1' v2'
    have h : loopAt (T := ByteArray) tab (calOf (F_words_Turn.cal k)) Go.Proofs.Try.f52.ntmps F_words_Turn.nt k [] [.r, .r, .l, .r, .b] (bodyOf Go.Proofs.Try.f52) (finK tab Go.Proofs.Try.f52.results.toList (fun v st => takeR F_words_Turn.rt v st.H .ok) panK) (j + 1) ⟨[(0, .str a0), (3, .osl 0), (9, .int .i64 (ByteArray.size a0 : Int)), (10, .int .i64 v1)], [], 0, []⟩ ⟨1, true, [(0, .row true 5 [.int .u8] v2)]⟩ = F_words_Turn.l0_b k a0 ((fun (v1' : Int) (v2' : List Int) => loopAt (T := ByteArray) tab (calOf (F_words_Turn.cal k)) Go.Proofs.Try.f52.ntmps F_words_Turn.nt k [] [.r, .r, .l, .r, .b] (bodyOf Go.Proofs.Try.f52) (finK tab Go.Proofs.Try.f52.results.toList (fun v st => takeR F_words_Turn.rt v st.H .ok) panK) j ⟨[(0, .str a0), (3, .osl 0), (9, .int .i64 (ByteArray.size a0 : Int)), (10, .int .i64 v1')], [], 0, []⟩ ⟨1, true, [(0, .row true 5 [.int .u8] v2')]⟩)) v1 v2 := by kernel_rfl
    exact h.trans (by rw [rs]; rfl)
noncomputable def F_words_Turn.top (k : Nat) (a0 : ByteArray) (D_l0 : Int → (List Int) → O ByteArray) : O ByteArray :=
  O.chk (decide (0 ≤ (ByteArray.size a0 : Int) ∧ (ByteArray.size a0 : Int) = (ByteArray.size a0 : Int) ∧ (ByteArray.size a0 : Int) ≤ 1073741824)) (
   D_l0 (0 : Int) (List.replicate (ByteArray.size a0 : Int).toNat (0 : Int)))
noncomputable def F_words_Turn.S (k : Nat) (a0 : ByteArray) : O ByteArray := F_words_Turn.top k a0 ((fun (v1 : Int) (v2 : List Int) => F_words_Turn.l0 k a0 k v1 v2))
theorem F_words_Turn.eq (k : Nat) (a0 : ByteArray) : evFn (T := ByteArray) tab (calOf (F_words_Turn.cal k)) Go.Proofs.Try.f52 F_words_Turn.nt k [.str a0] [] ⟨0, false, []⟩ (fun v st => takeR F_words_Turn.rt v st.H .ok) panK = F_words_Turn.S k a0 := by
  have e0 : (fun (v1 : Int) (v2 : List Int) => loopAt (T := ByteArray) tab (calOf (F_words_Turn.cal k)) Go.Proofs.Try.f52.ntmps F_words_Turn.nt k [] [.r, .r, .l, .r, .b] (bodyOf Go.Proofs.Try.f52) (finK tab Go.Proofs.Try.f52.results.toList (fun v st => takeR F_words_Turn.rt v st.H .ok) panK) k ⟨[(0, .str a0), (3, .osl 0), (9, .int .i64 (ByteArray.size a0 : Int)), (10, .int .i64 v1)], [], 0, []⟩ ⟨1, true, [(0, .row true 5 [.int .u8] v2)]⟩) = (fun (v1 : Int) (v2 : List Int) => F_words_Turn.l0 k a0 k v1 v2) := by funext v1 v2; exact F_words_Turn.l0_eq k a0 k v1 v2
  have h : evFn (T := ByteArray) tab (calOf (F_words_Turn.cal k)) Go.Proofs.Try.f52 F_words_Turn.nt k [.str a0] [] ⟨0, false, []⟩ (fun v st => takeR F_words_Turn.rt v st.H .ok) panK = F_words_Turn.top k a0 ((fun (v1 : Int) (v2 : List Int) => loopAt (T := ByteArray) tab (calOf (F_words_Turn.cal k)) Go.Proofs.Try.f52.ntmps F_words_Turn.nt k [] [.r, .r, .l, .r, .b] (bodyOf Go.Proofs.Try.f52) (finK tab Go.Proofs.Try.f52.results.toList (fun v st => takeR F_words_Turn.rt v st.H .ok) panK) k ⟨[(0, .str a0), (3, .osl 0), (9, .int .i64 (ByteArray.size a0 : Int)), (10, .int .i64 v1)], [], 0, []⟩ ⟨1, true, [(0, .row true 5 [.int .u8] v2)]⟩)) := by kernel_rfl
  exact h.trans (by rw [e0]; rfl)
theorem F_words_Turn.ok (k : Nat) : FnOk Try.prog 52 F_words_Turn.as F_words_Turn.rt (fun (x : ByteArray) => F_words_Turn.S k x) :=
  FnOk.of_ev tab_ok (calOf_ok (F_words_Turn.cal_ok k)) mixed Try.func52 F_words_Turn.nt k (fun _ => rfl) (fun (x : ByteArray) => F_words_Turn.eq k x)
theorem F_words_Turn.hd {T : Type} (k : Nat) : HdOk Try.prog 52 (pureN (T := T) F_words_Turn.as F_words_Turn.rt (fun (x : ByteArray) => F_words_Turn.S k x)) :=
  pureN_ok rfl rfl (F_words_Turn.ok k) Try.call52
/-! ### aqueduct/words.Get: function 23 -/
noncomputable def F_words_Get.as : As := .some (.cons (.leaf .str) (.cons (.leaf (.int .i64)) (.cons (.leaf (.int .i64)) (.one (.leaf .bool)))))
noncomputable def F_words_Get.rt : Rt := .tup (.cons (.leaf (.int .u64)) (.one (.leaf (.int .i64))))
noncomputable def F_words_Get.nt : Notes := ⟨[(10, [0, 10, 40, 41]), (10, [0, 10, 40, 41])], [], [], [], []⟩
noncomputable def F_words_Get.cal0 {T : Type} (k : Nat) : List (FuncId × Hd T) := [(52, pureN F_words_Turn.as F_words_Turn.rt (fun (x : ByteArray) => F_words_Turn.S k x))]
theorem F_words_Get.cal0_ok {T : Type} (k : Nat) : HdsOk Try.prog (F_words_Get.cal0 (T := T) k) := ⟨F_words_Turn.hd k, trivial⟩
noncomputable def F_words_Get.cal {T : Type} (k : Nat) : List (FuncId × Hd T) := F_words_Get.cal0 k
theorem F_words_Get.cal_ok {T : Type} (k : Nat) : HdsOk Try.prog (F_words_Get.cal (T := T) k) := F_words_Get.cal0_ok k
noncomputable def F_words_Get.l0_b (k : Nat) (a2 : Int) (r1 : ByteArray) (R_l0 : Int → Int → O (Int × Int)) (v3 : Int) (v4 : Int) : O (Int × Int) :=
  O.cond (decide (v4 < a2)) (
   O.chk (decide (0 ≤ v4 ∧ v4 < (ByteArray.size r1 : Int))) (
    R_l0 (bOr .u64 (shL .u64 v3 (8 : Int)) (IntKind.u64.wrap (bt r1 v4))) (IntKind.i64.wrap (v4 + (1 : Int))))) (
   .ok (v3, (0 : Int)))
noncomputable def F_words_Get.l0 (k : Nat) (a2 : Int) (r1 : ByteArray) : Nat → Int → Int → O (Int × Int)
  | 0, _, _ => .no
  | j + 1, v3, v4 => F_words_Get.l0_b k a2 r1 (F_words_Get.l0 k a2 r1 j) v3 v4
theorem F_words_Get.l0_eq (k : Nat) (a2 : Int) (r1 : ByteArray) : ∀ (j : Nat) (v3 : Int) (v4 : Int), loopAt (T := Int × Int) tab (calOf (F_words_Get.cal k)) Go.Proofs.Try.f23.ntmps F_words_Get.nt k [] [.r, .r, .r, .r, .r, .l, .r, .b] (bodyOf Go.Proofs.Try.f23) (finK tab Go.Proofs.Try.f23.results.toList (fun v st => takeR F_words_Get.rt v st.H .ok) panK) j ⟨[(0, .str r1), (10, .int .u64 v3), (40, .int .i64 a2), (41, .int .i64 v4)], [], 0, []⟩ ⟨0, true, []⟩ = F_words_Get.l0 k a2 r1 j v3 v4 := by
  intro j
  induction j with
  | zero => intro v3 v4; rfl
  | succ j ih =>
    intro v3 v4
    have rs : (fun (v3' : Int) (v4' : Int) => loopAt (T := Int × Int) tab (calOf (F_words_Get.cal k)) Go.Proofs.Try.f23.ntmps F_words_Get.nt k [] [.r, .r, .r, .r, .r, .l, .r, .b] (bodyOf Go.Proofs.Try.f23) (finK tab Go.Proofs.Try.f23.results.toList (fun v st => takeR F_words_Get.rt v st.H .ok) panK) j ⟨[(0, .str r1), (10, .int .u64 v3'), (40, .int .i64 a2), (41, .int .i64 v4')], [], 0, []⟩ ⟨0, true, []⟩) = F_words_Get.l0 k a2 r1 j := by funext v3' v4'; exact ih v3' v4'
    have h : loopAt (T := Int × Int) tab (calOf (F_words_Get.cal k)) Go.Proofs.Try.f23.ntmps F_words_Get.nt k [] [.r, .r, .r, .r, .r, .l, .r, .b] (bodyOf Go.Proofs.Try.f23) (finK tab Go.Proofs.Try.f23.results.toList (fun v st => takeR F_words_Get.rt v st.H .ok) panK) (j + 1) ⟨[(0, .str r1), (10, .int .u64 v3), (40, .int .i64 a2), (41, .int .i64 v4)], [], 0, []⟩ ⟨0, true, []⟩ = F_words_Get.l0_b k a2 r1 ((fun (v3' : Int) (v4' : Int) => loopAt (T := Int × Int) tab (calOf (F_words_Get.cal k)) Go.Proofs.Try.f23.ntmps F_words_Get.nt k [] [.r, .r, .r, .r, .r, .l, .r, .b] (bodyOf Go.Proofs.Try.f23) (finK tab Go.Proofs.Try.f23.results.toList (fun v st => takeR F_words_Get.rt v st.H .ok) panK) j ⟨[(0, .str r1), (10, .int .u64 v3'), (40, .int .i64 a2), (41, .int .i64 v4')], [], 0, []⟩ ⟨0, true, []⟩)) v3 v4 := by kernel_rfl
    exact h.trans (by rw [rs]; rfl)
noncomputable def F_words_Get.l1_b (k : Nat) (a0 : ByteArray) (a1 : Int) (a2 : Int) (R_l1 : Int → Int → O (Int × Int)) (v5 : Int) (v6 : Int) : O (Int × Int) :=
  O.cond (decide (v6 < a2)) (
   O.chk (decide (0 ≤ v6 ∧ v6 < (ByteArray.size (ByteArray.extract a0 a1.toNat (IntKind.i64.wrap (a1 + a2)).toNat) : Int))) (
    R_l1 (bOr .u64 (shL .u64 v5 (8 : Int)) (IntKind.u64.wrap (bt (ByteArray.extract a0 a1.toNat (IntKind.i64.wrap (a1 + a2)).toNat) v6))) (IntKind.i64.wrap (v6 + (1 : Int))))) (
   .ok (v5, (0 : Int)))
noncomputable def F_words_Get.l1 (k : Nat) (a0 : ByteArray) (a1 : Int) (a2 : Int) : Nat → Int → Int → O (Int × Int)
  | 0, _, _ => .no
  | j + 1, v5, v6 => F_words_Get.l1_b k a0 a1 a2 (F_words_Get.l1 k a0 a1 a2 j) v5 v6
theorem F_words_Get.l1_eq (k : Nat) (a0 : ByteArray) (a1 : Int) (a2 : Int) : ∀ (j : Nat) (v5 : Int) (v6 : Int), loopAt (T := Int × Int) tab (calOf (F_words_Get.cal k)) Go.Proofs.Try.f23.ntmps F_words_Get.nt k [] [.r, .r, .r, .r, .r, .l, .r, .b] (bodyOf Go.Proofs.Try.f23) (finK tab Go.Proofs.Try.f23.results.toList (fun v st => takeR F_words_Get.rt v st.H .ok) panK) j ⟨[(0, .str (ByteArray.extract a0 a1.toNat (IntKind.i64.wrap (a1 + a2)).toNat)), (10, .int .u64 v5), (40, .int .i64 a2), (41, .int .i64 v6)], [], 0, []⟩ ⟨0, true, []⟩ = F_words_Get.l1 k a0 a1 a2 j v5 v6 := by
  intro j
  induction j with
  | zero => intro v5 v6; rfl
  | succ j ih =>
    intro v5 v6
    have rs : (fun (v5' : Int) (v6' : Int) => loopAt (T := Int × Int) tab (calOf (F_words_Get.cal k)) Go.Proofs.Try.f23.ntmps F_words_Get.nt k [] [.r, .r, .r, .r, .r, .l, .r, .b] (bodyOf Go.Proofs.Try.f23) (finK tab Go.Proofs.Try.f23.results.toList (fun v st => takeR F_words_Get.rt v st.H .ok) panK) j ⟨[(0, .str (ByteArray.extract a0 a1.toNat (IntKind.i64.wrap (a1 + a2)).toNat)), (10, .int .u64 v5'), (40, .int .i64 a2), (41, .int .i64 v6')], [], 0, []⟩ ⟨0, true, []⟩) = F_words_Get.l1 k a0 a1 a2 j := by funext v5' v6'; exact ih v5' v6'
    have h : loopAt (T := Int × Int) tab (calOf (F_words_Get.cal k)) Go.Proofs.Try.f23.ntmps F_words_Get.nt k [] [.r, .r, .r, .r, .r, .l, .r, .b] (bodyOf Go.Proofs.Try.f23) (finK tab Go.Proofs.Try.f23.results.toList (fun v st => takeR F_words_Get.rt v st.H .ok) panK) (j + 1) ⟨[(0, .str (ByteArray.extract a0 a1.toNat (IntKind.i64.wrap (a1 + a2)).toNat)), (10, .int .u64 v5), (40, .int .i64 a2), (41, .int .i64 v6)], [], 0, []⟩ ⟨0, true, []⟩ = F_words_Get.l1_b k a0 a1 a2 ((fun (v5' : Int) (v6' : Int) => loopAt (T := Int × Int) tab (calOf (F_words_Get.cal k)) Go.Proofs.Try.f23.ntmps F_words_Get.nt k [] [.r, .r, .r, .r, .r, .l, .r, .b] (bodyOf Go.Proofs.Try.f23) (finK tab Go.Proofs.Try.f23.results.toList (fun v st => takeR F_words_Get.rt v st.H .ok) panK) j ⟨[(0, .str (ByteArray.extract a0 a1.toNat (IntKind.i64.wrap (a1 + a2)).toNat)), (10, .int .u64 v5'), (40, .int .i64 a2), (41, .int .i64 v6')], [], 0, []⟩ ⟨0, true, []⟩)) v5 v6 := by kernel_rfl
    exact h.trans (by rw [rs]; rfl)
noncomputable def F_words_Get.top (k : Nat) (a0 : ByteArray) (a1 : Int) (a2 : Int) (a3 : Bool) (D_l0 : ByteArray → Int → Int → O (Int × Int)) (D_l1 : Int → Int → O (Int × Int)) : O (Int × Int) :=
  O.cond (decide (a2 < (1 : Int))) (
   .ok ((0 : Int), (1 : Int))) (
   O.cond (decide (a2 > (8 : Int))) (
    .ok ((0 : Int), (1 : Int))) (
    O.cond (decide (a1 < (0 : Int))) (
     .ok ((0 : Int), (10 : Int))) (
     O.cond (decide (a1 > (IntKind.i64.wrap ((ByteArray.size a0 : Int) - a2)))) (
      .ok ((0 : Int), (10 : Int))) (
      O.chk (decide (0 ≤ a1 ∧ a1 ≤ (IntKind.i64.wrap (a1 + a2)) ∧ (IntKind.i64.wrap (a1 + a2)) ≤ (ByteArray.size a0 : Int))) (
       O.cond (!a3) (
        O.bind (F_words_Turn.S k (ByteArray.extract a0 a1.toNat (IntKind.i64.wrap (a1 + a2)).toNat)) fun r1 =>
        D_l0 r1 (0 : Int) (0 : Int)) (
        D_l1 (0 : Int) (0 : Int)))))))
noncomputable def F_words_Get.S (k : Nat) (a0 : ByteArray) (a1 : Int) (a2 : Int) (a3 : Bool) : O (Int × Int) := F_words_Get.top k a0 a1 a2 a3 ((fun (r1 : ByteArray) (v3 : Int) (v4 : Int) => F_words_Get.l0 k a2 r1 k v3 v4)) ((fun (v5 : Int) (v6 : Int) => F_words_Get.l1 k a0 a1 a2 k v5 v6))
theorem F_words_Get.eq (k : Nat) (a0 : ByteArray) (a1 : Int) (a2 : Int) (a3 : Bool) : evFn (T := Int × Int) tab (calOf (F_words_Get.cal k)) Go.Proofs.Try.f23 F_words_Get.nt k [.str a0, .int .i64 a1, .int .i64 a2, .bool a3] [] ⟨0, false, []⟩ (fun v st => takeR F_words_Get.rt v st.H .ok) panK = F_words_Get.S k a0 a1 a2 a3 := by
  have e0 : (fun (r1 : ByteArray) (v3 : Int) (v4 : Int) => loopAt (T := Int × Int) tab (calOf (F_words_Get.cal k)) Go.Proofs.Try.f23.ntmps F_words_Get.nt k [] [.r, .r, .r, .r, .r, .l, .r, .b] (bodyOf Go.Proofs.Try.f23) (finK tab Go.Proofs.Try.f23.results.toList (fun v st => takeR F_words_Get.rt v st.H .ok) panK) k ⟨[(0, .str r1), (10, .int .u64 v3), (40, .int .i64 a2), (41, .int .i64 v4)], [], 0, []⟩ ⟨0, true, []⟩) = (fun (r1 : ByteArray) (v3 : Int) (v4 : Int) => F_words_Get.l0 k a2 r1 k v3 v4) := by funext r1 v3 v4; exact F_words_Get.l0_eq k a2 r1 k v3 v4
  have e1 : (fun (v5 : Int) (v6 : Int) => loopAt (T := Int × Int) tab (calOf (F_words_Get.cal k)) Go.Proofs.Try.f23.ntmps F_words_Get.nt k [] [.r, .r, .r, .r, .r, .l, .r, .b] (bodyOf Go.Proofs.Try.f23) (finK tab Go.Proofs.Try.f23.results.toList (fun v st => takeR F_words_Get.rt v st.H .ok) panK) k ⟨[(0, .str (ByteArray.extract a0 a1.toNat (IntKind.i64.wrap (a1 + a2)).toNat)), (10, .int .u64 v5), (40, .int .i64 a2), (41, .int .i64 v6)], [], 0, []⟩ ⟨0, true, []⟩) = (fun (v5 : Int) (v6 : Int) => F_words_Get.l1 k a0 a1 a2 k v5 v6) := by funext v5 v6; exact F_words_Get.l1_eq k a0 a1 a2 k v5 v6
  have h : evFn (T := Int × Int) tab (calOf (F_words_Get.cal k)) Go.Proofs.Try.f23 F_words_Get.nt k [.str a0, .int .i64 a1, .int .i64 a2, .bool a3] [] ⟨0, false, []⟩ (fun v st => takeR F_words_Get.rt v st.H .ok) panK = F_words_Get.top k a0 a1 a2 a3 ((fun (r1 : ByteArray) (v3 : Int) (v4 : Int) => loopAt (T := Int × Int) tab (calOf (F_words_Get.cal k)) Go.Proofs.Try.f23.ntmps F_words_Get.nt k [] [.r, .r, .r, .r, .r, .l, .r, .b] (bodyOf Go.Proofs.Try.f23) (finK tab Go.Proofs.Try.f23.results.toList (fun v st => takeR F_words_Get.rt v st.H .ok) panK) k ⟨[(0, .str r1), (10, .int .u64 v3), (40, .int .i64 a2), (41, .int .i64 v4)], [], 0, []⟩ ⟨0, true, []⟩)) ((fun (v5 : Int) (v6 : Int) => loopAt (T := Int × Int) tab (calOf (F_words_Get.cal k)) Go.Proofs.Try.f23.ntmps F_words_Get.nt k [] [.r, .r, .r, .r, .r, .l, .r, .b] (bodyOf Go.Proofs.Try.f23) (finK tab Go.Proofs.Try.f23.results.toList (fun v st => takeR F_words_Get.rt v st.H .ok) panK) k ⟨[(0, .str (ByteArray.extract a0 a1.toNat (IntKind.i64.wrap (a1 + a2)).toNat)), (10, .int .u64 v5), (40, .int .i64 a2), (41, .int .i64 v6)], [], 0, []⟩ ⟨0, true, []⟩)) := by kernel_rfl
  exact h.trans (by rw [e0, e1]; rfl)
theorem F_words_Get.ok (k : Nat) : FnOk Try.prog 23 F_words_Get.as F_words_Get.rt (fun (x : ByteArray × Int × Int × Bool) => F_words_Get.S k x.1 x.2.1 x.2.2.1 x.2.2.2) :=
  FnOk.of_ev tab_ok (calOf_ok (F_words_Get.cal_ok k)) mixed Try.func23 F_words_Get.nt k (fun _ => rfl) (fun (x : ByteArray × Int × Int × Bool) => F_words_Get.eq k x.1 x.2.1 x.2.2.1 x.2.2.2)
theorem F_words_Get.hd {T : Type} (k : Nat) : HdOk Try.prog 23 (pureN (T := T) F_words_Get.as F_words_Get.rt (fun (x : ByteArray × Int × Int × Bool) => F_words_Get.S k x.1 x.2.1 x.2.2.1 x.2.2.2)) :=
  pureN_ok rfl rfl (F_words_Get.ok k) Try.call23
/-! ### aqueduct/nethdr.Parse: function 10 -/
noncomputable def F_nethdr_Parse.as : As := .some (.one (.leaf .str))
noncomputable def F_nethdr_Parse.rt : Rt := .tup (.cons (.agg (.cons (.leaf (.int .i64)) (.cons (.leaf (.int .i64)) (.cons (.leaf (.int .i64)) (.cons (.leaf (.int .i64)) (.cons (.leaf (.int .i64)) (.cons (.leaf (.int .i64)) (.one (.leaf (.int .i64)))))))))) (.cons (.leaf .str) (.one (.leaf (.int .i64)))))
noncomputable def F_nethdr_Parse.nt : Notes := ⟨[], [], [(13, [0, 1, 2, 3, 4, 5])], [(7, 6)], [(13, [1], [1])]⟩
noncomputable def F_nethdr_Parse.cal0 {T : Type} (k : Nat) : List (FuncId × Hd T) := [(23, pureN F_words_Get.as F_words_Get.rt (fun (x : ByteArray × Int × Int × Bool) => F_words_Get.S k x.1 x.2.1 x.2.2.1 x.2.2.2))]
theorem F_nethdr_Parse.cal0_ok {T : Type} (k : Nat) : HdsOk Try.prog (F_nethdr_Parse.cal0 (T := T) k) := ⟨F_words_Get.hd k, trivial⟩
noncomputable def F_nethdr_Parse.nt22 : Notes := ⟨[], [], [], [], []⟩
noncomputable def F_nethdr_Parse.cal1 {T : Type} (k : Nat) : List (FuncId × Hd T) := (22, inlH tab (calOf (F_nethdr_Parse.cal0 k)) Go.Proofs.Try.f22 F_nethdr_Parse.nt22 k) :: F_nethdr_Parse.cal0 k
theorem F_nethdr_Parse.cal1_ok {T : Type} (k : Nat) : HdsOk Try.prog (F_nethdr_Parse.cal1 (T := T) k) := ⟨inlH_ok tab_ok (calOf_ok (F_nethdr_Parse.cal0_ok k)) mixed Try.func22 F_nethdr_Parse.nt22 k Try.call22, F_nethdr_Parse.cal0_ok k⟩
noncomputable def F_nethdr_Parse.cal {T : Type} (k : Nat) : List (FuncId × Hd T) := F_nethdr_Parse.cal1 k
theorem F_nethdr_Parse.cal_ok {T : Type} (k : Nat) : HdsOk Try.prog (F_nethdr_Parse.cal (T := T) k) := F_nethdr_Parse.cal1_ok k
noncomputable def F_nethdr_Parse.S (k : Nat) (a0 : ByteArray) : O ((Int × Int × Int × Int × Int × Int × Int) × ByteArray × Int) :=
  O.cond (decide ((ByteArray.size a0 : Int) < (12 : Int))) (
   .ok (((0 : Int), (0 : Int), (0 : Int), (0 : Int), (0 : Int), (0 : Int), (0 : Int)), (⟨#[]⟩ : ByteArray), (100 : Int))) (
   O.bind (F_words_Get.S k a0 (0 : Int) (1 : Int) false) fun r1 =>
   O.bind (F_words_Get.S k a0 (1 : Int) (1 : Int) false) fun r3 =>
   O.bind (F_words_Get.S k a0 (2 : Int) (2 : Int) false) fun r5 =>
   O.bind (F_words_Get.S k a0 (4 : Int) (2 : Int) false) fun r7 =>
   O.bind (F_words_Get.S k a0 (6 : Int) (2 : Int) false) fun r9 =>
   O.bind (F_words_Get.S k a0 (8 : Int) (2 : Int) false) fun r11 =>
   O.bind (F_words_Get.S k a0 (10 : Int) (2 : Int) false) fun r13 =>
   O.cond (decide ((IntKind.i64.wrap r1.1) > (3 : Int))) (
    .ok (((0 : Int), (0 : Int), (0 : Int), (0 : Int), (0 : Int), (0 : Int), (0 : Int)), (⟨#[]⟩ : ByteArray), (101 : Int))) (
    O.chk (decide (0 ≤ (12 : Int) ∧ (12 : Int) ≤ (ByteArray.size a0 : Int))) (
     .ok (((IntKind.i64.wrap r1.1), (IntKind.i64.wrap r3.1), (IntKind.i64.wrap r5.1), (IntKind.i64.wrap r7.1), (IntKind.i64.wrap r9.1), (IntKind.i64.wrap r11.1), (IntKind.i64.wrap r13.1)), (ByteArray.extract a0 12 (ByteArray.size a0)), (0 : Int)))))
theorem F_nethdr_Parse.eq (k : Nat) (a0 : ByteArray) : evFn (T := (Int × Int × Int × Int × Int × Int × Int) × ByteArray × Int) tab (calOf (F_nethdr_Parse.cal k)) Go.Proofs.Try.f10 F_nethdr_Parse.nt k [.str a0] [] ⟨0, false, []⟩ (fun v st => takeR F_nethdr_Parse.rt v st.H .ok) panK = F_nethdr_Parse.S k a0 := by kernel_rfl
theorem F_nethdr_Parse.ok (k : Nat) : FnOk Try.prog 10 F_nethdr_Parse.as F_nethdr_Parse.rt (fun (x : ByteArray) => F_nethdr_Parse.S k x) :=
  FnOk.of_ev tab_ok (calOf_ok (F_nethdr_Parse.cal_ok k)) mixed Try.func10 F_nethdr_Parse.nt k (fun _ => rfl) (fun (x : ByteArray) => F_nethdr_Parse.eq k x)
theorem F_nethdr_Parse.hd {T : Type} (k : Nat) : HdOk Try.prog 10 (pureN (T := T) F_nethdr_Parse.as F_nethdr_Parse.rt (fun (x : ByteArray) => F_nethdr_Parse.S k x)) :=
  pureN_ok rfl rfl (F_nethdr_Parse.ok k) Try.call10
/-! ### aqueduct/aqueductref10.num: function 24 -/
noncomputable def F_aqueductref10_num.as : As := .some (.cons (.leaf .str) (.one (.leaf (.int .i64))))
noncomputable def F_aqueductref10_num.rt : Rt := .val (.leaf (.int .i64))
noncomputable def F_aqueductref10_num.nt : Notes := ⟨[], [], [(1, [0, 1, 2, 3, 4, 5, 6, 7, 8, 9, 10, 11])], [], []⟩
noncomputable def F_aqueductref10_num.cal0 {T : Type} (k : Nat) : List (FuncId × Hd T) := []
theorem F_aqueductref10_num.cal0_ok {T : Type} (k : Nat) : HdsOk Try.prog (F_aqueductref10_num.cal0 (T := T) k) := trivial
noncomputable def F_aqueductref10_num.cal {T : Type} (k : Nat) : List (FuncId × Hd T) := F_aqueductref10_num.cal0 k
theorem F_aqueductref10_num.cal_ok {T : Type} (k : Nat) : HdsOk Try.prog (F_aqueductref10_num.cal (T := T) k) := F_aqueductref10_num.cal0_ok k
noncomputable def F_aqueductref10_num.S (k : Nat) (a0 : ByteArray) (a1 : Int) : O Int :=
  O.chk (decide (0 ≤ a1 ∧ a1 < (ByteArray.size a0 : Int))) (
   O.chk (decide (0 ≤ (IntKind.i64.wrap (a1 + (1 : Int))) ∧ (IntKind.i64.wrap (a1 + (1 : Int))) < (ByteArray.size a0 : Int))) (
    .ok (IntKind.i64.wrap ((IntKind.i64.wrap (bt a0 a1)) + (IntKind.i64.wrap ((256 : Int) * (IntKind.i64.wrap (bt a0 (IntKind.i64.wrap (a1 + (1 : Int)))))))))))
theorem F_aqueductref10_num.eq (k : Nat) (a0 : ByteArray) (a1 : Int) : evFn (T := Int) tab (calOf (F_aqueductref10_num.cal k)) Go.Proofs.Try.f24 F_aqueductref10_num.nt k [.str a0, .int .i64 a1] [] ⟨0, false, []⟩ (fun v st => takeR F_aqueductref10_num.rt v st.H .ok) panK = F_aqueductref10_num.S k a0 a1 := by kernel_rfl
theorem F_aqueductref10_num.ok (k : Nat) : FnOk Try.prog 24 F_aqueductref10_num.as F_aqueductref10_num.rt (fun (x : ByteArray × Int) => F_aqueductref10_num.S k x.1 x.2) :=
  FnOk.of_ev tab_ok (calOf_ok (F_aqueductref10_num.cal_ok k)) mixed Try.func24 F_aqueductref10_num.nt k (fun _ => rfl) (fun (x : ByteArray × Int) => F_aqueductref10_num.eq k x.1 x.2)
theorem F_aqueductref10_num.hd {T : Type} (k : Nat) : HdOk Try.prog 24 (pureN (T := T) F_aqueductref10_num.as F_aqueductref10_num.rt (fun (x : ByteArray × Int) => F_aqueductref10_num.S k x.1 x.2)) :=
  pureN_ok rfl rfl (F_aqueductref10_num.ok k) Try.call24
/-! ### aqueduct/aqueductref10.Parse: function 11 -/
noncomputable def F_aqueductref10_Parse.as : As := .some (.one (.leaf .str))
noncomputable def F_aqueductref10_Parse.rt : Rt := .tup (.cons (.agg (.cons (.leaf (.int .i64)) (.cons (.leaf (.int .i64)) (.cons (.leaf (.int .i64)) (.cons (.leaf (.int .i64)) (.cons (.leaf (.int .i64)) (.cons (.leaf (.int .i64)) (.one (.leaf (.int .i64)))))))))) (.cons (.leaf .str) (.one (.leaf (.int .i64)))))
noncomputable def F_aqueductref10_Parse.nt : Notes := ⟨[], [], [(5, [0, 1, 2, 3, 4, 5, 6, 8, 10, 12, 14, 17, 18, 7, 9, 11, 13, 15, 16, 19, 20, 21])], [], []⟩
noncomputable def F_aqueductref10_Parse.cal0 {T : Type} (k : Nat) : List (FuncId × Hd T) := [(24, pureN F_aqueductref10_num.as F_aqueductref10_num.rt (fun (x : ByteArray × Int) => F_aqueductref10_num.S k x.1 x.2))]
theorem F_aqueductref10_Parse.cal0_ok {T : Type} (k : Nat) : HdsOk Try.prog (F_aqueductref10_Parse.cal0 (T := T) k) := ⟨F_aqueductref10_num.hd k, trivial⟩
noncomputable def F_aqueductref10_Parse.cal {T : Type} (k : Nat) : List (FuncId × Hd T) := F_aqueductref10_Parse.cal0 k
theorem F_aqueductref10_Parse.cal_ok {T : Type} (k : Nat) : HdsOk Try.prog (F_aqueductref10_Parse.cal (T := T) k) := F_aqueductref10_Parse.cal0_ok k
noncomputable def F_aqueductref10_Parse.S (k : Nat) (a0 : ByteArray) : O ((Int × Int × Int × Int × Int × Int × Int) × ByteArray × Int) :=
  O.cond (decide ((ByteArray.size a0 : Int) < (12 : Int))) (
   .ok (((0 : Int), (0 : Int), (0 : Int), (0 : Int), (0 : Int), (0 : Int), (0 : Int)), (⟨#[]⟩ : ByteArray), (100 : Int))) (
   O.chk (decide (0 ≤ (0 : Int) ∧ (0 : Int) < (ByteArray.size a0 : Int))) (
    O.cond (decide ((bt a0 (0 : Int)) > (3 : Int))) (
     .ok (((0 : Int), (0 : Int), (0 : Int), (0 : Int), (0 : Int), (0 : Int), (0 : Int)), (⟨#[]⟩ : ByteArray), (101 : Int))) (
     O.chk (decide (0 ≤ (0 : Int) ∧ (0 : Int) < (ByteArray.size a0 : Int))) (
      O.chk (decide (0 ≤ (1 : Int) ∧ (1 : Int) < (ByteArray.size a0 : Int))) (
       O.chk (decide (0 ≤ (12 : Int) ∧ (12 : Int) ≤ (ByteArray.size a0 : Int))) (
        O.bind (F_aqueductref10_num.S k a0 (2 : Int)) fun r1 =>
        O.bind (F_aqueductref10_num.S k a0 (4 : Int)) fun r3 =>
        O.bind (F_aqueductref10_num.S k a0 (6 : Int)) fun r5 =>
        O.bind (F_aqueductref10_num.S k a0 (8 : Int)) fun r7 =>
        O.bind (F_aqueductref10_num.S k a0 (10 : Int)) fun r9 =>
        .ok (((IntKind.i64.wrap (bt a0 (0 : Int))), (IntKind.i64.wrap (bt a0 (1 : Int))), r1, r3, r5, r7, r9), (ByteArray.extract a0 12 (ByteArray.size a0)), (0 : Int))))))))
theorem F_aqueductref10_Parse.eq (k : Nat) (a0 : ByteArray) : evFn (T := (Int × Int × Int × Int × Int × Int × Int) × ByteArray × Int) tab (calOf (F_aqueductref10_Parse.cal k)) Go.Proofs.Try.f11 F_aqueductref10_Parse.nt k [.str a0] [] ⟨0, false, []⟩ (fun v st => takeR F_aqueductref10_Parse.rt v st.H .ok) panK = F_aqueductref10_Parse.S k a0 := by kernel_rfl
theorem F_aqueductref10_Parse.ok (k : Nat) : FnOk Try.prog 11 F_aqueductref10_Parse.as F_aqueductref10_Parse.rt (fun (x : ByteArray) => F_aqueductref10_Parse.S k x) :=
  FnOk.of_ev tab_ok (calOf_ok (F_aqueductref10_Parse.cal_ok k)) mixed Try.func11 F_aqueductref10_Parse.nt k (fun _ => rfl) (fun (x : ByteArray) => F_aqueductref10_Parse.eq k x)
theorem F_aqueductref10_Parse.hd {T : Type} (k : Nat) : HdOk Try.prog 11 (pureN (T := T) F_aqueductref10_Parse.as F_aqueductref10_Parse.rt (fun (x : ByteArray) => F_aqueductref10_Parse.S k x)) :=
  pureN_ok rfl rfl (F_aqueductref10_Parse.ok k) Try.call11
/-! ### aqueduct/words.may: function 53 -/
noncomputable def F_words_may.as : As := .some (.cons (.leaf (.int .u64)) (.one (.leaf (.int .i64))))
noncomputable def F_words_may.rt : Rt := .val (.leaf .bool)
noncomputable def F_words_may.nt : Notes := ⟨[], [], [], [], []⟩
noncomputable def F_words_may.cal0 {T : Type} (k : Nat) : List (FuncId × Hd T) := []
theorem F_words_may.cal0_ok {T : Type} (k : Nat) : HdsOk Try.prog (F_words_may.cal0 (T := T) k) := trivial
noncomputable def F_words_may.cal {T : Type} (k : Nat) : List (FuncId × Hd T) := F_words_may.cal0 k
theorem F_words_may.cal_ok {T : Type} (k : Nat) : HdsOk Try.prog (F_words_may.cal (T := T) k) := F_words_may.cal0_ok k
noncomputable def F_words_may.S (k : Nat) (a0 : Int) (a1 : Int) : O Bool :=
  O.cond (decide (a1 ≥ (1 : Int))) (
   O.cond (decide (a1 ≤ (8 : Int))) (
    O.cond (decide (a1 = (8 : Int))) (
     .ok true) (
     O.chk (decide (0 ≤ (IntKind.i64.wrap ((8 : Int) * a1)))) (
      .ok (decide ((shR .u64 a0 (IntKind.i64.wrap ((8 : Int) * a1))) = (0 : Int)))))) (
    .ok false)) (
   .ok false)
theorem F_words_may.eq (k : Nat) (a0 : Int) (a1 : Int) : evFn (T := Bool) tab (calOf (F_words_may.cal k)) Go.Proofs.Try.f53 F_words_may.nt k [.int .u64 a0, .int .i64 a1] [] ⟨0, false, []⟩ (fun v st => takeR F_words_may.rt v st.H .ok) panK = F_words_may.S k a0 a1 := by kernel_rfl
theorem F_words_may.ok (k : Nat) : FnOk Try.prog 53 F_words_may.as F_words_may.rt (fun (x : Int × Int) => F_words_may.S k x.1 x.2) :=
  FnOk.of_ev tab_ok (calOf_ok (F_words_may.cal_ok k)) mixed Try.func53 F_words_may.nt k (fun _ => rfl) (fun (x : Int × Int) => F_words_may.eq k x.1 x.2)
theorem F_words_may.hd {T : Type} (k : Nat) : HdOk Try.prog 53 (pureN (T := T) F_words_may.as F_words_may.rt (fun (x : Int × Int) => F_words_may.S k x.1 x.2)) :=
  pureN_ok rfl rfl (F_words_may.ok k) Try.call53
/-! ### aqueduct/words.Put: function 26 -/
noncomputable def F_words_Put.as : As := .some (.cons (.leaf (.int .u64)) (.cons (.leaf (.int .i64)) (.one (.leaf .bool))))
noncomputable def F_words_Put.rt : Rt := .tup (.cons (.leaf .str) (.one (.leaf (.int .i64))))
noncomputable def F_words_Put.nt : Notes := ⟨[(5, [0, 1, 2, 8, 16, 17])], [], [], [], []⟩
noncomputable def F_words_Put.cal0 {T : Type} (k : Nat) : List (FuncId × Hd T) := [(52, pureN F_words_Turn.as F_words_Turn.rt (fun (x : ByteArray) => F_words_Turn.S k x)), (53, pureN F_words_may.as F_words_may.rt (fun (x : Int × Int) => F_words_may.S k x.1 x.2))]
theorem F_words_Put.cal0_ok {T : Type} (k : Nat) : HdsOk Try.prog (F_words_Put.cal0 (T := T) k) := ⟨F_words_Turn.hd k, F_words_may.hd k, trivial⟩
noncomputable def F_words_Put.cal {T : Type} (k : Nat) : List (FuncId × Hd T) := F_words_Put.cal0 k
theorem F_words_Put.cal_ok {T : Type} (k : Nat) : HdsOk Try.prog (F_words_Put.cal (T := T) k) := F_words_Put.cal0_ok k
noncomputable def F_words_Put.l0_b (k : Nat) (a0 : Int) (a1 : Int) (a2 : Bool) (R_l0 : Int → (List Int) → O (ByteArray × Int)) (v3 : Int) (v4 : List Int) : O (ByteArray × Int) :=
  O.cond (decide (v3 < a1)) (
   O.chk (decide (0 ≤ (IntKind.i64.wrap ((8 : Int) * v3)))) (
    O.chk (decide (0 ≤ (IntKind.i64.wrap ((IntKind.i64.wrap (a1 - (1 : Int))) - v3)) ∧ (IntKind.i64.wrap ((IntKind.i64.wrap (a1 - (1 : Int))) - v3)) < (List.length v4 : Int) ∧ (List.length v4 : Int) ≤ (List.length v4 : Int))) (
     O.chk (decide (0 ≤ (IntKind.i64.wrap ((IntKind.i64.wrap (a1 - (1 : Int))) - v3)) ∧ (IntKind.i64.wrap ((IntKind.i64.wrap (a1 - (1 : Int))) - v3)) < (List.length v4 : Int))) (
      R_l0 (IntKind.i64.wrap (v3 + (1 : Int))) (su v4 (IntKind.i64.wrap ((IntKind.i64.wrap (a1 - (1 : Int))) - v3)) (IntKind.u8.wrap (shR .u64 a0 (IntKind.i64.wrap ((8 : Int) * v3))))))))) (
   O.cond (!a2) (
    O.bind (F_words_Turn.S k (strOf v4)) fun r5 =>
    .ok (r5, (0 : Int))) (
    .ok ((strOf v4), (0 : Int))))
noncomputable def F_words_Put.l0 (k : Nat) (a0 : Int) (a1 : Int) (a2 : Bool) : Nat → Int → (List Int) → O (ByteArray × Int)
  | 0, _, _ => .no
  | j + 1, v3, v4 => F_words_Put.l0_b k a0 a1 a2 (F_words_Put.l0 k a0 a1 a2 j) v3 v4
theorem F_words_Put.l0_eq (k : Nat) (a0 : Int) (a1 : Int) (a2 : Bool) : ∀ (j : Nat) (v3 : Int) (v4 : List Int), loopAt (T := ByteArray × Int) tab (calOf (F_words_Put.cal k)) Go.Proofs.Try.f26.ntmps F_words_Put.nt k [] [.r, .r, .r, .l, .r, .b] (bodyOf Go.Proofs.Try.f26) (finK tab Go.Proofs.Try.f26.results.toList (fun v st => takeR F_words_Put.rt v st.H .ok) panK) j ⟨[(0, .int .u64 a0), (1, .int .i64 a1), (2, .bool a2), (8, .osl 0), (16, .int .i64 a1), (17, .int .i64 v3)], [], 0, []⟩ ⟨1, true, [(0, .row true 5 [.int .u8] v4)]⟩ = F_words_Put.l0 k a0 a1 a2 j v3 v4 := by
  intro j
  induction j with
  | zero => intro v3 v4; rfl
  | succ j ih =>
    intro v3 v4
    have rs : (fun (v3' : Int) (v4' : List Int) => loopAt (T := ByteArray × Int) tab (calOf (F_words_Put.cal k)) Go.Proofs.Try.f26.ntmps F_words_Put.nt k [] [.r, .r, .r, .l, .r, .b] (bodyOf Go.Proofs.Try.f26) (finK tab Go.Proofs.Try.f26.results.toList (fun v st => takeR F_words_Put.rt v st.H .ok) panK) j ⟨[(0, .int .u64 a0), (1, .int .i64 a1), (2, .bool a2), (8, .osl 0), (16, .int .i64 a1), (17, .int .i64 v3')], [], 0, []⟩ ⟨1, true, [(0, .row true 5 [.int .u8] v4')]⟩) = F_words_Put.l0 k a0 a1 a2 j := by funext v3' v4'; exact ih v3' v4'
    have h : loopAt (T := ByteArray × Int) tab (calOf (F_words_Put.cal k)) Go.Proofs.Try.f26.ntmps F_words_Put.nt k [] [.r, .r, .r, .l, .r, .b] (bodyOf Go.Proofs.Try.f26) (finK tab Go.Proofs.Try.f26.results.toList (fun v st => takeR F_words_Put.rt v st.H .ok) panK) (j + 1) ⟨[(0, .int .u64 a0), (1, .int .i64 a1), (2, .bool a2), (8, .osl 0), (16, .int .i64 a1), (17, .int .i64 v3)], [], 0, []⟩ ⟨1, true, [(0, .row true 5 [.int .u8] v4)]⟩ = F_words_Put.l0_b k a0 a1 a2 ((fun (v3' : Int) (v4' : List Int) => loopAt (T := ByteArray × Int) tab (calOf (F_words_Put.cal k)) Go.Proofs.Try.f26.ntmps F_words_Put.nt k [] [.r, .r, .r, .l, .r, .b] (bodyOf Go.Proofs.Try.f26) (finK tab Go.Proofs.Try.f26.results.toList (fun v st => takeR F_words_Put.rt v st.H .ok) panK) j ⟨[(0, .int .u64 a0), (1, .int .i64 a1), (2, .bool a2), (8, .osl 0), (16, .int .i64 a1), (17, .int .i64 v3')], [], 0, []⟩ ⟨1, true, [(0, .row true 5 [.int .u8] v4')]⟩)) v3 v4 := by kernel_rfl
    exact h.trans (by rw [rs]; rfl)
noncomputable def F_words_Put.top (k : Nat) (a0 : Int) (a1 : Int) (a2 : Bool) (D_l0 : Int → (List Int) → O (ByteArray × Int)) : O (ByteArray × Int) :=
  O.bind (F_words_may.S k a0 a1) fun r1 =>
  O.cond (!r1) (
   .ok ((⟨#[]⟩ : ByteArray), (1 : Int))) (
   O.chk (decide (0 ≤ a1 ∧ a1 = a1 ∧ a1 ≤ 1073741824)) (
    D_l0 (0 : Int) (List.replicate a1.toNat (0 : Int))))
noncomputable def F_words_Put.S (k : Nat) (a0 : Int) (a1 : Int) (a2 : Bool) : O (ByteArray × Int) := F_words_Put.top k a0 a1 a2 ((fun (v3 : Int) (v4 : List Int) => F_words_Put.l0 k a0 a1 a2 k v3 v4))
theorem F_words_Put.eq (k : Nat) (a0 : Int) (a1 : Int) (a2 : Bool) : evFn (T := ByteArray × Int) tab (calOf (F_words_Put.cal k)) Go.Proofs.Try.f26 F_words_Put.nt k [.int .u64 a0, .int .i64 a1, .bool a2] [] ⟨0, false, []⟩ (fun v st => takeR F_words_Put.rt v st.H .ok) panK = F_words_Put.S k a0 a1 a2 := by
  have e0 : (fun (v3 : Int) (v4 : List Int) => loopAt (T := ByteArray × Int) tab (calOf (F_words_Put.cal k)) Go.Proofs.Try.f26.ntmps F_words_Put.nt k [] [.r, .r, .r, .l, .r, .b] (bodyOf Go.Proofs.Try.f26) (finK tab Go.Proofs.Try.f26.results.toList (fun v st => takeR F_words_Put.rt v st.H .ok) panK) k ⟨[(0, .int .u64 a0), (1, .int .i64 a1), (2, .bool a2), (8, .osl 0), (16, .int .i64 a1), (17, .int .i64 v3)], [], 0, []⟩ ⟨1, true, [(0, .row true 5 [.int .u8] v4)]⟩) = (fun (v3 : Int) (v4 : List Int) => F_words_Put.l0 k a0 a1 a2 k v3 v4) := by funext v3 v4; exact F_words_Put.l0_eq k a0 a1 a2 k v3 v4
  have h : evFn (T := ByteArray × Int) tab (calOf (F_words_Put.cal k)) Go.Proofs.Try.f26 F_words_Put.nt k [.int .u64 a0, .int .i64 a1, .bool a2] [] ⟨0, false, []⟩ (fun v st => takeR F_words_Put.rt v st.H .ok) panK = F_words_Put.top k a0 a1 a2 ((fun (v3 : Int) (v4 : List Int) => loopAt (T := ByteArray × Int) tab (calOf (F_words_Put.cal k)) Go.Proofs.Try.f26.ntmps F_words_Put.nt k [] [.r, .r, .r, .l, .r, .b] (bodyOf Go.Proofs.Try.f26) (finK tab Go.Proofs.Try.f26.results.toList (fun v st => takeR F_words_Put.rt v st.H .ok) panK) k ⟨[(0, .int .u64 a0), (1, .int .i64 a1), (2, .bool a2), (8, .osl 0), (16, .int .i64 a1), (17, .int .i64 v3)], [], 0, []⟩ ⟨1, true, [(0, .row true 5 [.int .u8] v4)]⟩)) := by kernel_rfl
  exact h.trans (by rw [e0]; rfl)
theorem F_words_Put.ok (k : Nat) : FnOk Try.prog 26 F_words_Put.as F_words_Put.rt (fun (x : Int × Int × Bool) => F_words_Put.S k x.1 x.2.1 x.2.2) :=
  FnOk.of_ev tab_ok (calOf_ok (F_words_Put.cal_ok k)) mixed Try.func26 F_words_Put.nt k (fun _ => rfl) (fun (x : Int × Int × Bool) => F_words_Put.eq k x.1 x.2.1 x.2.2)
theorem F_words_Put.hd {T : Type} (k : Nat) : HdOk Try.prog 26 (pureN (T := T) F_words_Put.as F_words_Put.rt (fun (x : Int × Int × Bool) => F_words_Put.S k x.1 x.2.1 x.2.2)) :=
  pureN_ok rfl rfl (F_words_Put.ok k) Try.call26
/-! ### aqueduct/nethdr.Build: function 12 -/
noncomputable def F_nethdr_Build.as : As := .some (.one (.agg (.cons (.leaf (.int .i64)) (.cons (.leaf (.int .i64)) (.cons (.leaf (.int .i64)) (.cons (.leaf (.int .i64)) (.cons (.leaf (.int .i64)) (.cons (.leaf (.int .i64)) (.one (.leaf (.int .i64)))))))))))
noncomputable def F_nethdr_Build.rt : Rt := .tup (.cons (.leaf .str) (.one (.leaf (.int .i64))))
noncomputable def F_nethdr_Build.nt : Notes := ⟨[(6, [4, 5, 6, 31, 32, 33])], [], [(1, [0, 1, 2, 3, 4, 5, 6])], [], [(1, [1], [1])]⟩
noncomputable def F_nethdr_Build.cal0 {T : Type} (k : Nat) : List (FuncId × Hd T) := [(26, pureN F_words_Put.as F_words_Put.rt (fun (x : Int × Int × Bool) => F_words_Put.S k x.1 x.2.1 x.2.2))]
theorem F_nethdr_Build.cal0_ok {T : Type} (k : Nat) : HdsOk Try.prog (F_nethdr_Build.cal0 (T := T) k) := ⟨F_words_Put.hd k, trivial⟩
noncomputable def F_nethdr_Build.nt25 : Notes := ⟨[], [], [], [], []⟩
noncomputable def F_nethdr_Build.cal1 {T : Type} (k : Nat) : List (FuncId × Hd T) := (25, inlH tab (calOf (F_nethdr_Build.cal0 k)) Go.Proofs.Try.f25 F_nethdr_Build.nt25 k) :: F_nethdr_Build.cal0 k
theorem F_nethdr_Build.cal1_ok {T : Type} (k : Nat) : HdsOk Try.prog (F_nethdr_Build.cal1 (T := T) k) := ⟨inlH_ok tab_ok (calOf_ok (F_nethdr_Build.cal0_ok k)) mixed Try.func25 F_nethdr_Build.nt25 k Try.call25, F_nethdr_Build.cal0_ok k⟩
noncomputable def F_nethdr_Build.cal {T : Type} (k : Nat) : List (FuncId × Hd T) := F_nethdr_Build.cal1 k
theorem F_nethdr_Build.cal_ok {T : Type} (k : Nat) : HdsOk Try.prog (F_nethdr_Build.cal (T := T) k) := F_nethdr_Build.cal1_ok k
noncomputable def F_nethdr_Build.l0_b (k : Nat) (a0 : Int × Int × Int × Int × Int × Int × Int) (R_l0 : Int → ByteArray → Bool → O (ByteArray × Int)) (v7 : Int) (v8 : ByteArray) (v9 : Bool) : O (ByteArray × Int) :=
  O.cond (decide (v7 < (5 : Int))) (
   O.chk (decide (0 ≤ v7 ∧ v7 < (5 : Int) ∧ (5 : Int) ≤ (List.length [a0.2.2.1, a0.2.2.2.1, a0.2.2.2.2.1, a0.2.2.2.2.2.1, a0.2.2.2.2.2.2] : Int))) (
    O.chk (decide (0 ≤ v7 ∧ v7 < (List.length [a0.2.2.1, a0.2.2.2.1, a0.2.2.2.2.1, a0.2.2.2.2.2.1, a0.2.2.2.2.2.2] : Int))) (
     O.bind (F_words_Put.S k (IntKind.u64.wrap (gt (0 : Int) [a0.2.2.1, a0.2.2.2.1, a0.2.2.2.2.1, a0.2.2.2.2.2.1, a0.2.2.2.2.2.2] v7)) (2 : Int) false) fun r12 =>
     O.cond v9 (
      O.cond (decide ((gt (0 : Int) [a0.2.2.1, a0.2.2.2.1, a0.2.2.2.2.1, a0.2.2.2.2.2.1, a0.2.2.2.2.2.2] v7) ≥ (0 : Int))) (
       O.chk (decide (((ByteArray.size v8 + ByteArray.size r12.1 : Nat) : Int) ≤ 9223372036854775807)) (
        R_l0 (IntKind.i64.wrap (v7 + (1 : Int))) (v8 ++ r12.1) (decide (r12.2 = (0 : Int))))) (
       O.chk (decide (((ByteArray.size v8 + ByteArray.size r12.1 : Nat) : Int) ≤ 9223372036854775807)) (
        R_l0 (IntKind.i64.wrap (v7 + (1 : Int))) (v8 ++ r12.1) false))) (
      O.chk (decide (((ByteArray.size v8 + ByteArray.size r12.1 : Nat) : Int) ≤ 9223372036854775807)) (
       R_l0 (IntKind.i64.wrap (v7 + (1 : Int))) (v8 ++ r12.1) false))))) (
   O.cond (!v9) (
    .ok ((⟨#[]⟩ : ByteArray), (101 : Int))) (
    .ok (v8, (0 : Int))))
noncomputable def F_nethdr_Build.l0 (k : Nat) (a0 : Int × Int × Int × Int × Int × Int × Int) : Nat → Int → ByteArray → Bool → O (ByteArray × Int)
  | 0, _, _, _ => .no
  | j + 1, v7, v8, v9 => F_nethdr_Build.l0_b k a0 (F_nethdr_Build.l0 k a0 j) v7 v8 v9
theorem F_nethdr_Build.l0_eq (k : Nat) (a0 : Int × Int × Int × Int × Int × Int × Int) : ∀ (j : Nat) (v7 : Int) (v8 : ByteArray) (v9 : Bool), loopAt (T := ByteArray × Int) tab (calOf (F_nethdr_Build.cal k)) Go.Proofs.Try.f12.ntmps F_nethdr_Build.nt k [] [.r, .r, .r, .r, .r, .l, .r, .b] (bodyOf Go.Proofs.Try.f12) (finK tab Go.Proofs.Try.f12.results.toList (fun v st => takeR F_nethdr_Build.rt v st.H .ok) panK) j ⟨[(4, .ptr 0 0), (5, .ptr 1 0), (6, .clo 25 [.ptr 1 0, .ptr 0 0]), (31, .osl 2), (32, .int .i64 (5 : Int)), (33, .int .i64 v7)], [], 0, []⟩ ⟨3, true, [(0, .cells 9 [.str v8]), (1, .cells 4 [.bool v9]), (2, .row true 3 [.int .i64] [a0.2.2.1, a0.2.2.2.1, a0.2.2.2.2.1, a0.2.2.2.2.2.1, a0.2.2.2.2.2.2])]⟩ = F_nethdr_Build.l0 k a0 j v7 v8 v9 := by
  intro j
  induction j with
  | zero => intro v7 v8 v9; rfl
  | succ j ih =>
    intro v7 v8 v9
    have rs : (fun (v7' : Int) (v8' : ByteArray) (v9' : Bool) => loopAt (T := ByteArray × Int) tab (calOf (F_nethdr_Build.cal k)) Go.Proofs.Try.f12.ntmps F_nethdr_Build.nt k [] [.r, .r, .r, .r, .r, .l, .r, .b] (bodyOf Go.Proofs.Try.f12) (finK tab Go.Proofs.Try.f12.results.toList (fun v st => takeR F_nethdr_Build.rt v st.H .ok) panK) j ⟨[(4, .ptr 0 0), (5, .ptr 1 0), (6, .clo 25 [.ptr 1 0, .ptr 0 0]), (31, .osl 2), (32, .int .i64 (5 : Int)), (33, .int .i64 v7')], [], 0, []⟩ ⟨3, true, [(0, .cells 9 [.str v8']), (1, .cells 4 [.bool v9']), (2, .row true 3 [.int .i64] [a0.2.2.1, a0.2.2.2.1, a0.2.2.2.2.1, a0.2.2.2.2.2.1, a0.2.2.2.2.2.2])]⟩) = F_nethdr_Build.l0 k a0 j := by funext v7' v8' v9'; exact ih v7' v8' v9'
    have h : loopAt (T := ByteArray × Int) tab (calOf (F_nethdr_Build.cal k)) Go.Proofs.Try.f12.ntmps F_nethdr_Build.nt k [] [.r, .r, .r, .r, .r, .l, .r, .b] (bodyOf Go.Proofs.Try.f12) (finK tab Go.Proofs.Try.f12.results.toList (fun v st => takeR F_nethdr_Build.rt v st.H .ok) panK) (j + 1) ⟨[(4, .ptr 0 0), (5, .ptr 1 0), (6, .clo 25 [.ptr 1 0, .ptr 0 0]), (31, .osl 2), (32, .int .i64 (5 : Int)), (33, .int .i64 v7)], [], 0, []⟩ ⟨3, true, [(0, .cells 9 [.str v8]), (1, .cells 4 [.bool v9]), (2, .row true 3 [.int .i64] [a0.2.2.1, a0.2.2.2.1, a0.2.2.2.2.1, a0.2.2.2.2.2.1, a0.2.2.2.2.2.2])]⟩ = F_nethdr_Build.l0_b k a0 ((fun (v7' : Int) (v8' : ByteArray) (v9' : Bool) => loopAt (T := ByteArray × Int) tab (calOf (F_nethdr_Build.cal k)) Go.Proofs.Try.f12.ntmps F_nethdr_Build.nt k [] [.r, .r, .r, .r, .r, .l, .r, .b] (bodyOf Go.Proofs.Try.f12) (finK tab Go.Proofs.Try.f12.results.toList (fun v st => takeR F_nethdr_Build.rt v st.H .ok) panK) j ⟨[(4, .ptr 0 0), (5, .ptr 1 0), (6, .clo 25 [.ptr 1 0, .ptr 0 0]), (31, .osl 2), (32, .int .i64 (5 : Int)), (33, .int .i64 v7')], [], 0, []⟩ ⟨3, true, [(0, .cells 9 [.str v8']), (1, .cells 4 [.bool v9']), (2, .row true 3 [.int .i64] [a0.2.2.1, a0.2.2.2.1, a0.2.2.2.2.1, a0.2.2.2.2.2.1, a0.2.2.2.2.2.2])]⟩)) v7 v8 v9 := by kernel_rfl
    exact h.trans (by rw [rs]; rfl)
noncomputable def F_nethdr_Build.top (k : Nat) (a0 : Int × Int × Int × Int × Int × Int × Int) (D_l0 : Int → ByteArray → Bool → O (ByteArray × Int)) : O (ByteArray × Int) :=
  O.twice (
   O.bind (F_words_Put.S k (IntKind.u64.wrap a0.1) (1 : Int) false) fun r1 =>
   O.cond (decide (a0.1 ≤ (3 : Int))) (
    O.cond (decide (a0.1 ≥ (0 : Int))) (
     O.chk (decide (((ByteArray.size (⟨#[]⟩ : ByteArray) + ByteArray.size r1.1 : Nat) : Int) ≤ 9223372036854775807)) (
      O.bind (F_words_Put.S k (IntKind.u64.wrap a0.2.1) (1 : Int) false) fun r3 =>
      O.cond (decide (r1.2 = (0 : Int))) (
       O.cond (decide (a0.2.1 ≥ (0 : Int))) (
        O.chk (decide (((ByteArray.size ((⟨#[]⟩ : ByteArray) ++ r1.1) + ByteArray.size r3.1 : Nat) : Int) ≤ 9223372036854775807)) (
         D_l0 (0 : Int) (((⟨#[]⟩ : ByteArray) ++ r1.1) ++ r3.1) (decide (r3.2 = (0 : Int))))) (
        O.chk (decide (((ByteArray.size ((⟨#[]⟩ : ByteArray) ++ r1.1) + ByteArray.size r3.1 : Nat) : Int) ≤ 9223372036854775807)) (
         D_l0 (0 : Int) (((⟨#[]⟩ : ByteArray) ++ r1.1) ++ r3.1) false))) (
       O.chk (decide (((ByteArray.size ((⟨#[]⟩ : ByteArray) ++ r1.1) + ByteArray.size r3.1 : Nat) : Int) ≤ 9223372036854775807)) (
        D_l0 (0 : Int) (((⟨#[]⟩ : ByteArray) ++ r1.1) ++ r3.1) false)))) (
     O.chk (decide (((ByteArray.size (⟨#[]⟩ : ByteArray) + ByteArray.size r1.1 : Nat) : Int) ≤ 9223372036854775807)) (
      O.bind (F_words_Put.S k (IntKind.u64.wrap a0.2.1) (1 : Int) false) fun r14 =>
      O.cond false (
       O.cond (decide (a0.2.1 ≥ (0 : Int))) (
        O.chk (decide (((ByteArray.size ((⟨#[]⟩ : ByteArray) ++ r1.1) + ByteArray.size r14.1 : Nat) : Int) ≤ 9223372036854775807)) (
         D_l0 (0 : Int) (((⟨#[]⟩ : ByteArray) ++ r1.1) ++ r14.1) (decide (r14.2 = (0 : Int))))) (
        O.chk (decide (((ByteArray.size ((⟨#[]⟩ : ByteArray) ++ r1.1) + ByteArray.size r14.1 : Nat) : Int) ≤ 9223372036854775807)) (
         D_l0 (0 : Int) (((⟨#[]⟩ : ByteArray) ++ r1.1) ++ r14.1) false))) (
       O.chk (decide (((ByteArray.size ((⟨#[]⟩ : ByteArray) ++ r1.1) + ByteArray.size r14.1 : Nat) : Int) ≤ 9223372036854775807)) (
        D_l0 (0 : Int) (((⟨#[]⟩ : ByteArray) ++ r1.1) ++ r14.1) false))))) (
    O.chk (decide (((ByteArray.size (⟨#[]⟩ : ByteArray) + ByteArray.size r1.1 : Nat) : Int) ≤ 9223372036854775807)) (
     O.bind (F_words_Put.S k (IntKind.u64.wrap a0.2.1) (1 : Int) false) fun r16 =>
     O.cond false (
      O.cond (decide (a0.2.1 ≥ (0 : Int))) (
       O.chk (decide (((ByteArray.size ((⟨#[]⟩ : ByteArray) ++ r1.1) + ByteArray.size r16.1 : Nat) : Int) ≤ 9223372036854775807)) (
        D_l0 (0 : Int) (((⟨#[]⟩ : ByteArray) ++ r1.1) ++ r16.1) (decide (r16.2 = (0 : Int))))) (
       O.chk (decide (((ByteArray.size ((⟨#[]⟩ : ByteArray) ++ r1.1) + ByteArray.size r16.1 : Nat) : Int) ≤ 9223372036854775807)) (
        D_l0 (0 : Int) (((⟨#[]⟩ : ByteArray) ++ r1.1) ++ r16.1) false))) (
      O.chk (decide (((ByteArray.size ((⟨#[]⟩ : ByteArray) ++ r1.1) + ByteArray.size r16.1 : Nat) : Int) ≤ 9223372036854775807)) (
       D_l0 (0 : Int) (((⟨#[]⟩ : ByteArray) ++ r1.1) ++ r16.1) false)))))
noncomputable def F_nethdr_Build.S (k : Nat) (a0 : Int × Int × Int × Int × Int × Int × Int) : O (ByteArray × Int) := F_nethdr_Build.top k a0 ((fun (v7 : Int) (v8 : ByteArray) (v9 : Bool) => F_nethdr_Build.l0 k a0 k v7 v8 v9))
theorem F_nethdr_Build.eq (k : Nat) (a0 : Int × Int × Int × Int × Int × Int × Int) : evFn (T := ByteArray × Int) tab (calOf (F_nethdr_Build.cal k)) Go.Proofs.Try.f12 F_nethdr_Build.nt k [.agg [.int .i64 a0.1, .int .i64 a0.2.1, .int .i64 a0.2.2.1, .int .i64 a0.2.2.2.1, .int .i64 a0.2.2.2.2.1, .int .i64 a0.2.2.2.2.2.1, .int .i64 a0.2.2.2.2.2.2]] [] ⟨0, false, []⟩ (fun v st => takeR F_nethdr_Build.rt v st.H .ok) panK = F_nethdr_Build.S k a0 := by
  have e0 : (fun (v7 : Int) (v8 : ByteArray) (v9 : Bool) => loopAt (T := ByteArray × Int) tab (calOf (F_nethdr_Build.cal k)) Go.Proofs.Try.f12.ntmps F_nethdr_Build.nt k [] [.r, .r, .r, .r, .r, .l, .r, .b] (bodyOf Go.Proofs.Try.f12) (finK tab Go.Proofs.Try.f12.results.toList (fun v st => takeR F_nethdr_Build.rt v st.H .ok) panK) k ⟨[(4, .ptr 0 0), (5, .ptr 1 0), (6, .clo 25 [.ptr 1 0, .ptr 0 0]), (31, .osl 2), (32, .int .i64 (5 : Int)), (33, .int .i64 v7)], [], 0, []⟩ ⟨3, true, [(0, .cells 9 [.str v8]), (1, .cells 4 [.bool v9]), (2, .row true 3 [.int .i64] [a0.2.2.1, a0.2.2.2.1, a0.2.2.2.2.1, a0.2.2.2.2.2.1, a0.2.2.2.2.2.2])]⟩) = (fun (v7 : Int) (v8 : ByteArray) (v9 : Bool) => F_nethdr_Build.l0 k a0 k v7 v8 v9) := by funext v7 v8 v9; exact F_nethdr_Build.l0_eq k a0 k v7 v8 v9
  have h : evFn (T := ByteArray × Int) tab (calOf (F_nethdr_Build.cal k)) Go.Proofs.Try.f12 F_nethdr_Build.nt k [.agg [.int .i64 a0.1, .int .i64 a0.2.1, .int .i64 a0.2.2.1, .int .i64 a0.2.2.2.1, .int .i64 a0.2.2.2.2.1, .int .i64 a0.2.2.2.2.2.1, .int .i64 a0.2.2.2.2.2.2]] [] ⟨0, false, []⟩ (fun v st => takeR F_nethdr_Build.rt v st.H .ok) panK = F_nethdr_Build.top k a0 ((fun (v7 : Int) (v8 : ByteArray) (v9 : Bool) => loopAt (T := ByteArray × Int) tab (calOf (F_nethdr_Build.cal k)) Go.Proofs.Try.f12.ntmps F_nethdr_Build.nt k [] [.r, .r, .r, .r, .r, .l, .r, .b] (bodyOf Go.Proofs.Try.f12) (finK tab Go.Proofs.Try.f12.results.toList (fun v st => takeR F_nethdr_Build.rt v st.H .ok) panK) k ⟨[(4, .ptr 0 0), (5, .ptr 1 0), (6, .clo 25 [.ptr 1 0, .ptr 0 0]), (31, .osl 2), (32, .int .i64 (5 : Int)), (33, .int .i64 v7)], [], 0, []⟩ ⟨3, true, [(0, .cells 9 [.str v8]), (1, .cells 4 [.bool v9]), (2, .row true 3 [.int .i64] [a0.2.2.1, a0.2.2.2.1, a0.2.2.2.2.1, a0.2.2.2.2.2.1, a0.2.2.2.2.2.2])]⟩)) := by kernel_rfl
  exact h.trans (by rw [e0]; rfl)
theorem F_nethdr_Build.ok (k : Nat) : FnOk Try.prog 12 F_nethdr_Build.as F_nethdr_Build.rt (fun (x : Int × Int × Int × Int × Int × Int × Int) => F_nethdr_Build.S k x) :=
  FnOk.of_ev tab_ok (calOf_ok (F_nethdr_Build.cal_ok k)) mixed Try.func12 F_nethdr_Build.nt k (fun _ => rfl) (fun (x : Int × Int × Int × Int × Int × Int × Int) => F_nethdr_Build.eq k x)
theorem F_nethdr_Build.hd {T : Type} (k : Nat) : HdOk Try.prog 12 (pureN (T := T) F_nethdr_Build.as F_nethdr_Build.rt (fun (x : Int × Int × Int × Int × Int × Int × Int) => F_nethdr_Build.S k x)) :=
  pureN_ok rfl rfl (F_nethdr_Build.ok k) Try.call12
/-! ### aqueduct/aqueductref10.Build: function 13 -/
noncomputable def F_aqueductref10_Build.as : As := .some (.one (.agg (.cons (.leaf (.int .i64)) (.cons (.leaf (.int .i64)) (.cons (.leaf (.int .i64)) (.cons (.leaf (.int .i64)) (.cons (.leaf (.int .i64)) (.cons (.leaf (.int .i64)) (.one (.leaf (.int .i64)))))))))))
noncomputable def F_aqueductref10_Build.rt : Rt := .tup (.cons (.leaf .str) (.one (.leaf (.int .i64))))
noncomputable def F_aqueductref10_Build.nt : Notes := ⟨[(6, [4, 5, 6])], [], [(10, [0, 1, 2, 3, 4, 5, 6, 7, 8, 9, 10, 11, 12, 13, 14, 15, 16])], [], []⟩
noncomputable def F_aqueductref10_Build.cal0 {T : Type} (k : Nat) : List (FuncId × Hd T) := []
theorem F_aqueductref10_Build.cal0_ok {T : Type} (k : Nat) : HdsOk Try.prog (F_aqueductref10_Build.cal0 (T := T) k) := trivial
noncomputable def F_aqueductref10_Build.cal {T : Type} (k : Nat) : List (FuncId × Hd T) := F_aqueductref10_Build.cal0 k
theorem F_aqueductref10_Build.cal_ok {T : Type} (k : Nat) : HdsOk Try.prog (F_aqueductref10_Build.cal (T := T) k) := F_aqueductref10_Build.cal0_ok k
noncomputable def F_aqueductref10_Build.l0_b (k : Nat) (a0 : Int × Int × Int × Int × Int × Int × Int) (R_l0 : ByteArray → Int → O (ByteArray × Int)) (v1 : ByteArray) (v2 : Int) : O (ByteArray × Int) :=
  O.cond (decide (v2 < (5 : Int))) (
   O.chk (decide (0 ≤ v2 ∧ v2 < (5 : Int) ∧ (5 : Int) ≤ (List.length [a0.2.2.1, a0.2.2.2.1, a0.2.2.2.2.1, a0.2.2.2.2.2.1, a0.2.2.2.2.2.2] : Int))) (
    O.chk (decide (0 ≤ v2 ∧ v2 < (List.length [a0.2.2.1, a0.2.2.2.1, a0.2.2.2.2.1, a0.2.2.2.2.2.1, a0.2.2.2.2.2.2] : Int))) (
     O.cond (decide ((gt (0 : Int) [a0.2.2.1, a0.2.2.2.1, a0.2.2.2.2.1, a0.2.2.2.2.2.1, a0.2.2.2.2.2.2] v2) < (0 : Int))) (
      .ok ((⟨#[]⟩ : ByteArray), (101 : Int))) (
      O.chk (decide (0 ≤ v2 ∧ v2 < (5 : Int) ∧ (5 : Int) ≤ (List.length [a0.2.2.1, a0.2.2.2.1, a0.2.2.2.2.1, a0.2.2.2.2.2.1, a0.2.2.2.2.2.2] : Int))) (
       O.chk (decide (0 ≤ v2 ∧ v2 < (List.length [a0.2.2.1, a0.2.2.2.1, a0.2.2.2.2.1, a0.2.2.2.2.2.1, a0.2.2.2.2.2.2] : Int))) (
        O.cond (decide ((gt (0 : Int) [a0.2.2.1, a0.2.2.2.1, a0.2.2.2.2.1, a0.2.2.2.2.2.1, a0.2.2.2.2.2.2] v2) > (65535 : Int))) (
         .ok ((⟨#[]⟩ : ByteArray), (101 : Int))) (
         O.chk (decide (0 ≤ v2 ∧ v2 < (5 : Int) ∧ (5 : Int) ≤ (List.length [a0.2.2.1, a0.2.2.2.1, a0.2.2.2.2.1, a0.2.2.2.2.2.1, a0.2.2.2.2.2.2] : Int))) (
          O.chk (decide (0 ≤ v2 ∧ v2 < (List.length [a0.2.2.1, a0.2.2.2.1, a0.2.2.2.2.1, a0.2.2.2.2.2.1, a0.2.2.2.2.2.2] : Int))) (
           O.chk (decide (0 ≤ v2 ∧ v2 < (5 : Int) ∧ (5 : Int) ≤ (List.length [a0.2.2.1, a0.2.2.2.1, a0.2.2.2.2.1, a0.2.2.2.2.2.1, a0.2.2.2.2.2.2] : Int))) (
            O.chk (decide (0 ≤ v2 ∧ v2 < (List.length [a0.2.2.1, a0.2.2.2.1, a0.2.2.2.2.1, a0.2.2.2.2.2.1, a0.2.2.2.2.2.2] : Int))) (
             O.chk (decide (((ByteArray.size v1 + ByteArray.size (strOf [(IntKind.u8.wrap (Int.tmod (gt (0 : Int) [a0.2.2.1, a0.2.2.2.1, a0.2.2.2.2.1, a0.2.2.2.2.2.1, a0.2.2.2.2.2.2] v2) (256 : Int))), (IntKind.u8.wrap (IntKind.i64.wrap (Int.tdiv (gt (0 : Int) [a0.2.2.1, a0.2.2.2.1, a0.2.2.2.2.1, a0.2.2.2.2.2.1, a0.2.2.2.2.2.2] v2) (256 : Int))))]) : Nat) : Int) ≤ 9223372036854775807)) (
              R_l0 (v1 ++ (strOf [(IntKind.u8.wrap (Int.tmod (gt (0 : Int) [a0.2.2.1, a0.2.2.2.1, a0.2.2.2.2.1, a0.2.2.2.2.2.1, a0.2.2.2.2.2.2] v2) (256 : Int))), (IntKind.u8.wrap (IntKind.i64.wrap (Int.tdiv (gt (0 : Int) [a0.2.2.1, a0.2.2.2.1, a0.2.2.2.2.1, a0.2.2.2.2.2.1, a0.2.2.2.2.2.2] v2) (256 : Int))))])) (IntKind.i64.wrap (v2 + (1 : Int))))))))))))))) (
   .ok (v1, (0 : Int)))
noncomputable def F_aqueductref10_Build.l0 (k : Nat) (a0 : Int × Int × Int × Int × Int × Int × Int) : Nat → ByteArray → Int → O (ByteArray × Int)
  | 0, _, _ => .no
  | j + 1, v1, v2 => F_aqueductref10_Build.l0_b k a0 (F_aqueductref10_Build.l0 k a0 j) v1 v2
theorem F_aqueductref10_Build.l0_eq (k : Nat) (a0 : Int × Int × Int × Int × Int × Int × Int) : ∀ (j : Nat) (v1 : ByteArray) (v2 : Int), loopAt (T := ByteArray × Int) tab (calOf (F_aqueductref10_Build.cal k)) Go.Proofs.Try.f13.ntmps F_aqueductref10_Build.nt k [] [.r, .r, .r, .r, .l, .r, .b] (bodyOf Go.Proofs.Try.f13) (finK tab Go.Proofs.Try.f13.results.toList (fun v st => takeR F_aqueductref10_Build.rt v st.H .ok) panK) j ⟨[(4, .str v1), (5, .osl 0), (6, .int .i64 v2)], [], 0, []⟩ ⟨1, true, [(0, .row true 3 [.int .i64] [a0.2.2.1, a0.2.2.2.1, a0.2.2.2.2.1, a0.2.2.2.2.2.1, a0.2.2.2.2.2.2])]⟩ = F_aqueductref10_Build.l0 k a0 j v1 v2 := by
  intro j
  induction j with
  | zero => intro v1 v2; rfl
  | succ j ih =>
    intro v1 v2
    have rs : (fun (v1' : ByteArray) (v2' : Int) => loopAt (T := ByteArray × Int) tab (calOf (F_aqueductref10_Build.cal k)) Go.Proofs.Try.f13.ntmps F_aqueductref10_Build.nt k [] [.r, .r, .r, .r, .l, .r, .b] (bodyOf Go.Proofs.Try.f13) (finK tab Go.Proofs.Try.f13.results.toList (fun v st => takeR F_aqueductref10_Build.rt v st.H .ok) panK) j ⟨[(4, .str v1'), (5, .osl 0), (6, .int .i64 v2')], [], 0, []⟩ ⟨1, true, [(0, .row true 3 [.int .i64] [a0.2.2.1, a0.2.2.2.1, a0.2.2.2.2.1, a0.2.2.2.2.2.1, a0.2.2.2.2.2.2])]⟩) = F_aqueductref10_Build.l0 k a0 j := by funext v1' v2'; exact ih v1' v2'
    have h : loopAt (T := ByteArray × Int) tab (calOf (F_aqueductref10_Build.cal k)) Go.Proofs.Try.f13.ntmps F_aqueductref10_Build.nt k [] [.r, .r, .r, .r, .l, .r, .b] (bodyOf Go.Proofs.Try.f13) (finK tab Go.Proofs.Try.f13.results.toList (fun v st => takeR F_aqueductref10_Build.rt v st.H .ok) panK) (j + 1) ⟨[(4, .str v1), (5, .osl 0), (6, .int .i64 v2)], [], 0, []⟩ ⟨1, true, [(0, .row true 3 [.int .i64] [a0.2.2.1, a0.2.2.2.1, a0.2.2.2.2.1, a0.2.2.2.2.2.1, a0.2.2.2.2.2.2])]⟩ = F_aqueductref10_Build.l0_b k a0 ((fun (v1' : ByteArray) (v2' : Int) => loopAt (T := ByteArray × Int) tab (calOf (F_aqueductref10_Build.cal k)) Go.Proofs.Try.f13.ntmps F_aqueductref10_Build.nt k [] [.r, .r, .r, .r, .l, .r, .b] (bodyOf Go.Proofs.Try.f13) (finK tab Go.Proofs.Try.f13.results.toList (fun v st => takeR F_aqueductref10_Build.rt v st.H .ok) panK) j ⟨[(4, .str v1'), (5, .osl 0), (6, .int .i64 v2')], [], 0, []⟩ ⟨1, true, [(0, .row true 3 [.int .i64] [a0.2.2.1, a0.2.2.2.1, a0.2.2.2.2.1, a0.2.2.2.2.2.1, a0.2.2.2.2.2.2])]⟩)) v1 v2 := by kernel_rfl
    exact h.trans (by rw [rs]; rfl)
noncomputable def F_aqueductref10_Build.top (k : Nat) (a0 : Int × Int × Int × Int × Int × Int × Int) (D_l0 : ByteArray → Int → O (ByteArray × Int)) : O (ByteArray × Int) :=
  O.cond (decide (a0.1 < (0 : Int))) (
   .ok ((⟨#[]⟩ : ByteArray), (101 : Int))) (
   O.cond (decide (a0.1 > (3 : Int))) (
    .ok ((⟨#[]⟩ : ByteArray), (101 : Int))) (
    O.cond (decide (a0.2.1 < (0 : Int))) (
     .ok ((⟨#[]⟩ : ByteArray), (101 : Int))) (
     O.cond (decide (a0.2.1 > (255 : Int))) (
      .ok ((⟨#[]⟩ : ByteArray), (101 : Int))) (
      D_l0 (strOf [(IntKind.u8.wrap a0.1), (IntKind.u8.wrap a0.2.1)]) (0 : Int)))))
noncomputable def F_aqueductref10_Build.S (k : Nat) (a0 : Int × Int × Int × Int × Int × Int × Int) : O (ByteArray × Int) := F_aqueductref10_Build.top k a0 ((fun (v1 : ByteArray) (v2 : Int) => F_aqueductref10_Build.l0 k a0 k v1 v2))
theorem F_aqueductref10_Build.eq (k : Nat) (a0 : Int × Int × Int × Int × Int × Int × Int) : evFn (T := ByteArray × Int) tab (calOf (F_aqueductref10_Build.cal k)) Go.Proofs.Try.f13 F_aqueductref10_Build.nt k [.agg [.int .i64 a0.1, .int .i64 a0.2.1, .int .i64 a0.2.2.1, .int .i64 a0.2.2.2.1, .int .i64 a0.2.2.2.2.1, .int .i64 a0.2.2.2.2.2.1, .int .i64 a0.2.2.2.2.2.2]] [] ⟨0, false, []⟩ (fun v st => takeR F_aqueductref10_Build.rt v st.H .ok) panK = F_aqueductref10_Build.S k a0 := by
  have e0 : (fun (v1 : ByteArray) (v2 : Int) => loopAt (T := ByteArray × Int) tab (calOf (F_aqueductref10_Build.cal k)) Go.Proofs.Try.f13.ntmps F_aqueductref10_Build.nt k [] [.r, .r, .r, .r, .l, .r, .b] (bodyOf Go.Proofs.Try.f13) (finK tab Go.Proofs.Try.f13.results.toList (fun v st => takeR F_aqueductref10_Build.rt v st.H .ok) panK) k ⟨[(4, .str v1), (5, .osl 0), (6, .int .i64 v2)], [], 0, []⟩ ⟨1, true, [(0, .row true 3 [.int .i64] [a0.2.2.1, a0.2.2.2.1, a0.2.2.2.2.1, a0.2.2.2.2.2.1, a0.2.2.2.2.2.2])]⟩) = (fun (v1 : ByteArray) (v2 : Int) => F_aqueductref10_Build.l0 k a0 k v1 v2) := by funext v1 v2; exact F_aqueductref10_Build.l0_eq k a0 k v1 v2
  have h : evFn (T := ByteArray × Int) tab (calOf (F_aqueductref10_Build.cal k)) Go.Proofs.Try.f13 F_aqueductref10_Build.nt k [.agg [.int .i64 a0.1, .int .i64 a0.2.1, .int .i64 a0.2.2.1, .int .i64 a0.2.2.2.1, .int .i64 a0.2.2.2.2.1, .int .i64 a0.2.2.2.2.2.1, .int .i64 a0.2.2.2.2.2.2]] [] ⟨0, false, []⟩ (fun v st => takeR F_aqueductref10_Build.rt v st.H .ok) panK = F_aqueductref10_Build.top k a0 ((fun (v1 : ByteArray) (v2 : Int) => loopAt (T := ByteArray × Int) tab (calOf (F_aqueductref10_Build.cal k)) Go.Proofs.Try.f13.ntmps F_aqueductref10_Build.nt k [] [.r, .r, .r, .r, .l, .r, .b] (bodyOf Go.Proofs.Try.f13) (finK tab Go.Proofs.Try.f13.results.toList (fun v st => takeR F_aqueductref10_Build.rt v st.H .ok) panK) k ⟨[(4, .str v1), (5, .osl 0), (6, .int .i64 v2)], [], 0, []⟩ ⟨1, true, [(0, .row true 3 [.int .i64] [a0.2.2.1, a0.2.2.2.1, a0.2.2.2.2.1, a0.2.2.2.2.2.1, a0.2.2.2.2.2.2])]⟩)) := by kernel_rfl
  exact h.trans (by rw [e0]; rfl)
theorem F_aqueductref10_Build.ok (k : Nat) : FnOk Try.prog 13 F_aqueductref10_Build.as F_aqueductref10_Build.rt (fun (x : Int × Int × Int × Int × Int × Int × Int) => F_aqueductref10_Build.S k x) :=
  FnOk.of_ev tab_ok (calOf_ok (F_aqueductref10_Build.cal_ok k)) mixed Try.func13 F_aqueductref10_Build.nt k (fun _ => rfl) (fun (x : Int × Int × Int × Int × Int × Int × Int) => F_aqueductref10_Build.eq k x)
theorem F_aqueductref10_Build.hd {T : Type} (k : Nat) : HdOk Try.prog 13 (pureN (T := T) F_aqueductref10_Build.as F_aqueductref10_Build.rt (fun (x : Int × Int × Int × Int × Int × Int × Int) => F_aqueductref10_Build.S k x)) :=
  pureN_ok rfl rfl (F_aqueductref10_Build.ok k) Try.call13
/-! ### aqueduct/segment.set: function 43 -/
noncomputable def F_segment_set.as : As := .some (.cons (.leaf .str) (.cons (.leaf (.int .i64)) (.one (.leaf (.int .u16)))))
noncomputable def F_segment_set.rt : Rt := .val (.leaf .str)
noncomputable def F_segment_set.nt : Notes := ⟨[], [], [(1, [0, 1, 2, 3, 4, 5, 6, 7, 11, 12, 13, 14, 8, 9, 10, 15, 16])], [], []⟩
noncomputable def F_segment_set.cal0 {T : Type} (k : Nat) : List (FuncId × Hd T) := []
theorem F_segment_set.cal0_ok {T : Type} (k : Nat) : HdsOk Try.prog (F_segment_set.cal0 (T := T) k) := trivial
noncomputable def F_segment_set.cal {T : Type} (k : Nat) : List (FuncId × Hd T) := F_segment_set.cal0 k
theorem F_segment_set.cal_ok {T : Type} (k : Nat) : HdsOk Try.prog (F_segment_set.cal (T := T) k) := F_segment_set.cal0_ok k
noncomputable def F_segment_set.S (k : Nat) (a0 : ByteArray) (a1 : Int) (a2 : Int) : O ByteArray :=
  O.chk (decide (0 ≤ a1 ∧ a1 ≤ (ByteArray.size a0 : Int))) (
   O.chk (decide (0 ≤ (IntKind.i64.wrap (a1 + (2 : Int))) ∧ (IntKind.i64.wrap (a1 + (2 : Int))) ≤ (ByteArray.size a0 : Int))) (
    O.chk (decide (((ByteArray.size (ByteArray.extract a0 0 a1.toNat) + ByteArray.size (strOf [(IntKind.u8.wrap (shR .u16 a2 (8 : Int))), (IntKind.u8.wrap a2)]) : Nat) : Int) ≤ 9223372036854775807)) (
     O.chk (decide (((ByteArray.size ((ByteArray.extract a0 0 a1.toNat) ++ (strOf [(IntKind.u8.wrap (shR .u16 a2 (8 : Int))), (IntKind.u8.wrap a2)])) + ByteArray.size (ByteArray.extract a0 (IntKind.i64.wrap (a1 + (2 : Int))).toNat (ByteArray.size a0)) : Nat) : Int) ≤ 9223372036854775807)) (
      .ok (((ByteArray.extract a0 0 a1.toNat) ++ (strOf [(IntKind.u8.wrap (shR .u16 a2 (8 : Int))), (IntKind.u8.wrap a2)])) ++ (ByteArray.extract a0 (IntKind.i64.wrap (a1 + (2 : Int))).toNat (ByteArray.size a0)))))))
theorem F_segment_set.eq (k : Nat) (a0 : ByteArray) (a1 : Int) (a2 : Int) : evFn (T := ByteArray) tab (calOf (F_segment_set.cal k)) Go.Proofs.Try.f43 F_segment_set.nt k [.str a0, .int .i64 a1, .int .u16 a2] [] ⟨0, false, []⟩ (fun v st => takeR F_segment_set.rt v st.H .ok) panK = F_segment_set.S k a0 a1 a2 := by kernel_rfl
theorem F_segment_set.ok (k : Nat) : FnOk Try.prog 43 F_segment_set.as F_segment_set.rt (fun (x : ByteArray × Int × Int) => F_segment_set.S k x.1 x.2.1 x.2.2) :=
  FnOk.of_ev tab_ok (calOf_ok (F_segment_set.cal_ok k)) mixed Try.func43 F_segment_set.nt k (fun _ => rfl) (fun (x : ByteArray × Int × Int) => F_segment_set.eq k x.1 x.2.1 x.2.2)
theorem F_segment_set.hd {T : Type} (k : Nat) : HdOk Try.prog 43 (pureN (T := T) F_segment_set.as F_segment_set.rt (fun (x : ByteArray × Int × Int) => F_segment_set.S k x.1 x.2.1 x.2.2)) :=
  pureN_ok rfl rfl (F_segment_set.ok k) Try.call43
/-! ### aqueduct/segment.full: function 54 -/
noncomputable def F_segment_full.as : As := .some (.one (.leaf (.int .u16)))
noncomputable def F_segment_full.rt : Rt := .val (.leaf (.int .u16))
noncomputable def F_segment_full.nt : Notes := ⟨[], [], [], [], []⟩
noncomputable def F_segment_full.cal0 {T : Type} (k : Nat) : List (FuncId × Hd T) := []
theorem F_segment_full.cal0_ok {T : Type} (k : Nat) : HdsOk Try.prog (F_segment_full.cal0 (T := T) k) := trivial
noncomputable def F_segment_full.cal {T : Type} (k : Nat) : List (FuncId × Hd T) := F_segment_full.cal0 k
theorem F_segment_full.cal_ok {T : Type} (k : Nat) : HdsOk Try.prog (F_segment_full.cal (T := T) k) := F_segment_full.cal0_ok k
noncomputable def F_segment_full.S (k : Nat) (a0 : Int) : O Int :=
  O.cond (decide (a0 = (0 : Int))) (
   .ok (65535 : Int)) (
   .ok a0)
theorem F_segment_full.eq (k : Nat) (a0 : Int) : evFn (T := Int) tab (calOf (F_segment_full.cal k)) Go.Proofs.Try.f54 F_segment_full.nt k [.int .u16 a0] [] ⟨0, false, []⟩ (fun v st => takeR F_segment_full.rt v st.H .ok) panK = F_segment_full.S k a0 := by kernel_rfl
theorem F_segment_full.ok (k : Nat) : FnOk Try.prog 54 F_segment_full.as F_segment_full.rt (fun (x : Int) => F_segment_full.S k x) :=
  FnOk.of_ev tab_ok (calOf_ok (F_segment_full.cal_ok k)) mixed Try.func54 F_segment_full.nt k (fun _ => rfl) (fun (x : Int) => F_segment_full.eq k x)
theorem F_segment_full.hd {T : Type} (k : Nat) : HdOk Try.prog 54 (pureN (T := T) F_segment_full.as F_segment_full.rt (fun (x : Int) => F_segment_full.S k x)) :=
  pureN_ok rfl rfl (F_segment_full.ok k) Try.call54
/-! ### aqueduct/segment.Complete: function 27 -/
noncomputable def F_segment_Complete.as : As := .some (.cons (.leaf .str) (.cons (.leaf (.int .i64)) (.one (.leaf (.int .i64)))))
noncomputable def F_segment_Complete.rt : Rt := .tup (.cons (.leaf .str) (.one (.leaf (.int .i64))))
noncomputable def F_segment_Complete.nt : Notes := ⟨[], [], [], [], []⟩
noncomputable def F_segment_Complete.cal0 {T : Type} (k : Nat) : List (FuncId × Hd T) := [(43, pureN F_segment_set.as F_segment_set.rt (fun (x : ByteArray × Int × Int) => F_segment_set.S k x.1 x.2.1 x.2.2)), (54, pureN F_segment_full.as F_segment_full.rt (fun (x : Int) => F_segment_full.S k x)), (55, pureN F_csum_Sum.as F_csum_Sum.rt (fun (x : ByteArray) => F_csum_Sum.S k x))]
theorem F_segment_Complete.cal0_ok {T : Type} (k : Nat) : HdsOk Try.prog (F_segment_Complete.cal0 (T := T) k) := ⟨F_segment_set.hd k, F_segment_full.hd k, F_csum_Sum.hd k, trivial⟩
noncomputable def F_segment_Complete.cal {T : Type} (k : Nat) : List (FuncId × Hd T) := F_segment_Complete.cal0 k
theorem F_segment_Complete.cal_ok {T : Type} (k : Nat) : HdsOk Try.prog (F_segment_Complete.cal (T := T) k) := F_segment_Complete.cal0_ok k
noncomputable def F_segment_Complete.S (k : Nat) (a0 : ByteArray) (a1 : Int) (a2 : Int) : O (ByteArray × Int) :=
  O.cond (decide (a1 < (0 : Int))) (
   .ok ((⟨#[]⟩ : ByteArray), (1 : Int))) (
   O.cond (decide (a2 < (0 : Int))) (
    .ok ((⟨#[]⟩ : ByteArray), (1 : Int))) (
    O.cond (decide (a1 > (ByteArray.size a0 : Int))) (
     .ok ((⟨#[]⟩ : ByteArray), (1 : Int))) (
     O.cond (decide (a2 > (ByteArray.size a0 : Int))) (
      .ok ((⟨#[]⟩ : ByteArray), (1 : Int))) (
      O.cond (decide ((IntKind.i64.wrap (a1 + a2)) > (IntKind.i64.wrap ((ByteArray.size a0 : Int) - (2 : Int))))) (
       .ok ((⟨#[]⟩ : ByteArray), (1 : Int))) (
       O.chk (decide (0 ≤ a1 ∧ a1 ≤ (ByteArray.size a0 : Int))) (
        O.bind (F_csum_Sum.S k (ByteArray.extract a0 a1.toNat (ByteArray.size a0))) fun r1 =>
        O.bind (F_segment_full.S k r1) fun r3 =>
        O.bind (F_segment_set.S k a0 (IntKind.i64.wrap (a1 + a2)) r3) fun r5 =>
        .ok (r5, (0 : Int))))))))
theorem F_segment_Complete.eq (k : Nat) (a0 : ByteArray) (a1 : Int) (a2 : Int) : evFn (T := ByteArray × Int) tab (calOf (F_segment_Complete.cal k)) Go.Proofs.Try.f27 F_segment_Complete.nt k [.str a0, .int .i64 a1, .int .i64 a2] [] ⟨0, false, []⟩ (fun v st => takeR F_segment_Complete.rt v st.H .ok) panK = F_segment_Complete.S k a0 a1 a2 := by kernel_rfl
theorem F_segment_Complete.ok (k : Nat) : FnOk Try.prog 27 F_segment_Complete.as F_segment_Complete.rt (fun (x : ByteArray × Int × Int) => F_segment_Complete.S k x.1 x.2.1 x.2.2) :=
  FnOk.of_ev tab_ok (calOf_ok (F_segment_Complete.cal_ok k)) mixed Try.func27 F_segment_Complete.nt k (fun _ => rfl) (fun (x : ByteArray × Int × Int) => F_segment_Complete.eq k x.1 x.2.1 x.2.2)
theorem F_segment_Complete.hd {T : Type} (k : Nat) : HdOk Try.prog 27 (pureN (T := T) F_segment_Complete.as F_segment_Complete.rt (fun (x : ByteArray × Int × Int) => F_segment_Complete.S k x.1 x.2.1 x.2.2)) :=
  pureN_ok rfl rfl (F_segment_Complete.ok k) Try.call27
/-! ### aqueduct/nethdr.Finish: function 15 -/
noncomputable def F_nethdr_Finish.as : As := .some (.cons (.agg (.cons (.leaf (.int .i64)) (.cons (.leaf (.int .i64)) (.cons (.leaf (.int .i64)) (.cons (.leaf (.int .i64)) (.cons (.leaf (.int .i64)) (.cons (.leaf (.int .i64)) (.one (.leaf (.int .i64)))))))))) (.one (.leaf .str)))
noncomputable def F_nethdr_Finish.rt : Rt := .tup (.cons (.leaf .str) (.one (.leaf (.int .i64))))
noncomputable def F_nethdr_Finish.nt : Notes := ⟨[], [], [], [], []⟩
noncomputable def F_nethdr_Finish.cal0 {T : Type} (k : Nat) : List (FuncId × Hd T) := [(27, pureN F_segment_Complete.as F_segment_Complete.rt (fun (x : ByteArray × Int × Int) => F_segment_Complete.S k x.1 x.2.1 x.2.2))]
theorem F_nethdr_Finish.cal0_ok {T : Type} (k : Nat) : HdsOk Try.prog (F_nethdr_Finish.cal0 (T := T) k) := ⟨F_segment_Complete.hd k, trivial⟩
noncomputable def F_nethdr_Finish.cal {T : Type} (k : Nat) : List (FuncId × Hd T) := F_nethdr_Finish.cal0 k
theorem F_nethdr_Finish.cal_ok {T : Type} (k : Nat) : HdsOk Try.prog (F_nethdr_Finish.cal (T := T) k) := F_nethdr_Finish.cal0_ok k
noncomputable def F_nethdr_Finish.S (k : Nat) (a0 : Int × Int × Int × Int × Int × Int × Int) (a1 : ByteArray) : O (ByteArray × Int) :=
  O.cond (decide (a0.2.1 ≠ (0 : Int))) (
   .ok ((⟨#[]⟩ : ByteArray), (101 : Int))) (
   O.cond (decide ((bAnd .i64 a0.1 (1 : Int)) = (0 : Int))) (
    .ok (a1, (0 : Int))) (
    O.bind (F_segment_Complete.S k a1 a0.2.2.2.2.1 a0.2.2.2.2.2.1) fun r1 =>
    O.cond (decide (r1.2 ≠ (0 : Int))) (
     .ok ((⟨#[]⟩ : ByteArray), (102 : Int))) (
     .ok (r1.1, (0 : Int)))))
theorem F_nethdr_Finish.eq (k : Nat) (a0 : Int × Int × Int × Int × Int × Int × Int) (a1 : ByteArray) : evFn (T := ByteArray × Int) tab (calOf (F_nethdr_Finish.cal k)) Go.Proofs.Try.f15 F_nethdr_Finish.nt k [.agg [.int .i64 a0.1, .int .i64 a0.2.1, .int .i64 a0.2.2.1, .int .i64 a0.2.2.2.1, .int .i64 a0.2.2.2.2.1, .int .i64 a0.2.2.2.2.2.1, .int .i64 a0.2.2.2.2.2.2], .str a1] [] ⟨0, false, []⟩ (fun v st => takeR F_nethdr_Finish.rt v st.H .ok) panK = F_nethdr_Finish.S k a0 a1 := by kernel_rfl
theorem F_nethdr_Finish.ok (k : Nat) : FnOk Try.prog 15 F_nethdr_Finish.as F_nethdr_Finish.rt (fun (x : (Int × Int × Int × Int × Int × Int × Int) × ByteArray) => F_nethdr_Finish.S k x.1 x.2) :=
  FnOk.of_ev tab_ok (calOf_ok (F_nethdr_Finish.cal_ok k)) mixed Try.func15 F_nethdr_Finish.nt k (fun _ => rfl) (fun (x : (Int × Int × Int × Int × Int × Int × Int) × ByteArray) => F_nethdr_Finish.eq k x.1 x.2)
theorem F_nethdr_Finish.hd {T : Type} (k : Nat) : HdOk Try.prog 15 (pureN (T := T) F_nethdr_Finish.as F_nethdr_Finish.rt (fun (x : (Int × Int × Int × Int × Int × Int × Int) × ByteArray) => F_nethdr_Finish.S k x.1 x.2)) :=
  pureN_ok rfl rfl (F_nethdr_Finish.ok k) Try.call15
/-! ### aqueduct/eth.may: function 50 -/
noncomputable def F_eth_may.as : As := .some (.one (.leaf (.int .i64)))
noncomputable def F_eth_may.rt : Rt := .val (.leaf .bool)
noncomputable def F_eth_may.nt : Notes := ⟨[], [], [], [], []⟩
noncomputable def F_eth_may.cal0 {T : Type} (k : Nat) : List (FuncId × Hd T) := []
theorem F_eth_may.cal0_ok {T : Type} (k : Nat) : HdsOk Try.prog (F_eth_may.cal0 (T := T) k) := trivial
noncomputable def F_eth_may.cal {T : Type} (k : Nat) : List (FuncId × Hd T) := F_eth_may.cal0 k
theorem F_eth_may.cal_ok {T : Type} (k : Nat) : HdsOk Try.prog (F_eth_may.cal (T := T) k) := F_eth_may.cal0_ok k
noncomputable def F_eth_may.S (k : Nat) (a0 : Int) : O Bool :=
  O.cond (decide (a0 ≥ (1536 : Int))) (
   O.cond (decide (a0 ≤ (65535 : Int))) (
    .ok (decide (a0 ≠ (33024 : Int)))) (
    .ok false)) (
   .ok false)
theorem F_eth_may.eq (k : Nat) (a0 : Int) : evFn (T := Bool) tab (calOf (F_eth_may.cal k)) Go.Proofs.Try.f50 F_eth_may.nt k [.int .i64 a0] [] ⟨0, false, []⟩ (fun v st => takeR F_eth_may.rt v st.H .ok) panK = F_eth_may.S k a0 := by kernel_rfl
theorem F_eth_may.ok (k : Nat) : FnOk Try.prog 50 F_eth_may.as F_eth_may.rt (fun (x : Int) => F_eth_may.S k x) :=
  FnOk.of_ev tab_ok (calOf_ok (F_eth_may.cal_ok k)) mixed Try.func50 F_eth_may.nt k (fun _ => rfl) (fun (x : Int) => F_eth_may.eq k x)
theorem F_eth_may.hd {T : Type} (k : Nat) : HdOk Try.prog 50 (pureN (T := T) F_eth_may.as F_eth_may.rt (fun (x : Int) => F_eth_may.S k x)) :=
  pureN_ok rfl rfl (F_eth_may.ok k) Try.call50
/-! ### aqueduct/eth.Parse: function 60 -/
noncomputable def F_eth_Parse.as : As := .some (.one (.leaf .str))
noncomputable def F_eth_Parse.rt : Rt := .tup (.cons (.agg (.cons (.leaf .str) (.cons (.leaf .str) (.cons (.leaf (.int .i64)) (.cons (.leaf (.int .i64)) (.cons (.leaf (.int .i64)) (.one (.leaf .str)))))))) (.one (.leaf (.int .i64))))
noncomputable def F_eth_Parse.nt : Notes := ⟨[], [], [], [], []⟩
noncomputable def F_eth_Parse.cal0 {T : Type} (k : Nat) : List (FuncId × Hd T) := [(23, pureN F_words_Get.as F_words_Get.rt (fun (x : ByteArray × Int × Int × Bool) => F_words_Get.S k x.1 x.2.1 x.2.2.1 x.2.2.2)), (50, pureN F_eth_may.as F_eth_may.rt (fun (x : Int) => F_eth_may.S k x))]
theorem F_eth_Parse.cal0_ok {T : Type} (k : Nat) : HdsOk Try.prog (F_eth_Parse.cal0 (T := T) k) := ⟨F_words_Get.hd k, F_eth_may.hd k, trivial⟩
noncomputable def F_eth_Parse.nt84 : Notes := ⟨[], [], [], [], []⟩
noncomputable def F_eth_Parse.cal1 {T : Type} (k : Nat) : List (FuncId × Hd T) := (84, inlH tab (calOf (F_eth_Parse.cal0 k)) Go.Proofs.Try.f84 F_eth_Parse.nt84 k) :: F_eth_Parse.cal0 k
theorem F_eth_Parse.cal1_ok {T : Type} (k : Nat) : HdsOk Try.prog (F_eth_Parse.cal1 (T := T) k) := ⟨inlH_ok tab_ok (calOf_ok (F_eth_Parse.cal0_ok k)) mixed Try.func84 F_eth_Parse.nt84 k Try.call84, F_eth_Parse.cal0_ok k⟩
noncomputable def F_eth_Parse.nt85 : Notes := ⟨[], [], [], [], []⟩
noncomputable def F_eth_Parse.cal2 {T : Type} (k : Nat) : List (FuncId × Hd T) := (85, inlH tab (calOf (F_eth_Parse.cal1 k)) Go.Proofs.Try.f85 F_eth_Parse.nt85 k) :: F_eth_Parse.cal1 k
theorem F_eth_Parse.cal2_ok {T : Type} (k : Nat) : HdsOk Try.prog (F_eth_Parse.cal2 (T := T) k) := ⟨inlH_ok tab_ok (calOf_ok (F_eth_Parse.cal1_ok k)) mixed Try.func85 F_eth_Parse.nt85 k Try.call85, F_eth_Parse.cal1_ok k⟩
noncomputable def F_eth_Parse.cal {T : Type} (k : Nat) : List (FuncId × Hd T) := F_eth_Parse.cal2 k
theorem F_eth_Parse.cal_ok {T : Type} (k : Nat) : HdsOk Try.prog (F_eth_Parse.cal (T := T) k) := F_eth_Parse.cal2_ok k
noncomputable def F_eth_Parse.nt83 : Notes := ⟨[], [], [], [], []⟩
noncomputable def F_eth_Parse.D : Dfs := [(83, Go.Proofs.Try.f83, F_eth_Parse.nt83)]
theorem F_eth_Parse.D_ok : DfsOk Try.prog F_eth_Parse.D := ⟨⟨Try.func83, Try.call83⟩, trivial⟩
noncomputable def F_eth_Parse.S (k : Nat) (a0 : ByteArray) : O ((ByteArray × ByteArray × Int × Int × Int × ByteArray) × Int) :=
  O.cond (decide ((ByteArray.size a0 : Int) > (1518 : Int))) (
   .ok ((ByteArray.empty, ByteArray.empty, (0 : Int), (0 : Int), (0 : Int), ByteArray.empty), (61 : Int))) (
   O.cond (decide ((6 : Int) > (ByteArray.size a0 : Int))) (
    .ok ((ByteArray.empty, ByteArray.empty, (0 : Int), (0 : Int), (0 : Int), ByteArray.empty), (60 : Int))) (
    O.chk (decide (0 ≤ (6 : Int) ∧ (6 : Int) ≤ (ByteArray.size a0 : Int))) (
     O.chk (decide (0 ≤ (6 : Int) ∧ (6 : Int) ≤ (ByteArray.size a0 : Int))) (
      O.cond (decide ((6 : Int) > (ByteArray.size (ByteArray.extract a0 6 (ByteArray.size a0)) : Int))) (
       .ok ((ByteArray.empty, ByteArray.empty, (0 : Int), (0 : Int), (0 : Int), ByteArray.empty), (60 : Int))) (
       O.chk (decide (0 ≤ (6 : Int) ∧ (6 : Int) ≤ (ByteArray.size (ByteArray.extract a0 6 (ByteArray.size a0)) : Int))) (
        O.chk (decide (0 ≤ (6 : Int) ∧ (6 : Int) ≤ (ByteArray.size (ByteArray.extract a0 6 (ByteArray.size a0)) : Int))) (
         O.cond (decide ((2 : Int) > (ByteArray.size (ByteArray.extract (ByteArray.extract a0 6 (ByteArray.size a0)) 6 (ByteArray.size (ByteArray.extract a0 6 (ByteArray.size a0)))) : Int))) (
          .ok ((ByteArray.empty, ByteArray.empty, (0 : Int), (0 : Int), (0 : Int), ByteArray.empty), (60 : Int))) (
          O.chk (decide (0 ≤ (2 : Int) ∧ (2 : Int) ≤ (ByteArray.size (ByteArray.extract (ByteArray.extract a0 6 (ByteArray.size a0)) 6 (ByteArray.size (ByteArray.extract a0 6 (ByteArray.size a0)))) : Int))) (
           O.chk (decide (0 ≤ (2 : Int) ∧ (2 : Int) ≤ (ByteArray.size (ByteArray.extract (ByteArray.extract a0 6 (ByteArray.size a0)) 6 (ByteArray.size (ByteArray.extract a0 6 (ByteArray.size a0)))) : Int))) (
            O.bind (F_words_Get.S k (ByteArray.extract (ByteArray.extract (ByteArray.extract a0 6 (ByteArray.size a0)) 6 (ByteArray.size (ByteArray.extract a0 6 (ByteArray.size a0)))) 0 2) (0 : Int) (2 : Int) true) fun r3 =>
            O.cond (decide ((IntKind.i64.wrap r3.1) = (33024 : Int))) (
             O.cond (decide ((2 : Int) > (ByteArray.size (ByteArray.extract (ByteArray.extract (ByteArray.extract a0 6 (ByteArray.size a0)) 6 (ByteArray.size (ByteArray.extract a0 6 (ByteArray.size a0)))) 2 (ByteArray.size (ByteArray.extract (ByteArray.extract a0 6 (ByteArray.size a0)) 6 (ByteArray.size (ByteArray.extract a0 6 (ByteArray.size a0)))))) : Int))) (
              .ok ((ByteArray.empty, ByteArray.empty, (0 : Int), (0 : Int), (0 : Int), ByteArray.empty), (60 : Int))) (
              O.chk (decide (0 ≤ (2 : Int) ∧ (2 : Int) ≤ (ByteArray.size (ByteArray.extract (ByteArray.extract (ByteArray.extract a0 6 (ByteArray.size a0)) 6 (ByteArray.size (ByteArray.extract a0 6 (ByteArray.size a0)))) 2 (ByteArray.size (ByteArray.extract (ByteArray.extract a0 6 (ByteArray.size a0)) 6 (ByteArray.size (ByteArray.extract a0 6 (ByteArray.size a0)))))) : Int))) (
               O.chk (decide (0 ≤ (2 : Int) ∧ (2 : Int) ≤ (ByteArray.size (ByteArray.extract (ByteArray.extract (ByteArray.extract a0 6 (ByteArray.size a0)) 6 (ByteArray.size (ByteArray.extract a0 6 (ByteArray.size a0)))) 2 (ByteArray.size (ByteArray.extract (ByteArray.extract a0 6 (ByteArray.size a0)) 6 (ByteArray.size (ByteArray.extract a0 6 (ByteArray.size a0)))))) : Int))) (
                O.bind (F_words_Get.S k (ByteArray.extract (ByteArray.extract (ByteArray.extract (ByteArray.extract a0 6 (ByteArray.size a0)) 6 (ByteArray.size (ByteArray.extract a0 6 (ByteArray.size a0)))) 2 (ByteArray.size (ByteArray.extract (ByteArray.extract a0 6 (ByteArray.size a0)) 6 (ByteArray.size (ByteArray.extract a0 6 (ByteArray.size a0)))))) 0 2) (0 : Int) (2 : Int) true) fun r5 =>
                O.cond (decide ((2 : Int) > (ByteArray.size (ByteArray.extract (ByteArray.extract (ByteArray.extract (ByteArray.extract a0 6 (ByteArray.size a0)) 6 (ByteArray.size (ByteArray.extract a0 6 (ByteArray.size a0)))) 2 (ByteArray.size (ByteArray.extract (ByteArray.extract a0 6 (ByteArray.size a0)) 6 (ByteArray.size (ByteArray.extract a0 6 (ByteArray.size a0)))))) 2 (ByteArray.size (ByteArray.extract (ByteArray.extract (ByteArray.extract a0 6 (ByteArray.size a0)) 6 (ByteArray.size (ByteArray.extract a0 6 (ByteArray.size a0)))) 2 (ByteArray.size (ByteArray.extract (ByteArray.extract a0 6 (ByteArray.size a0)) 6 (ByteArray.size (ByteArray.extract a0 6 (ByteArray.size a0)))))))) : Int))) (
                 .ok ((ByteArray.empty, ByteArray.empty, (0 : Int), (0 : Int), (0 : Int), ByteArray.empty), (60 : Int))) (
                 O.chk (decide (0 ≤ (2 : Int) ∧ (2 : Int) ≤ (ByteArray.size (ByteArray.extract (ByteArray.extract (ByteArray.extract (ByteArray.extract a0 6 (ByteArray.size a0)) 6 (ByteArray.size (ByteArray.extract a0 6 (ByteArray.size a0)))) 2 (ByteArray.size (ByteArray.extract (ByteArray.extract a0 6 (ByteArray.size a0)) 6 (ByteArray.size (ByteArray.extract a0 6 (ByteArray.size a0)))))) 2 (ByteArray.size (ByteArray.extract (ByteArray.extract (ByteArray.extract a0 6 (ByteArray.size a0)) 6 (ByteArray.size (ByteArray.extract a0 6 (ByteArray.size a0)))) 2 (ByteArray.size (ByteArray.extract (ByteArray.extract a0 6 (ByteArray.size a0)) 6 (ByteArray.size (ByteArray.extract a0 6 (ByteArray.size a0)))))))) : Int))) (
                  O.chk (decide (0 ≤ (2 : Int) ∧ (2 : Int) ≤ (ByteArray.size (ByteArray.extract (ByteArray.extract (ByteArray.extract (ByteArray.extract a0 6 (ByteArray.size a0)) 6 (ByteArray.size (ByteArray.extract a0 6 (ByteArray.size a0)))) 2 (ByteArray.size (ByteArray.extract (ByteArray.extract a0 6 (ByteArray.size a0)) 6 (ByteArray.size (ByteArray.extract a0 6 (ByteArray.size a0)))))) 2 (ByteArray.size (ByteArray.extract (ByteArray.extract (ByteArray.extract a0 6 (ByteArray.size a0)) 6 (ByteArray.size (ByteArray.extract a0 6 (ByteArray.size a0)))) 2 (ByteArray.size (ByteArray.extract (ByteArray.extract a0 6 (ByteArray.size a0)) 6 (ByteArray.size (ByteArray.extract a0 6 (ByteArray.size a0)))))))) : Int))) (
                   O.bind (F_words_Get.S k (ByteArray.extract (ByteArray.extract (ByteArray.extract (ByteArray.extract (ByteArray.extract a0 6 (ByteArray.size a0)) 6 (ByteArray.size (ByteArray.extract a0 6 (ByteArray.size a0)))) 2 (ByteArray.size (ByteArray.extract (ByteArray.extract a0 6 (ByteArray.size a0)) 6 (ByteArray.size (ByteArray.extract a0 6 (ByteArray.size a0)))))) 2 (ByteArray.size (ByteArray.extract (ByteArray.extract (ByteArray.extract a0 6 (ByteArray.size a0)) 6 (ByteArray.size (ByteArray.extract a0 6 (ByteArray.size a0)))) 2 (ByteArray.size (ByteArray.extract (ByteArray.extract a0 6 (ByteArray.size a0)) 6 (ByteArray.size (ByteArray.extract a0 6 (ByteArray.size a0)))))))) 0 2) (0 : Int) (2 : Int) true) fun r7 =>
                   O.cond (decide ((bAnd .i64 (IntKind.i64.wrap r5.1) (4096 : Int)) ≠ (0 : Int))) (
                    .ok ((ByteArray.empty, ByteArray.empty, (0 : Int), (0 : Int), (0 : Int), ByteArray.empty), (61 : Int))) (
                    O.cond (decide ((bAnd .i64 (IntKind.i64.wrap r5.1) (4095 : Int)) > (4094 : Int))) (
                     .ok ((ByteArray.empty, ByteArray.empty, (0 : Int), (0 : Int), (0 : Int), ByteArray.empty), (61 : Int))) (
                     O.bind (F_eth_may.S k (IntKind.i64.wrap r7.1)) fun r9 =>
                     O.cond (!r9) (
                      .ok ((ByteArray.empty, ByteArray.empty, (0 : Int), (0 : Int), (0 : Int), ByteArray.empty), (61 : Int))) (
                      .ok (((ByteArray.extract a0 0 6), (ByteArray.extract (ByteArray.extract a0 6 (ByteArray.size a0)) 0 6), (bAnd .i64 (IntKind.i64.wrap r5.1) (4095 : Int)), (shR .i64 (IntKind.i64.wrap r5.1) (13 : Int)), (IntKind.i64.wrap r7.1), (ByteArray.extract (ByteArray.extract (ByteArray.extract (ByteArray.extract (ByteArray.extract a0 6 (ByteArray.size a0)) 6 (ByteArray.size (ByteArray.extract a0 6 (ByteArray.size a0)))) 2 (ByteArray.size (ByteArray.extract (ByteArray.extract a0 6 (ByteArray.size a0)) 6 (ByteArray.size (ByteArray.extract a0 6 (ByteArray.size a0)))))) 2 (ByteArray.size (ByteArray.extract (ByteArray.extract (ByteArray.extract a0 6 (ByteArray.size a0)) 6 (ByteArray.size (ByteArray.extract a0 6 (ByteArray.size a0)))) 2 (ByteArray.size (ByteArray.extract (ByteArray.extract a0 6 (ByteArray.size a0)) 6 (ByteArray.size (ByteArray.extract a0 6 (ByteArray.size a0)))))))) 2 (ByteArray.size (ByteArray.extract (ByteArray.extract (ByteArray.extract (ByteArray.extract a0 6 (ByteArray.size a0)) 6 (ByteArray.size (ByteArray.extract a0 6 (ByteArray.size a0)))) 2 (ByteArray.size (ByteArray.extract (ByteArray.extract a0 6 (ByteArray.size a0)) 6 (ByteArray.size (ByteArray.extract a0 6 (ByteArray.size a0)))))) 2 (ByteArray.size (ByteArray.extract (ByteArray.extract (ByteArray.extract a0 6 (ByteArray.size a0)) 6 (ByteArray.size (ByteArray.extract a0 6 (ByteArray.size a0)))) 2 (ByteArray.size (ByteArray.extract (ByteArray.extract a0 6 (ByteArray.size a0)) 6 (ByteArray.size (ByteArray.extract a0 6 (ByteArray.size a0))))))))))), (0 : Int)))))))))))) (
             O.cond false (
              .ok ((ByteArray.empty, ByteArray.empty, (0 : Int), (0 : Int), (0 : Int), ByteArray.empty), (61 : Int))) (
              O.bind (F_eth_may.S k (IntKind.i64.wrap r3.1)) fun r11 =>
              O.cond (!r11) (
               .ok ((ByteArray.empty, ByteArray.empty, (0 : Int), (0 : Int), (0 : Int), ByteArray.empty), (61 : Int))) (
               .ok (((ByteArray.extract a0 0 6), (ByteArray.extract (ByteArray.extract a0 6 (ByteArray.size a0)) 0 6), (-1 : Int), (0 : Int), (IntKind.i64.wrap r3.1), (ByteArray.extract (ByteArray.extract (ByteArray.extract a0 6 (ByteArray.size a0)) 6 (ByteArray.size (ByteArray.extract a0 6 (ByteArray.size a0)))) 2 (ByteArray.size (ByteArray.extract (ByteArray.extract a0 6 (ByteArray.size a0)) 6 (ByteArray.size (ByteArray.extract a0 6 (ByteArray.size a0))))))), (0 : Int)))))))))))))))
theorem F_eth_Parse.eq (k : Nat) (a0 : ByteArray) : evFnD (T := (ByteArray × ByteArray × Int × Int × Int × ByteArray) × Int) tab (calOf (F_eth_Parse.cal k)) F_eth_Parse.D Go.Proofs.Try.f60 F_eth_Parse.nt k [.str a0] ⟨0, false, []⟩ (fun v st => takeR F_eth_Parse.rt v st.H .ok) panK = F_eth_Parse.S k a0 := by kernel_rfl
theorem F_eth_Parse.ok (k : Nat) : FnOk Try.prog 60 F_eth_Parse.as F_eth_Parse.rt (fun (x : ByteArray) => F_eth_Parse.S k x) :=
  FnOk.of_evD tab_ok (calOf_ok (F_eth_Parse.cal_ok k)) mixed F_eth_Parse.D_ok Try.func60 F_eth_Parse.nt k (fun _ => rfl) (fun (x : ByteArray) => F_eth_Parse.eq k x)
theorem F_eth_Parse.hd {T : Type} (k : Nat) : HdOk Try.prog 60 (pureN (T := T) F_eth_Parse.as F_eth_Parse.rt (fun (x : ByteArray) => F_eth_Parse.S k x)) :=
  pureN_ok rfl rfl (F_eth_Parse.ok k) Try.call60
/-! ### aqueduct/ip.four: function 86 -/
noncomputable def F_ip_four.as : As := .some (.one (.leaf .str))
noncomputable def F_ip_four.rt : Rt := .val (.agg (.cons (.leaf (.int .i64)) (.cons (.leaf .str) (.cons (.leaf .str) (.cons (.leaf (.int .i64)) (.cons (.leaf (.int .i64)) (.cons (.leaf (.int .i64)) (.cons (.leaf (.int .i64)) (.cons (.leaf (.int .i64)) (.cons (.leaf (.int .i64)) (.cons (.leaf (.int .i64)) (.cons (.leaf .str) (.one (.leaf .str))))))))))))))
noncomputable def F_ip_four.nt : Notes := ⟨[], [], [(6, [0, 1, 2, 3, 4, 5, 6, 8, 7, 9, 10, 11, 12]), (7, [0, 1, 2, 3, 5, 6, 7, 8, 9, 10, 11, 12, 13, 14, 15, 16, 17, 18, 19, 20, 21, 22, 23, 24, 4, 25, 26])], [], []⟩
noncomputable def F_ip_four.cal0 {T : Type} (k : Nat) : List (FuncId × Hd T) := [(23, pureN F_words_Get.as F_words_Get.rt (fun (x : ByteArray × Int × Int × Bool) => F_words_Get.S k x.1 x.2.1 x.2.2.1 x.2.2.2)), (55, pureN F_csum_Sum.as F_csum_Sum.rt (fun (x : ByteArray) => F_csum_Sum.S k x))]
theorem F_ip_four.cal0_ok {T : Type} (k : Nat) : HdsOk Try.prog (F_ip_four.cal0 (T := T) k) := ⟨F_words_Get.hd k, F_csum_Sum.hd k, trivial⟩
noncomputable def F_ip_four.nt47 : Notes := ⟨[], [], [], [], []⟩
noncomputable def F_ip_four.cal1 {T : Type} (k : Nat) : List (FuncId × Hd T) := (47, inlH tab (calOf (F_ip_four.cal0 k)) Go.Proofs.Try.f47 F_ip_four.nt47 k) :: F_ip_four.cal0 k
theorem F_ip_four.cal1_ok {T : Type} (k : Nat) : HdsOk Try.prog (F_ip_four.cal1 (T := T) k) := ⟨inlH_ok tab_ok (calOf_ok (F_ip_four.cal0_ok k)) mixed Try.func47 F_ip_four.nt47 k Try.call47, F_ip_four.cal0_ok k⟩
noncomputable def F_ip_four.nt100 : Notes := ⟨[], [], [], [], []⟩
noncomputable def F_ip_four.cal2 {T : Type} (k : Nat) : List (FuncId × Hd T) := (100, inlH tab (calOf (F_ip_four.cal1 k)) Go.Proofs.Try.f100 F_ip_four.nt100 k) :: F_ip_four.cal1 k
theorem F_ip_four.cal2_ok {T : Type} (k : Nat) : HdsOk Try.prog (F_ip_four.cal2 (T := T) k) := ⟨inlH_ok tab_ok (calOf_ok (F_ip_four.cal1_ok k)) mixed Try.func100 F_ip_four.nt100 k Try.call100, F_ip_four.cal1_ok k⟩
noncomputable def F_ip_four.cal {T : Type} (k : Nat) : List (FuncId × Hd T) := F_ip_four.cal2 k
theorem F_ip_four.cal_ok {T : Type} (k : Nat) : HdsOk Try.prog (F_ip_four.cal (T := T) k) := F_ip_four.cal2_ok k
noncomputable def F_ip_four.S (k : Nat) (a0 : ByteArray) : O (Int ⊕ (Int × ByteArray × ByteArray × Int × Int × Int × Int × Int × Int × Int × ByteArray × ByteArray)) :=
  O.cond (!(decide ((ByteArray.size a0 : Int) ≥ (20 : Int)))) (
   .ok (.inl (70 : Int))) (
   O.chk (decide (0 ≤ (0 : Int) ∧ (0 : Int) < (ByteArray.size a0 : Int))) (
    O.cond (!(decide ((ByteArray.size a0 : Int) ≥ (IntKind.i64.wrap ((4 : Int) * (IntKind.i64.wrap (bAnd .u8 (bt a0 (0 : Int)) (15 : Int)))))))) (
     .ok (.inl (70 : Int))) (
     O.bind (F_words_Get.S k a0 (6 : Int) (2 : Int) true) fun r3 =>
     O.cond (!(decide (r3.2 = (0 : Int)))) (
      .ok (.inl (70 : Int))) (
      O.cond (decide ((IntKind.i64.wrap ((4 : Int) * (IntKind.i64.wrap (bAnd .u8 (bt a0 (0 : Int)) (15 : Int))))) ≥ (20 : Int))) (
       O.cond (decide ((shR .i64 (IntKind.i64.wrap r3.1) (15 : Int)) = (0 : Int))) (
        O.bind (F_words_Get.S k a0 (2 : Int) (2 : Int) true) fun r7 =>
        O.cond (!(decide (r7.2 = (0 : Int)))) (
         .ok (.inl (70 : Int))) (
         O.cond (!(decide ((IntKind.i64.wrap r7.1) = (ByteArray.size a0 : Int)))) (
          .ok (.inl (71 : Int))) (
          O.chk (decide (0 ≤ (10 : Int) ∧ (10 : Int) ≤ (ByteArray.size a0 : Int))) (
           O.chk (decide (((ByteArray.size (ByteArray.extract a0 0 10) + ByteArray.size (⟨#[0, 0]⟩ : ByteArray) : Nat) : Int) ≤ 9223372036854775807)) (
            O.chk (decide (0 ≤ (12 : Int) ∧ (12 : Int) ≤ (IntKind.i64.wrap ((4 : Int) * (IntKind.i64.wrap (bAnd .u8 (bt a0 (0 : Int)) (15 : Int))))) ∧ (IntKind.i64.wrap ((4 : Int) * (IntKind.i64.wrap (bAnd .u8 (bt a0 (0 : Int)) (15 : Int))))) ≤ (ByteArray.size a0 : Int))) (
             O.chk (decide (((ByteArray.size ((ByteArray.extract a0 0 10) ++ (⟨#[0, 0]⟩ : ByteArray)) + ByteArray.size (ByteArray.extract a0 12 (IntKind.i64.wrap ((4 : Int) * (IntKind.i64.wrap (bAnd .u8 (bt a0 (0 : Int)) (15 : Int))))).toNat) : Nat) : Int) ≤ 9223372036854775807)) (
              O.bind (F_csum_Sum.S k (((ByteArray.extract a0 0 10) ++ (⟨#[0, 0]⟩ : ByteArray)) ++ (ByteArray.extract a0 12 (IntKind.i64.wrap ((4 : Int) * (IntKind.i64.wrap (bAnd .u8 (bt a0 (0 : Int)) (15 : Int))))).toNat))) fun r9 =>
              O.bind (F_words_Get.S k a0 (10 : Int) (2 : Int) true) fun r11 =>
              O.cond (!(decide (r11.2 = (0 : Int)))) (
               .ok (.inl (70 : Int))) (
               O.cond (!(decide (r9 = (IntKind.u16.wrap (IntKind.i64.wrap r11.1))))) (
                .ok (.inl (72 : Int))) (
                O.chk (decide (0 ≤ (1 : Int) ∧ (1 : Int) < (ByteArray.size a0 : Int))) (
                 O.chk (decide (0 ≤ (8 : Int) ∧ (8 : Int) < (ByteArray.size a0 : Int))) (
                  O.chk (decide (0 ≤ (9 : Int) ∧ (9 : Int) < (ByteArray.size a0 : Int))) (
                   O.chk (decide (0 ≤ (12 : Int) ∧ (12 : Int) ≤ (16 : Int) ∧ (16 : Int) ≤ (ByteArray.size a0 : Int))) (
                    O.chk (decide (0 ≤ (16 : Int) ∧ (16 : Int) ≤ (20 : Int) ∧ (20 : Int) ≤ (ByteArray.size a0 : Int))) (
                     O.chk (decide (0 ≤ (20 : Int) ∧ (20 : Int) ≤ (IntKind.i64.wrap ((4 : Int) * (IntKind.i64.wrap (bAnd .u8 (bt a0 (0 : Int)) (15 : Int))))) ∧ (IntKind.i64.wrap ((4 : Int) * (IntKind.i64.wrap (bAnd .u8 (bt a0 (0 : Int)) (15 : Int))))) ≤ (ByteArray.size a0 : Int))) (
                      O.chk (decide (0 ≤ (IntKind.i64.wrap ((4 : Int) * (IntKind.i64.wrap (bAnd .u8 (bt a0 (0 : Int)) (15 : Int))))) ∧ (IntKind.i64.wrap ((4 : Int) * (IntKind.i64.wrap (bAnd .u8 (bt a0 (0 : Int)) (15 : Int))))) ≤ (ByteArray.size a0 : Int))) (
                       O.bind (F_words_Get.S k a0 (4 : Int) (2 : Int) true) fun r13 =>
                       O.cond (!(decide (r13.2 = (0 : Int)))) (
                        .ok (.inl (70 : Int))) (
                        .ok (.inr ((4 : Int), (ByteArray.extract a0 12 16), (ByteArray.extract a0 16 20), (IntKind.i64.wrap (bt a0 (9 : Int))), (IntKind.i64.wrap (bt a0 (8 : Int))), (IntKind.i64.wrap (bt a0 (1 : Int))), (IntKind.i64.wrap r13.1), (shR .i64 (IntKind.i64.wrap r3.1) (13 : Int)), (bAnd .i64 (IntKind.i64.wrap r3.1) (8191 : Int)), (0 : Int), (ByteArray.extract a0 20 (IntKind.i64.wrap ((4 : Int) * (IntKind.i64.wrap (bAnd .u8 (bt a0 (0 : Int)) (15 : Int))))).toNat), (ByteArray.extract a0 (IntKind.i64.wrap ((4 : Int) * (IntKind.i64.wrap (bAnd .u8 (bt a0 (0 : Int)) (15 : Int))))).toNat (ByteArray.size a0))))))))))))))))))))) (
        .ok (.inl (71 : Int)))) (
       .ok (.inl (71 : Int)))))))
theorem F_ip_four.eq (k : Nat) (a0 : ByteArray) : evFn (T := Int ⊕ (Int × ByteArray × ByteArray × Int × Int × Int × Int × Int × Int × Int × ByteArray × ByteArray)) tab (calOf (F_ip_four.cal k)) Go.Proofs.Try.f86 F_ip_four.nt k [.str a0] [] ⟨0, false, []⟩ (fun v st => takeR F_ip_four.rt v st.H (fun x => .ok (.inr x))) (panE 106 true [.int .i64]) = F_ip_four.S k a0 := by kernel_rfl
theorem F_ip_four.ok (k : Nat) : FnOkE Try.prog 86 F_ip_four.as F_ip_four.rt 106 true [.int .i64] (fun (x : ByteArray) => F_ip_four.S k x) :=
  FnOkE.of_ev tab_ok (calOf_ok (F_ip_four.cal_ok k)) mixed Try.func86 F_ip_four.nt k (fun _ => rfl) (fun (x : ByteArray) => F_ip_four.eq k x)
theorem F_ip_four.hd {T : Type} (k : Nat) : HdOk Try.prog 86 (pureE (T := T) F_ip_four.as F_ip_four.rt 106 true [.int .i64] (fun (x : ByteArray) => F_ip_four.S k x)) :=
  pureE_ok rfl rfl (F_ip_four.ok k) Try.call86
/-! ### aqueduct/ip.six: function 87 -/
noncomputable def F_ip_six.as : As := .some (.one (.leaf .str))
noncomputable def F_ip_six.rt : Rt := .val (.agg (.cons (.leaf (.int .i64)) (.cons (.leaf .str) (.cons (.leaf .str) (.cons (.leaf (.int .i64)) (.cons (.leaf (.int .i64)) (.cons (.leaf (.int .i64)) (.cons (.leaf (.int .i64)) (.cons (.leaf (.int .i64)) (.cons (.leaf (.int .i64)) (.cons (.leaf (.int .i64)) (.cons (.leaf .str) (.one (.leaf .str))))))))))))))
noncomputable def F_ip_six.nt : Notes := ⟨[], [], [(4, [0, 1, 2, 3, 4, 5, 6, 7, 8, 9, 10, 11, 12, 13, 14, 15, 16, 17, 18])], [], []⟩
noncomputable def F_ip_six.cal0 {T : Type} (k : Nat) : List (FuncId × Hd T) := [(23, pureN F_words_Get.as F_words_Get.rt (fun (x : ByteArray × Int × Int × Bool) => F_words_Get.S k x.1 x.2.1 x.2.2.1 x.2.2.2))]
theorem F_ip_six.cal0_ok {T : Type} (k : Nat) : HdsOk Try.prog (F_ip_six.cal0 (T := T) k) := ⟨F_words_Get.hd k, trivial⟩
noncomputable def F_ip_six.nt47 : Notes := ⟨[], [], [], [], []⟩
noncomputable def F_ip_six.cal1 {T : Type} (k : Nat) : List (FuncId × Hd T) := (47, inlH tab (calOf (F_ip_six.cal0 k)) Go.Proofs.Try.f47 F_ip_six.nt47 k) :: F_ip_six.cal0 k
theorem F_ip_six.cal1_ok {T : Type} (k : Nat) : HdsOk Try.prog (F_ip_six.cal1 (T := T) k) := ⟨inlH_ok tab_ok (calOf_ok (F_ip_six.cal0_ok k)) mixed Try.func47 F_ip_six.nt47 k Try.call47, F_ip_six.cal0_ok k⟩
noncomputable def F_ip_six.nt100 : Notes := ⟨[], [], [], [], []⟩
noncomputable def F_ip_six.cal2 {T : Type} (k : Nat) : List (FuncId × Hd T) := (100, inlH tab (calOf (F_ip_six.cal1 k)) Go.Proofs.Try.f100 F_ip_six.nt100 k) :: F_ip_six.cal1 k
theorem F_ip_six.cal2_ok {T : Type} (k : Nat) : HdsOk Try.prog (F_ip_six.cal2 (T := T) k) := ⟨inlH_ok tab_ok (calOf_ok (F_ip_six.cal1_ok k)) mixed Try.func100 F_ip_six.nt100 k Try.call100, F_ip_six.cal1_ok k⟩
noncomputable def F_ip_six.cal {T : Type} (k : Nat) : List (FuncId × Hd T) := F_ip_six.cal2 k
theorem F_ip_six.cal_ok {T : Type} (k : Nat) : HdsOk Try.prog (F_ip_six.cal (T := T) k) := F_ip_six.cal2_ok k
noncomputable def F_ip_six.S (k : Nat) (a0 : ByteArray) : O (Int ⊕ (Int × ByteArray × ByteArray × Int × Int × Int × Int × Int × Int × Int × ByteArray × ByteArray)) :=
  O.cond (!(decide ((ByteArray.size a0 : Int) ≥ (40 : Int)))) (
   .ok (.inl (70 : Int))) (
   O.bind (F_words_Get.S k a0 (4 : Int) (2 : Int) true) fun r1 =>
   O.cond (!(decide (r1.2 = (0 : Int)))) (
    .ok (.inl (70 : Int))) (
    O.cond (!(decide ((IntKind.i64.wrap r1.1) = (IntKind.i64.wrap ((ByteArray.size a0 : Int) - (40 : Int)))))) (
     .ok (.inl (71 : Int))) (
     O.bind (F_words_Get.S k a0 (0 : Int) (4 : Int) true) fun r3 =>
     O.cond (!(decide (r3.2 = (0 : Int)))) (
      .ok (.inl (70 : Int))) (
      O.chk (decide (0 ≤ (6 : Int) ∧ (6 : Int) < (ByteArray.size a0 : Int))) (
       O.chk (decide (0 ≤ (7 : Int) ∧ (7 : Int) < (ByteArray.size a0 : Int))) (
        O.chk (decide (0 ≤ (8 : Int) ∧ (8 : Int) ≤ (24 : Int) ∧ (24 : Int) ≤ (ByteArray.size a0 : Int))) (
         O.chk (decide (0 ≤ (24 : Int) ∧ (24 : Int) ≤ (40 : Int) ∧ (40 : Int) ≤ (ByteArray.size a0 : Int))) (
          O.chk (decide (0 ≤ (40 : Int) ∧ (40 : Int) ≤ (ByteArray.size a0 : Int))) (
           .ok (.inr ((6 : Int), (ByteArray.extract a0 8 24), (ByteArray.extract a0 24 40), (IntKind.i64.wrap (bt a0 (6 : Int))), (IntKind.i64.wrap (bt a0 (7 : Int))), (bAnd .i64 (shR .i64 (IntKind.i64.wrap r3.1) (20 : Int)) (255 : Int)), (0 : Int), (0 : Int), (0 : Int), (bAnd .i64 (IntKind.i64.wrap r3.1) (1048575 : Int)), ByteArray.empty, (ByteArray.extract a0 40 (ByteArray.size a0)))))))))))))
theorem F_ip_six.eq (k : Nat) (a0 : ByteArray) : evFn (T := Int ⊕ (Int × ByteArray × ByteArray × Int × Int × Int × Int × Int × Int × Int × ByteArray × ByteArray)) tab (calOf (F_ip_six.cal k)) Go.Proofs.Try.f87 F_ip_six.nt k [.str a0] [] ⟨0, false, []⟩ (fun v st => takeR F_ip_six.rt v st.H (fun x => .ok (.inr x))) (panE 106 true [.int .i64]) = F_ip_six.S k a0 := by kernel_rfl
theorem F_ip_six.ok (k : Nat) : FnOkE Try.prog 87 F_ip_six.as F_ip_six.rt 106 true [.int .i64] (fun (x : ByteArray) => F_ip_six.S k x) :=
  FnOkE.of_ev tab_ok (calOf_ok (F_ip_six.cal_ok k)) mixed Try.func87 F_ip_six.nt k (fun _ => rfl) (fun (x : ByteArray) => F_ip_six.eq k x)
theorem F_ip_six.hd {T : Type} (k : Nat) : HdOk Try.prog 87 (pureE (T := T) F_ip_six.as F_ip_six.rt 106 true [.int .i64] (fun (x : ByteArray) => F_ip_six.S k x)) :=
  pureE_ok rfl rfl (F_ip_six.ok k) Try.call87
/-! ### aqueduct/ip.Parse: function 61 -/
noncomputable def F_ip_Parse.as : As := .some (.one (.leaf .str))
noncomputable def F_ip_Parse.rt : Rt := .tup (.cons (.agg (.cons (.leaf (.int .i64)) (.cons (.leaf .str) (.cons (.leaf .str) (.cons (.leaf (.int .i64)) (.cons (.leaf (.int .i64)) (.cons (.leaf (.int .i64)) (.cons (.leaf (.int .i64)) (.cons (.leaf (.int .i64)) (.cons (.leaf (.int .i64)) (.cons (.leaf (.int .i64)) (.cons (.leaf .str) (.one (.leaf .str)))))))))))))) (.one (.leaf (.int .i64))))
noncomputable def F_ip_Parse.nt : Notes := ⟨[], [], [], [], []⟩
noncomputable def F_ip_Parse.cal0 {T : Type} (k : Nat) : List (FuncId × Hd T) := [(86, pureE F_ip_four.as F_ip_four.rt 106 true [.int .i64] (fun (x : ByteArray) => F_ip_four.S k x)), (87, pureE F_ip_six.as F_ip_six.rt 106 true [.int .i64] (fun (x : ByteArray) => F_ip_six.S k x))]
theorem F_ip_Parse.cal0_ok {T : Type} (k : Nat) : HdsOk Try.prog (F_ip_Parse.cal0 (T := T) k) := ⟨F_ip_four.hd k, F_ip_six.hd k, trivial⟩
noncomputable def F_ip_Parse.nt46 : Notes := ⟨[], [], [], [], []⟩
noncomputable def F_ip_Parse.cal1 {T : Type} (k : Nat) : List (FuncId × Hd T) := (46, inlH tab (calOf (F_ip_Parse.cal0 k)) Go.Proofs.Try.f46 F_ip_Parse.nt46 k) :: F_ip_Parse.cal0 k
theorem F_ip_Parse.cal1_ok {T : Type} (k : Nat) : HdsOk Try.prog (F_ip_Parse.cal1 (T := T) k) := ⟨inlH_ok tab_ok (calOf_ok (F_ip_Parse.cal0_ok k)) mixed Try.func46 F_ip_Parse.nt46 k Try.call46, F_ip_Parse.cal0_ok k⟩
noncomputable def F_ip_Parse.nt47 : Notes := ⟨[], [], [], [], []⟩
noncomputable def F_ip_Parse.cal2 {T : Type} (k : Nat) : List (FuncId × Hd T) := (47, inlH tab (calOf (F_ip_Parse.cal1 k)) Go.Proofs.Try.f47 F_ip_Parse.nt47 k) :: F_ip_Parse.cal1 k
theorem F_ip_Parse.cal2_ok {T : Type} (k : Nat) : HdsOk Try.prog (F_ip_Parse.cal2 (T := T) k) := ⟨inlH_ok tab_ok (calOf_ok (F_ip_Parse.cal1_ok k)) mixed Try.func47 F_ip_Parse.nt47 k Try.call47, F_ip_Parse.cal1_ok k⟩
noncomputable def F_ip_Parse.cal {T : Type} (k : Nat) : List (FuncId × Hd T) := F_ip_Parse.cal2 k
theorem F_ip_Parse.cal_ok {T : Type} (k : Nat) : HdsOk Try.prog (F_ip_Parse.cal (T := T) k) := F_ip_Parse.cal2_ok k
noncomputable def F_ip_Parse.nt80 : Notes := ⟨[], [], [(7, [0, 1, 2, 3, 4, 5, 6, 7, 8, 9, 10, 11])], [], [(7, [5], [4])]⟩
noncomputable def F_ip_Parse.D : Dfs := [(80, Go.Proofs.Try.f80, F_ip_Parse.nt80)]
theorem F_ip_Parse.D_ok : DfsOk Try.prog F_ip_Parse.D := ⟨⟨Try.func80, Try.call80⟩, trivial⟩
noncomputable def F_ip_Parse.S (k : Nat) (a0 : ByteArray) : O ((Int × ByteArray × ByteArray × Int × Int × Int × Int × Int × Int × Int × ByteArray × ByteArray) × Int) :=
  O.cond (!(decide (a0 ≠ (⟨#[]⟩ : ByteArray)))) (
   .ok (((0 : Int), ByteArray.empty, ByteArray.empty, (0 : Int), (0 : Int), (0 : Int), (0 : Int), (0 : Int), (0 : Int), (0 : Int), ByteArray.empty, ByteArray.empty), (70 : Int))) (
   O.chk (decide (0 ≤ (0 : Int) ∧ (0 : Int) < (ByteArray.size a0 : Int))) (
    O.cond (decide ((shR .u8 (bt a0 (0 : Int)) (4 : Int)) = (4 : Int))) (
     O.sum (F_ip_four.S k a0) (fun e2 =>
      .ok (((0 : Int), ByteArray.empty, ByteArray.empty, (0 : Int), (0 : Int), (0 : Int), (0 : Int), (0 : Int), (0 : Int), (0 : Int), ByteArray.empty, ByteArray.empty), e2)) fun r1 =>
     .ok (r1, (0 : Int))) (
     O.cond (decide ((shR .u8 (bt a0 (0 : Int)) (4 : Int)) = (6 : Int))) (
      O.sum (F_ip_six.S k a0) (fun e4 =>
       .ok (((0 : Int), ByteArray.empty, ByteArray.empty, (0 : Int), (0 : Int), (0 : Int), (0 : Int), (0 : Int), (0 : Int), (0 : Int), ByteArray.empty, ByteArray.empty), e4)) fun r3 =>
      .ok (r3, (0 : Int))) (
      .ok (((0 : Int), ByteArray.empty, ByteArray.empty, (0 : Int), (0 : Int), (0 : Int), (0 : Int), (0 : Int), (0 : Int), (0 : Int), ByteArray.empty, ByteArray.empty), (71 : Int))))))
theorem F_ip_Parse.eq (k : Nat) (a0 : ByteArray) : evFnD (T := (Int × ByteArray × ByteArray × Int × Int × Int × Int × Int × Int × Int × ByteArray × ByteArray) × Int) tab (calOf (F_ip_Parse.cal k)) F_ip_Parse.D Go.Proofs.Try.f61 F_ip_Parse.nt k [.str a0] ⟨0, false, []⟩ (fun v st => takeR F_ip_Parse.rt v st.H .ok) panK = F_ip_Parse.S k a0 := by kernel_rfl
theorem F_ip_Parse.ok (k : Nat) : FnOk Try.prog 61 F_ip_Parse.as F_ip_Parse.rt (fun (x : ByteArray) => F_ip_Parse.S k x) :=
  FnOk.of_evD tab_ok (calOf_ok (F_ip_Parse.cal_ok k)) mixed F_ip_Parse.D_ok Try.func61 F_ip_Parse.nt k (fun _ => rfl) (fun (x : ByteArray) => F_ip_Parse.eq k x)
theorem F_ip_Parse.hd {T : Type} (k : Nat) : HdOk Try.prog 61 (pureN (T := T) F_ip_Parse.as F_ip_Parse.rt (fun (x : ByteArray) => F_ip_Parse.S k x)) :=
  pureN_ok rfl rfl (F_ip_Parse.ok k) Try.call61
/-! ### aqueduct/segment.place: function 44 -/
noncomputable def F_segment_place.as : As := .some (.one (.agg (.cons (.leaf (.int .i64)) (.cons (.leaf .str) (.cons (.leaf .str) (.cons (.leaf (.int .i64)) (.cons (.leaf (.int .i64)) (.cons (.leaf (.int .i64)) (.cons (.leaf (.int .i64)) (.cons (.leaf (.int .i64)) (.cons (.leaf (.int .i64)) (.cons (.leaf (.int .i64)) (.cons (.leaf .str) (.one (.leaf .str)))))))))))))))
noncomputable def F_segment_place.rt : Rt := .val (.leaf (.int .i64))
noncomputable def F_segment_place.nt : Notes := ⟨[], [], [], [], []⟩
noncomputable def F_segment_place.cal0 {T : Type} (k : Nat) : List (FuncId × Hd T) := []
theorem F_segment_place.cal0_ok {T : Type} (k : Nat) : HdsOk Try.prog (F_segment_place.cal0 (T := T) k) := trivial
noncomputable def F_segment_place.cal {T : Type} (k : Nat) : List (FuncId × Hd T) := F_segment_place.cal0 k
theorem F_segment_place.cal_ok {T : Type} (k : Nat) : HdsOk Try.prog (F_segment_place.cal (T := T) k) := F_segment_place.cal0_ok k
noncomputable def F_segment_place.S (k : Nat) (a0 : Int × ByteArray × ByteArray × Int × Int × Int × Int × Int × Int × Int × ByteArray × ByteArray) : O Int :=
  O.cond (decide (a0.2.2.2.1 = (6 : Int))) (
   .ok (16 : Int)) (
   .ok (6 : Int))
theorem F_segment_place.eq (k : Nat) (a0 : Int × ByteArray × ByteArray × Int × Int × Int × Int × Int × Int × Int × ByteArray × ByteArray) : evFn (T := Int) tab (calOf (F_segment_place.cal k)) Go.Proofs.Try.f44 F_segment_place.nt k [.agg [.int .i64 a0.1, .str a0.2.1, .str a0.2.2.1, .int .i64 a0.2.2.2.1, .int .i64 a0.2.2.2.2.1, .int .i64 a0.2.2.2.2.2.1, .int .i64 a0.2.2.2.2.2.2.1, .int .i64 a0.2.2.2.2.2.2.2.1, .int .i64 a0.2.2.2.2.2.2.2.2.1, .int .i64 a0.2.2.2.2.2.2.2.2.2.1, .str a0.2.2.2.2.2.2.2.2.2.2.1, .str a0.2.2.2.2.2.2.2.2.2.2.2]] [] ⟨0, false, []⟩ (fun v st => takeR F_segment_place.rt v st.H .ok) panK = F_segment_place.S k a0 := by kernel_rfl
theorem F_segment_place.ok (k : Nat) : FnOk Try.prog 44 F_segment_place.as F_segment_place.rt (fun (x : Int × ByteArray × ByteArray × Int × Int × Int × Int × Int × Int × Int × ByteArray × ByteArray) => F_segment_place.S k x) :=
  FnOk.of_ev tab_ok (calOf_ok (F_segment_place.cal_ok k)) mixed Try.func44 F_segment_place.nt k (fun _ => rfl) (fun (x : Int × ByteArray × ByteArray × Int × Int × Int × Int × Int × Int × Int × ByteArray × ByteArray) => F_segment_place.eq k x)
theorem F_segment_place.hd {T : Type} (k : Nat) : HdOk Try.prog 44 (pureN (T := T) F_segment_place.as F_segment_place.rt (fun (x : Int × ByteArray × ByteArray × Int × Int × Int × Int × Int × Int × Int × ByteArray × ByteArray) => F_segment_place.S k x)) :=
  pureN_ok rfl rfl (F_segment_place.ok k) Try.call44
/-! ### aqueduct/ip.Pseudo: function 31 -/
noncomputable def F_ip_Pseudo.as : As := .some (.cons (.agg (.cons (.leaf (.int .i64)) (.cons (.leaf .str) (.cons (.leaf .str) (.cons (.leaf (.int .i64)) (.cons (.leaf (.int .i64)) (.cons (.leaf (.int .i64)) (.cons (.leaf (.int .i64)) (.cons (.leaf (.int .i64)) (.cons (.leaf (.int .i64)) (.cons (.leaf (.int .i64)) (.cons (.leaf .str) (.one (.leaf .str)))))))))))))) (.one (.leaf (.int .i64))))
noncomputable def F_ip_Pseudo.rt : Rt := .val (.leaf .str)
noncomputable def F_ip_Pseudo.nt : Notes := ⟨[], [], [(7, [0, 1, 2, 3, 4, 5, 6, 7, 8, 9, 10, 14, 18, 11, 12, 13, 15, 16, 17, 19, 20])], [], []⟩
noncomputable def F_ip_Pseudo.cal0 {T : Type} (k : Nat) : List (FuncId × Hd T) := [(66, pureN F_strings_Repeat.as F_strings_Repeat.rt (fun (x : ByteArray × Int) => F_strings_Repeat.S k x.1 x.2))]
theorem F_ip_Pseudo.cal0_ok {T : Type} (k : Nat) : HdsOk Try.prog (F_ip_Pseudo.cal0 (T := T) k) := ⟨F_strings_Repeat.hd k, trivial⟩
noncomputable def F_ip_Pseudo.cal {T : Type} (k : Nat) : List (FuncId × Hd T) := F_ip_Pseudo.cal0 k
theorem F_ip_Pseudo.cal_ok {T : Type} (k : Nat) : HdsOk Try.prog (F_ip_Pseudo.cal (T := T) k) := F_ip_Pseudo.cal0_ok k
noncomputable def F_ip_Pseudo.S (k : Nat) (a0 : Int × ByteArray × ByteArray × Int × Int × Int × Int × Int × Int × Int × ByteArray × ByteArray) (a1 : Int) : O ByteArray :=
  O.cond (decide (a0.1 = (4 : Int))) (
   O.chk (decide (((ByteArray.size a0.2.1 + ByteArray.size a0.2.2.1 : Nat) : Int) ≤ 9223372036854775807)) (
    O.chk (decide (((ByteArray.size (a0.2.1 ++ a0.2.2.1) + ByteArray.size (⟨#[0]⟩ : ByteArray) : Nat) : Int) ≤ 9223372036854775807)) (
     O.chk (decide (((ByteArray.size ((a0.2.1 ++ a0.2.2.1) ++ (⟨#[0]⟩ : ByteArray)) + ByteArray.size (strOf [(IntKind.u8.wrap a0.2.2.2.1)]) : Nat) : Int) ≤ 9223372036854775807)) (
      O.chk (decide (((ByteArray.size (((a0.2.1 ++ a0.2.2.1) ++ (⟨#[0]⟩ : ByteArray)) ++ (strOf [(IntKind.u8.wrap a0.2.2.2.1)])) + ByteArray.size (strOf [(IntKind.u8.wrap (shR .i64 a1 (8 : Int))), (IntKind.u8.wrap a1)]) : Nat) : Int) ≤ 9223372036854775807)) (
       .ok ((((a0.2.1 ++ a0.2.2.1) ++ (⟨#[0]⟩ : ByteArray)) ++ (strOf [(IntKind.u8.wrap a0.2.2.2.1)])) ++ (strOf [(IntKind.u8.wrap (shR .i64 a1 (8 : Int))), (IntKind.u8.wrap a1)]))))))) (
   O.cond (decide (a0.1 = (6 : Int))) (
    O.chk (decide (((ByteArray.size a0.2.1 + ByteArray.size a0.2.2.1 : Nat) : Int) ≤ 9223372036854775807)) (
     O.same (
      O.chk (decide (((ByteArray.size (a0.2.1 ++ a0.2.2.1) + ByteArray.size (strOf [(IntKind.u8.wrap (shR .i64 a1 (24 : Int))), (IntKind.u8.wrap (shR .i64 a1 (16 : Int)))]) : Nat) : Int) ≤ 9223372036854775807)) (
       O.chk (decide (((ByteArray.size ((a0.2.1 ++ a0.2.2.1) ++ (strOf [(IntKind.u8.wrap (shR .i64 a1 (24 : Int))), (IntKind.u8.wrap (shR .i64 a1 (16 : Int)))])) + ByteArray.size (strOf [(IntKind.u8.wrap (shR .i64 a1 (8 : Int))), (IntKind.u8.wrap a1)]) : Nat) : Int) ≤ 9223372036854775807)) (
        O.bind (F_strings_Repeat.S k (⟨#[0]⟩ : ByteArray) (3 : Int)) fun r1 =>
        O.chk (decide (((ByteArray.size (((a0.2.1 ++ a0.2.2.1) ++ (strOf [(IntKind.u8.wrap (shR .i64 a1 (24 : Int))), (IntKind.u8.wrap (shR .i64 a1 (16 : Int)))])) ++ (strOf [(IntKind.u8.wrap (shR .i64 a1 (8 : Int))), (IntKind.u8.wrap a1)])) + ByteArray.size r1 : Nat) : Int) ≤ 9223372036854775807)) (
         O.chk (decide (((ByteArray.size ((((a0.2.1 ++ a0.2.2.1) ++ (strOf [(IntKind.u8.wrap (shR .i64 a1 (24 : Int))), (IntKind.u8.wrap (shR .i64 a1 (16 : Int)))])) ++ (strOf [(IntKind.u8.wrap (shR .i64 a1 (8 : Int))), (IntKind.u8.wrap a1)])) ++ r1) + ByteArray.size (strOf [(IntKind.u8.wrap a0.2.2.2.1)]) : Nat) : Int) ≤ 9223372036854775807)) (
          .ok (((((a0.2.1 ++ a0.2.2.1) ++ (strOf [(IntKind.u8.wrap (shR .i64 a1 (24 : Int))), (IntKind.u8.wrap (shR .i64 a1 (16 : Int)))])) ++ (strOf [(IntKind.u8.wrap (shR .i64 a1 (8 : Int))), (IntKind.u8.wrap a1)])) ++ r1) ++ (strOf [(IntKind.u8.wrap a0.2.2.2.1)]))))))) (
      O.bind (F_strings_Repeat.S k (⟨#[0]⟩ : ByteArray) (3 : Int)) fun r3 =>
      O.chk (decide (((ByteArray.size (a0.2.1 ++ a0.2.2.1) + ByteArray.size (strOf [(IntKind.u8.wrap (shR .i64 a1 (24 : Int))), (IntKind.u8.wrap (shR .i64 a1 (16 : Int)))]) : Nat) : Int) ≤ 9223372036854775807)) (
       O.chk (decide (((ByteArray.size ((a0.2.1 ++ a0.2.2.1) ++ (strOf [(IntKind.u8.wrap (shR .i64 a1 (24 : Int))), (IntKind.u8.wrap (shR .i64 a1 (16 : Int)))])) + ByteArray.size (strOf [(IntKind.u8.wrap (shR .i64 a1 (8 : Int))), (IntKind.u8.wrap a1)]) : Nat) : Int) ≤ 9223372036854775807)) (
        O.chk (decide (((ByteArray.size (((a0.2.1 ++ a0.2.2.1) ++ (strOf [(IntKind.u8.wrap (shR .i64 a1 (24 : Int))), (IntKind.u8.wrap (shR .i64 a1 (16 : Int)))])) ++ (strOf [(IntKind.u8.wrap (shR .i64 a1 (8 : Int))), (IntKind.u8.wrap a1)])) + ByteArray.size r3 : Nat) : Int) ≤ 9223372036854775807)) (
         O.chk (decide (((ByteArray.size ((((a0.2.1 ++ a0.2.2.1) ++ (strOf [(IntKind.u8.wrap (shR .i64 a1 (24 : Int))), (IntKind.u8.wrap (shR .i64 a1 (16 : Int)))])) ++ (strOf [(IntKind.u8.wrap (shR .i64 a1 (8 : Int))), (IntKind.u8.wrap a1)])) ++ r3) + ByteArray.size (strOf [(IntKind.u8.wrap a0.2.2.2.1)]) : Nat) : Int) ≤ 9223372036854775807)) (
          .ok (((((a0.2.1 ++ a0.2.2.1) ++ (strOf [(IntKind.u8.wrap (shR .i64 a1 (24 : Int))), (IntKind.u8.wrap (shR .i64 a1 (16 : Int)))])) ++ (strOf [(IntKind.u8.wrap (shR .i64 a1 (8 : Int))), (IntKind.u8.wrap a1)])) ++ r3) ++ (strOf [(IntKind.u8.wrap a0.2.2.2.1)]))))))))) (
    .ok (⟨#[]⟩ : ByteArray)))
theorem F_ip_Pseudo.eq (k : Nat) (a0 : Int × ByteArray × ByteArray × Int × Int × Int × Int × Int × Int × Int × ByteArray × ByteArray) (a1 : Int) : evFn (T := ByteArray) tab (calOf (F_ip_Pseudo.cal k)) Go.Proofs.Try.f31 F_ip_Pseudo.nt k [.agg [.int .i64 a0.1, .str a0.2.1, .str a0.2.2.1, .int .i64 a0.2.2.2.1, .int .i64 a0.2.2.2.2.1, .int .i64 a0.2.2.2.2.2.1, .int .i64 a0.2.2.2.2.2.2.1, .int .i64 a0.2.2.2.2.2.2.2.1, .int .i64 a0.2.2.2.2.2.2.2.2.1, .int .i64 a0.2.2.2.2.2.2.2.2.2.1, .str a0.2.2.2.2.2.2.2.2.2.2.1, .str a0.2.2.2.2.2.2.2.2.2.2.2], .int .i64 a1] [] ⟨0, false, []⟩ (fun v st => takeR F_ip_Pseudo.rt v st.H .ok) panK = F_ip_Pseudo.S k a0 a1 := by kernel_rfl
theorem F_ip_Pseudo.ok (k : Nat) : FnOk Try.prog 31 F_ip_Pseudo.as F_ip_Pseudo.rt (fun (x : (Int × ByteArray × ByteArray × Int × Int × Int × Int × Int × Int × Int × ByteArray × ByteArray) × Int) => F_ip_Pseudo.S k x.1 x.2) :=
  FnOk.of_ev tab_ok (calOf_ok (F_ip_Pseudo.cal_ok k)) mixed Try.func31 F_ip_Pseudo.nt k (fun _ => rfl) (fun (x : (Int × ByteArray × ByteArray × Int × Int × Int × Int × Int × Int × Int × ByteArray × ByteArray) × Int) => F_ip_Pseudo.eq k x.1 x.2)
theorem F_ip_Pseudo.hd {T : Type} (k : Nat) : HdOk Try.prog 31 (pureN (T := T) F_ip_Pseudo.as F_ip_Pseudo.rt (fun (x : (Int × ByteArray × ByteArray × Int × Int × Int × Int × Int × Int × Int × ByteArray × ByteArray) × Int) => F_ip_Pseudo.S k x.1 x.2)) :=
  pureN_ok rfl rfl (F_ip_Pseudo.ok k) Try.call31
/-! ### aqueduct/segment.sum: function 45 -/
noncomputable def F_segment_sum.as : As := .some (.cons (.agg (.cons (.leaf (.int .i64)) (.cons (.leaf .str) (.cons (.leaf .str) (.cons (.leaf (.int .i64)) (.cons (.leaf (.int .i64)) (.cons (.leaf (.int .i64)) (.cons (.leaf (.int .i64)) (.cons (.leaf (.int .i64)) (.cons (.leaf (.int .i64)) (.cons (.leaf (.int .i64)) (.cons (.leaf .str) (.one (.leaf .str)))))))))))))) (.one (.leaf .str)))
noncomputable def F_segment_sum.rt : Rt := .val (.leaf (.int .u16))
noncomputable def F_segment_sum.nt : Notes := ⟨[], [], [(1, [0, 1, 2, 4, 5, 3, 6, 7, 8, 9, 10, 11])], [], []⟩
noncomputable def F_segment_sum.cal0 {T : Type} (k : Nat) : List (FuncId × Hd T) := [(31, pureN F_ip_Pseudo.as F_ip_Pseudo.rt (fun (x : (Int × ByteArray × ByteArray × Int × Int × Int × Int × Int × Int × Int × ByteArray × ByteArray) × Int) => F_ip_Pseudo.S k x.1 x.2)), (43, pureN F_segment_set.as F_segment_set.rt (fun (x : ByteArray × Int × Int) => F_segment_set.S k x.1 x.2.1 x.2.2)), (44, pureN F_segment_place.as F_segment_place.rt (fun (x : Int × ByteArray × ByteArray × Int × Int × Int × Int × Int × Int × Int × ByteArray × ByteArray) => F_segment_place.S k x)), (54, pureN F_segment_full.as F_segment_full.rt (fun (x : Int) => F_segment_full.S k x)), (55, pureN F_csum_Sum.as F_csum_Sum.rt (fun (x : ByteArray) => F_csum_Sum.S k x))]
theorem F_segment_sum.cal0_ok {T : Type} (k : Nat) : HdsOk Try.prog (F_segment_sum.cal0 (T := T) k) := ⟨F_ip_Pseudo.hd k, F_segment_set.hd k, F_segment_place.hd k, F_segment_full.hd k, F_csum_Sum.hd k, trivial⟩
noncomputable def F_segment_sum.cal {T : Type} (k : Nat) : List (FuncId × Hd T) := F_segment_sum.cal0 k
theorem F_segment_sum.cal_ok {T : Type} (k : Nat) : HdsOk Try.prog (F_segment_sum.cal (T := T) k) := F_segment_sum.cal0_ok k
noncomputable def F_segment_sum.S (k : Nat) (a0 : Int × ByteArray × ByteArray × Int × Int × Int × Int × Int × Int × Int × ByteArray × ByteArray) (a1 : ByteArray) : O Int :=
  O.bind (F_ip_Pseudo.S k a0 (ByteArray.size a1 : Int)) fun r1 =>
  O.bind (F_segment_place.S k a0) fun r3 =>
  O.bind (F_segment_set.S k a1 r3 (0 : Int)) fun r5 =>
  O.chk (decide (((ByteArray.size r1 + ByteArray.size r5 : Nat) : Int) ≤ 9223372036854775807)) (
   O.bind (F_csum_Sum.S k (r1 ++ r5)) fun r7 =>
   O.bind (F_segment_full.S k r7) fun r9 =>
   .ok r9)
theorem F_segment_sum.eq (k : Nat) (a0 : Int × ByteArray × ByteArray × Int × Int × Int × Int × Int × Int × Int × ByteArray × ByteArray) (a1 : ByteArray) : evFn (T := Int) tab (calOf (F_segment_sum.cal k)) Go.Proofs.Try.f45 F_segment_sum.nt k [.agg [.int .i64 a0.1, .str a0.2.1, .str a0.2.2.1, .int .i64 a0.2.2.2.1, .int .i64 a0.2.2.2.2.1, .int .i64 a0.2.2.2.2.2.1, .int .i64 a0.2.2.2.2.2.2.1, .int .i64 a0.2.2.2.2.2.2.2.1, .int .i64 a0.2.2.2.2.2.2.2.2.1, .int .i64 a0.2.2.2.2.2.2.2.2.2.1, .str a0.2.2.2.2.2.2.2.2.2.2.1, .str a0.2.2.2.2.2.2.2.2.2.2.2], .str a1] [] ⟨0, false, []⟩ (fun v st => takeR F_segment_sum.rt v st.H .ok) panK = F_segment_sum.S k a0 a1 := by kernel_rfl
theorem F_segment_sum.ok (k : Nat) : FnOk Try.prog 45 F_segment_sum.as F_segment_sum.rt (fun (x : (Int × ByteArray × ByteArray × Int × Int × Int × Int × Int × Int × Int × ByteArray × ByteArray) × ByteArray) => F_segment_sum.S k x.1 x.2) :=
  FnOk.of_ev tab_ok (calOf_ok (F_segment_sum.cal_ok k)) mixed Try.func45 F_segment_sum.nt k (fun _ => rfl) (fun (x : (Int × ByteArray × ByteArray × Int × Int × Int × Int × Int × Int × Int × ByteArray × ByteArray) × ByteArray) => F_segment_sum.eq k x.1 x.2)
theorem F_segment_sum.hd {T : Type} (k : Nat) : HdOk Try.prog 45 (pureN (T := T) F_segment_sum.as F_segment_sum.rt (fun (x : (Int × ByteArray × ByteArray × Int × Int × Int × Int × Int × Int × Int × ByteArray × ByteArray) × ByteArray) => F_segment_sum.S k x.1 x.2)) :=
  pureN_ok rfl rfl (F_segment_sum.ok k) Try.call45
end Go.Proofs.Ytkmhbpiphepjoaa
