/- What this seat's functions come to, as plain functions, each with the proof that the code does just that. Printed by a program of this repo (wip/gen2/gen.py). -/
import Derived.Test.YtkmhbpiphepjoaaAS2
namespace Go.Proofs.Ytkmhbpiphepjoaa
open Go.Aq
set_option linter.unusedVariables false
set_option maxRecDepth 100000
/-! ### aqueduct/aqueductref06.Parse: function 33 -/
noncomputable def F_aqueductref06_Parse.as : As := .some (.one (.leaf .str))
noncomputable def F_aqueductref06_Parse.rt : Rt := .tup (.cons (.agg (.cons (.leaf .str) (.cons (.leaf .str) (.cons (.leaf (.int .i64)) (.cons (.leaf (.int .i64)) (.cons (.leaf (.int .i64)) (.one (.leaf .str)))))))) (.one (.leaf (.int .i64))))
noncomputable def F_aqueductref06_Parse.nt : Notes := ⟨[], [(6, [0, 2, 4])], [(5, [0, 1, 2, 3, 4, 6, 7, 5, 8, 9, 10]), (10, [0, 1, 2, 3, 4, 5, 6, 7, 8, 10, 11, 9, 12, 13])], [], []⟩
noncomputable def F_aqueductref06_Parse.cal0 {T : Type} (k : Nat) : List (FuncId × Hd T) := [(67, pureN F_aqueductref06_num.as F_aqueductref06_num.rt (fun (x : ByteArray × Int) => F_aqueductref06_num.S k x.1 x.2)), (68, pureN F_aqueductref06_kind.as F_aqueductref06_kind.rt (fun (x : Int) => F_aqueductref06_kind.S k x))]
theorem F_aqueductref06_Parse.cal0_ok {T : Type} (k : Nat) : HdsOk Try.prog (F_aqueductref06_Parse.cal0 (T := T) k) := ⟨F_aqueductref06_num.hd k, F_aqueductref06_kind.hd k, trivial⟩
noncomputable def F_aqueductref06_Parse.cal {T : Type} (k : Nat) : List (FuncId × Hd T) := F_aqueductref06_Parse.cal0 k
theorem F_aqueductref06_Parse.cal_ok {T : Type} (k : Nat) : HdsOk Try.prog (F_aqueductref06_Parse.cal (T := T) k) := F_aqueductref06_Parse.cal0_ok k
noncomputable def F_aqueductref06_Parse.j4_b (k : Nat) (a0 : ByteArray) (v5 : Int) : O ((ByteArray × ByteArray × Int × Int × Int × ByteArray) × Int) :=
  O.cond (decide (v5 = (33024 : Int))) (
   O.cond (decide ((ByteArray.size a0 : Int) < (18 : Int))) (
    .ok ((ByteArray.empty, ByteArray.empty, (0 : Int), (0 : Int), (0 : Int), ByteArray.empty), (60 : Int))) (
    O.bind (F_aqueductref06_num.S k a0 (14 : Int)) fun r8 =>
    O.chk (decide (0 ≤ (6 : Int) ∧ (6 : Int) ≤ (ByteArray.size a0 : Int))) (
     O.chk (decide (0 ≤ (6 : Int) ∧ (6 : Int) ≤ (12 : Int) ∧ (12 : Int) ≤ (ByteArray.size a0 : Int))) (
      O.chk (decide (0 ≤ (18 : Int) ∧ (18 : Int) ≤ (ByteArray.size a0 : Int))) (
       O.bind (F_aqueductref06_num.S k a0 (16 : Int)) fun r10 =>
       O.cond (decide ((Int.tmod (IntKind.i64.wrap (Int.tdiv r8 (4096 : Int))) (2 : Int)) = (1 : Int))) (
        .ok ((ByteArray.empty, ByteArray.empty, (0 : Int), (0 : Int), (0 : Int), ByteArray.empty), (61 : Int))) (
        O.cond (decide ((Int.tmod r8 (4096 : Int)) = (4095 : Int))) (
         .ok ((ByteArray.empty, ByteArray.empty, (0 : Int), (0 : Int), (0 : Int), ByteArray.empty), (61 : Int))) (
         O.bind (F_aqueductref06_kind.S k r10) fun r12 =>
         O.cond (!r12) (
          .ok ((ByteArray.empty, ByteArray.empty, (0 : Int), (0 : Int), (0 : Int), ByteArray.empty), (61 : Int))) (
          .ok (((ByteArray.extract a0 0 6), (ByteArray.extract a0 6 12), (Int.tmod r8 (4096 : Int)), (IntKind.i64.wrap (Int.tdiv r8 (8192 : Int))), r10, (ByteArray.extract a0 18 (ByteArray.size a0))), (0 : Int)))))))))) (
   O.bind (F_aqueductref06_kind.S k v5) fun r14 =>
   O.cond (!r14) (
    .ok ((ByteArray.empty, ByteArray.empty, (0 : Int), (0 : Int), (0 : Int), ByteArray.empty), (61 : Int))) (
    .ok (((ByteArray.extract a0 0 6), (ByteArray.extract a0 6 12), (-1 : Int), (0 : Int), v5, (ByteArray.extract a0 14 (ByteArray.size a0))), (0 : Int))))
noncomputable def F_aqueductref06_Parse.j4 (k : Nat) (a0 : ByteArray) (v5 : Int) : O ((ByteArray × ByteArray × Int × Int × Int × ByteArray) × Int) := F_aqueductref06_Parse.j4_b k a0 v5
theorem F_aqueductref06_Parse.j4_eq (k : Nat) (a0 : ByteArray) (v5 : Int) : codeAt (T := (ByteArray × ByteArray × Int × Int × Int × ByteArray) × Int) tab (calOf (F_aqueductref06_Parse.cal k)) Go.Proofs.Try.f33.ntmps F_aqueductref06_Parse.nt k [] [.r, .r, .r, .r] (bodyOf Go.Proofs.Try.f33) (finK tab Go.Proofs.Try.f33.results.toList (fun v st => takeR F_aqueductref06_Parse.rt v st.H .ok) panK) ⟨[(0, .str a0), (2, .ptr 0 0), (4, .ptr 1 0)], [], 0, []⟩ ⟨2, true, [(0, .cells 46 [.str ByteArray.empty, .str ByteArray.empty, .int .i64 (0 : Int), .int .i64 (0 : Int), .int .i64 (0 : Int), .str ByteArray.empty]), (1, .cells 46 [.str (ByteArray.extract a0 0 6), .str (ByteArray.extract a0 6 12), .int .i64 (-1 : Int), .int .i64 (0 : Int), .int .i64 v5, .str (ByteArray.extract a0 14 (ByteArray.size a0))])]⟩ = F_aqueductref06_Parse.j4 k a0 v5 := by
    have h : codeAt (T := (ByteArray × ByteArray × Int × Int × Int × ByteArray) × Int) tab (calOf (F_aqueductref06_Parse.cal k)) Go.Proofs.Try.f33.ntmps F_aqueductref06_Parse.nt k [] [.r, .r, .r, .r] (bodyOf Go.Proofs.Try.f33) (finK tab Go.Proofs.Try.f33.results.toList (fun v st => takeR F_aqueductref06_Parse.rt v st.H .ok) panK) ⟨[(0, .str a0), (2, .ptr 0 0), (4, .ptr 1 0)], [], 0, []⟩ ⟨2, true, [(0, .cells 46 [.str ByteArray.empty, .str ByteArray.empty, .int .i64 (0 : Int), .int .i64 (0 : Int), .int .i64 (0 : Int), .str ByteArray.empty]), (1, .cells 46 [.str (ByteArray.extract a0 0 6), .str (ByteArray.extract a0 6 12), .int .i64 (-1 : Int), .int .i64 (0 : Int), .int .i64 v5, .str (ByteArray.extract a0 14 (ByteArray.size a0))])]⟩ = F_aqueductref06_Parse.j4_b k a0 v5 := (codeAt_eq _ _ _ _ _ _ _ _ _ _ _).trans (by show _ = _; kernel_rfl)
    exact h.trans (by rfl)
noncomputable def F_aqueductref06_Parse.top (k : Nat) (a0 : ByteArray) (D_j4 : Int → O ((ByteArray × ByteArray × Int × Int × Int × ByteArray) × Int)) : O ((ByteArray × ByteArray × Int × Int × Int × ByteArray) × Int) :=
  O.cond (decide ((ByteArray.size a0 : Int) > (1518 : Int))) (
   .ok ((ByteArray.empty, ByteArray.empty, (0 : Int), (0 : Int), (0 : Int), ByteArray.empty), (61 : Int))) (
   O.cond (decide ((ByteArray.size a0 : Int) < (14 : Int))) (
    .ok ((ByteArray.empty, ByteArray.empty, (0 : Int), (0 : Int), (0 : Int), ByteArray.empty), (60 : Int))) (
    O.chk (decide (0 ≤ (6 : Int) ∧ (6 : Int) ≤ (ByteArray.size a0 : Int))) (
     O.chk (decide (0 ≤ (6 : Int) ∧ (6 : Int) ≤ (12 : Int) ∧ (12 : Int) ≤ (ByteArray.size a0 : Int))) (
      O.chk (decide (0 ≤ (14 : Int) ∧ (14 : Int) ≤ (ByteArray.size a0 : Int))) (
       O.twice (
        O.bind (F_aqueductref06_num.S k a0 (12 : Int)) fun r6 =>
        D_j4 r6))))))
noncomputable def F_aqueductref06_Parse.S (k : Nat) (a0 : ByteArray) : O ((ByteArray × ByteArray × Int × Int × Int × ByteArray) × Int) := F_aqueductref06_Parse.top k a0 ((fun (v5 : Int) => F_aqueductref06_Parse.j4 k a0 v5))
theorem F_aqueductref06_Parse.eq (k : Nat) (a0 : ByteArray) : evFn (T := (ByteArray × ByteArray × Int × Int × Int × ByteArray) × Int) tab (calOf (F_aqueductref06_Parse.cal k)) Go.Proofs.Try.f33 F_aqueductref06_Parse.nt k [.str a0] [] ⟨0, false, []⟩ (fun v st => takeR F_aqueductref06_Parse.rt v st.H .ok) panK = F_aqueductref06_Parse.S k a0 := by
  have e0 : (fun (v5 : Int) => codeAt (T := (ByteArray × ByteArray × Int × Int × Int × ByteArray) × Int) tab (calOf (F_aqueductref06_Parse.cal k)) Go.Proofs.Try.f33.ntmps F_aqueductref06_Parse.nt k [] [.r, .r, .r, .r] (bodyOf Go.Proofs.Try.f33) (finK tab Go.Proofs.Try.f33.results.toList (fun v st => takeR F_aqueductref06_Parse.rt v st.H .ok) panK) ⟨[(0, .str a0), (2, .ptr 0 0), (4, .ptr 1 0)], [], 0, []⟩ ⟨2, true, [(0, .cells 46 [.str ByteArray.empty, .str ByteArray.empty, .int .i64 (0 : Int), .int .i64 (0 : Int), .int .i64 (0 : Int), .str ByteArray.empty]), (1, .cells 46 [.str (ByteArray.extract a0 0 6), .str (ByteArray.extract a0 6 12), .int .i64 (-1 : Int), .int .i64 (0 : Int), .int .i64 v5, .str (ByteArray.extract a0 14 (ByteArray.size a0))])]⟩) = (fun (v5 : Int) => F_aqueductref06_Parse.j4 k a0 v5) := by funext v5; exact F_aqueductref06_Parse.j4_eq k a0 v5
  have h : evFn (T := (ByteArray × ByteArray × Int × Int × Int × ByteArray) × Int) tab (calOf (F_aqueductref06_Parse.cal k)) Go.Proofs.Try.f33 F_aqueductref06_Parse.nt k [.str a0] [] ⟨0, false, []⟩ (fun v st => takeR F_aqueductref06_Parse.rt v st.H .ok) panK = F_aqueductref06_Parse.top k a0 ((fun (v5 : Int) => codeAt (T := (ByteArray × ByteArray × Int × Int × Int × ByteArray) × Int) tab (calOf (F_aqueductref06_Parse.cal k)) Go.Proofs.Try.f33.ntmps F_aqueductref06_Parse.nt k [] [.r, .r, .r, .r] (bodyOf Go.Proofs.Try.f33) (finK tab Go.Proofs.Try.f33.results.toList (fun v st => takeR F_aqueductref06_Parse.rt v st.H .ok) panK) ⟨[(0, .str a0), (2, .ptr 0 0), (4, .ptr 1 0)], [], 0, []⟩ ⟨2, true, [(0, .cells 46 [.str ByteArray.empty, .str ByteArray.empty, .int .i64 (0 : Int), .int .i64 (0 : Int), .int .i64 (0 : Int), .str ByteArray.empty]), (1, .cells 46 [.str (ByteArray.extract a0 0 6), .str (ByteArray.extract a0 6 12), .int .i64 (-1 : Int), .int .i64 (0 : Int), .int .i64 v5, .str (ByteArray.extract a0 14 (ByteArray.size a0))])]⟩)) := by kernel_rfl
  exact h.trans (by rw [e0]; rfl)
theorem F_aqueductref06_Parse.ok (k : Nat) : FnOk Try.prog 33 F_aqueductref06_Parse.as F_aqueductref06_Parse.rt (fun (x : ByteArray) => F_aqueductref06_Parse.S k x) :=
  FnOk.of_ev tab_ok (calOf_ok (F_aqueductref06_Parse.cal_ok k)) mixed Try.func33 F_aqueductref06_Parse.nt k (fun _ => rfl) (fun (x : ByteArray) => F_aqueductref06_Parse.eq k x)
theorem F_aqueductref06_Parse.hd {T : Type} (k : Nat) : HdOk Try.prog 33 (pureN (T := T) F_aqueductref06_Parse.as F_aqueductref06_Parse.rt (fun (x : ByteArray) => F_aqueductref06_Parse.S k x)) :=
  pureN_ok rfl rfl (F_aqueductref06_Parse.ok k) Try.call33
/-! ### aqueduct/aqueductref01.Get: function 99 -/
noncomputable def F_aqueductref01_Get.as : As := .some (.cons (.leaf .str) (.cons (.leaf (.int .i64)) (.cons (.leaf (.int .i64)) (.one (.leaf .bool)))))
noncomputable def F_aqueductref01_Get.rt : Rt := .tup (.cons (.leaf (.int .u64)) (.one (.leaf (.int .i64))))
noncomputable def F_aqueductref01_Get.nt : Notes := ⟨[(7, [0, 1, 2, 3, 10, 11])], [], [], [], []⟩
noncomputable def F_aqueductref01_Get.cal0 {T : Type} (k : Nat) : List (FuncId × Hd T) := []
theorem F_aqueductref01_Get.cal0_ok {T : Type} (k : Nat) : HdsOk Try.prog (F_aqueductref01_Get.cal0 (T := T) k) := trivial
noncomputable def F_aqueductref01_Get.cal {T : Type} (k : Nat) : List (FuncId × Hd T) := F_aqueductref01_Get.cal0 k
theorem F_aqueductref01_Get.cal_ok {T : Type} (k : Nat) : HdsOk Try.prog (F_aqueductref01_Get.cal (T := T) k) := F_aqueductref01_Get.cal0_ok k
noncomputable def F_aqueductref01_Get.l0_b (k : Nat) (a0 : ByteArray) (a1 : Int) (a2 : Int) (a3 : Bool) (R_l0 : Int → Int → O (Int × Int)) (v1 : Int) (v2 : Int) : O (Int × Int) :=
  O.cond (decide (v2 < a2)) (
   O.cond a3 (
    O.chk (decide (0 ≤ (IntKind.i64.wrap (a1 + v2)) ∧ (IntKind.i64.wrap (a1 + v2)) < (ByteArray.size a0 : Int))) (
     R_l0 (IntKind.u64.wrap ((IntKind.u64.wrap (v1 * (256 : Int))) + (IntKind.u64.wrap (bt a0 (IntKind.i64.wrap (a1 + v2)))))) (IntKind.i64.wrap (v2 + (1 : Int))))) (
    O.chk (decide (0 ≤ (IntKind.i64.wrap ((IntKind.i64.wrap ((IntKind.i64.wrap (a1 + a2)) - (1 : Int))) - v2)) ∧ (IntKind.i64.wrap ((IntKind.i64.wrap ((IntKind.i64.wrap (a1 + a2)) - (1 : Int))) - v2)) < (ByteArray.size a0 : Int))) (
     R_l0 (IntKind.u64.wrap ((IntKind.u64.wrap (v1 * (256 : Int))) + (IntKind.u64.wrap (bt a0 (IntKind.i64.wrap ((IntKind.i64.wrap ((IntKind.i64.wrap (a1 + a2)) - (1 : Int))) - v2)))))) (IntKind.i64.wrap (v2 + (1 : Int)))))) (
   .ok (v1, (0 : Int)))
noncomputable def F_aqueductref01_Get.l0 (k : Nat) (a0 : ByteArray) (a1 : Int) (a2 : Int) (a3 : Bool) : Nat → Int → Int → O (Int × Int)
  | 0, _, _ => .no
  | j + 1, v1, v2 => F_aqueductref01_Get.l0_b k a0 a1 a2 a3 (F_aqueductref01_Get.l0 k a0 a1 a2 a3 j) v1 v2
theorem F_aqueductref01_Get.l0_eq (k : Nat) (a0 : ByteArray) (a1 : Int) (a2 : Int) (a3 : Bool) : ∀ (j : Nat) (v1 : Int) (v2 : Int), loopAt (T := Int × Int) tab (calOf (F_aqueductref01_Get.cal k)) Go.Proofs.Try.f99.ntmps F_aqueductref01_Get.nt k [] [.r, .r, .r, .r, .l, .r, .b] (bodyOf Go.Proofs.Try.f99) (finK tab Go.Proofs.Try.f99.results.toList (fun v st => takeR F_aqueductref01_Get.rt v st.H .ok) panK) j ⟨[(0, .str a0), (1, .int .i64 a1), (2, .int .i64 a2), (3, .bool a3), (10, .int .u64 v1), (11, .int .i64 v2)], [], 0, []⟩ ⟨0, true, []⟩ = F_aqueductref01_Get.l0 k a0 a1 a2 a3 j v1 v2 := by
  intro j
  induction j with
  | zero => intro v1 v2; rfl
  | succ j ih =>
    intro v1 v2
    have rs : (fun (v1' : Int) (v2' : Int) => loopAt (T := Int × Int) tab (calOf (F_aqueductref01_Get.cal k)) Go.Proofs.Try.f99.ntmps F_aqueductref01_Get.nt k [] [.r, .r, .r, .r, .l, .r, .b] (bodyOf Go.Proofs.Try.f99) (finK tab Go.Proofs.Try.f99.results.toList (fun v st => takeR F_aqueductref01_Get.rt v st.H .ok) panK) j ⟨[(0, .str a0), (1, .int .i64 a1), (2, .int .i64 a2), (3, .bool a3), (10, .int .u64 v1'), (11, .int .i64 v2')], [], 0, []⟩ ⟨0, true, []⟩) = F_aqueductref01_Get.l0 k a0 a1 a2 a3 j := by funext v1' v2'; exact ih v1' v2'
    have h : loopAt (T := Int × Int) tab (calOf (F_aqueductref01_Get.cal k)) Go.Proofs.Try.f99.ntmps F_aqueductref01_Get.nt k [] [.r, .r, .r, .r, .l, .r, .b] (bodyOf Go.Proofs.Try.f99) (finK tab Go.Proofs.Try.f99.results.toList (fun v st => takeR F_aqueductref01_Get.rt v st.H .ok) panK) (j + 1) ⟨[(0, .str a0), (1, .int .i64 a1), (2, .int .i64 a2), (3, .bool a3), (10, .int .u64 v1), (11, .int .i64 v2)], [], 0, []⟩ ⟨0, true, []⟩ = F_aqueductref01_Get.l0_b k a0 a1 a2 a3 ((fun (v1' : Int) (v2' : Int) => loopAt (T := Int × Int) tab (calOf (F_aqueductref01_Get.cal k)) Go.Proofs.Try.f99.ntmps F_aqueductref01_Get.nt k [] [.r, .r, .r, .r, .l, .r, .b] (bodyOf Go.Proofs.Try.f99) (finK tab Go.Proofs.Try.f99.results.toList (fun v st => takeR F_aqueductref01_Get.rt v st.H .ok) panK) j ⟨[(0, .str a0), (1, .int .i64 a1), (2, .int .i64 a2), (3, .bool a3), (10, .int .u64 v1'), (11, .int .i64 v2')], [], 0, []⟩ ⟨0, true, []⟩)) v1 v2 := by kernel_rfl
    exact h.trans (by rw [rs]; rfl)
noncomputable def F_aqueductref01_Get.top (k : Nat) (a0 : ByteArray) (a1 : Int) (a2 : Int) (a3 : Bool) (D_l0 : Int → Int → O (Int × Int)) : O (Int × Int) :=
  O.cond (decide (a2 < (1 : Int))) (
   .ok ((0 : Int), (1 : Int))) (
   O.cond (decide (a2 > (8 : Int))) (
    .ok ((0 : Int), (1 : Int))) (
    O.cond (decide (a1 < (0 : Int))) (
     .ok ((0 : Int), (10 : Int))) (
     O.cond (decide (a1 > (IntKind.i64.wrap ((ByteArray.size a0 : Int) - a2)))) (
      .ok ((0 : Int), (10 : Int))) (
      D_l0 (0 : Int) (0 : Int)))))
noncomputable def F_aqueductref01_Get.S (k : Nat) (a0 : ByteArray) (a1 : Int) (a2 : Int) (a3 : Bool) : O (Int × Int) := F_aqueductref01_Get.top k a0 a1 a2 a3 ((fun (v1 : Int) (v2 : Int) => F_aqueductref01_Get.l0 k a0 a1 a2 a3 k v1 v2))
theorem F_aqueductref01_Get.eq (k : Nat) (a0 : ByteArray) (a1 : Int) (a2 : Int) (a3 : Bool) : evFn (T := Int × Int) tab (calOf (F_aqueductref01_Get.cal k)) Go.Proofs.Try.f99 F_aqueductref01_Get.nt k [.str a0, .int .i64 a1, .int .i64 a2, .bool a3] [] ⟨0, false, []⟩ (fun v st => takeR F_aqueductref01_Get.rt v st.H .ok) panK = F_aqueductref01_Get.S k a0 a1 a2 a3 := by
  have e0 : (fun (v1 : Int) (v2 : Int) => loopAt (T := Int × Int) tab (calOf (F_aqueductref01_Get.cal k)) Go.Proofs.Try.f99.ntmps F_aqueductref01_Get.nt k [] [.r, .r, .r, .r, .l, .r, .b] (bodyOf Go.Proofs.Try.f99) (finK tab Go.Proofs.Try.f99.results.toList (fun v st => takeR F_aqueductref01_Get.rt v st.H .ok) panK) k ⟨[(0, .str a0), (1, .int .i64 a1), (2, .int .i64 a2), (3, .bool a3), (10, .int .u64 v1), (11, .int .i64 v2)], [], 0, []⟩ ⟨0, true, []⟩) = (fun (v1 : Int) (v2 : Int) => F_aqueductref01_Get.l0 k a0 a1 a2 a3 k v1 v2) := by funext v1 v2; exact F_aqueductref01_Get.l0_eq k a0 a1 a2 a3 k v1 v2
  have h : evFn (T := Int × Int) tab (calOf (F_aqueductref01_Get.cal k)) Go.Proofs.Try.f99 F_aqueductref01_Get.nt k [.str a0, .int .i64 a1, .int .i64 a2, .bool a3] [] ⟨0, false, []⟩ (fun v st => takeR F_aqueductref01_Get.rt v st.H .ok) panK = F_aqueductref01_Get.top k a0 a1 a2 a3 ((fun (v1 : Int) (v2 : Int) => loopAt (T := Int × Int) tab (calOf (F_aqueductref01_Get.cal k)) Go.Proofs.Try.f99.ntmps F_aqueductref01_Get.nt k [] [.r, .r, .r, .r, .l, .r, .b] (bodyOf Go.Proofs.Try.f99) (finK tab Go.Proofs.Try.f99.results.toList (fun v st => takeR F_aqueductref01_Get.rt v st.H .ok) panK) k ⟨[(0, .str a0), (1, .int .i64 a1), (2, .int .i64 a2), (3, .bool a3), (10, .int .u64 v1), (11, .int .i64 v2)], [], 0, []⟩ ⟨0, true, []⟩)) := by kernel_rfl
  exact h.trans (by rw [e0]; rfl)
theorem F_aqueductref01_Get.ok (k : Nat) : FnOk Try.prog 99 F_aqueductref01_Get.as F_aqueductref01_Get.rt (fun (x : ByteArray × Int × Int × Bool) => F_aqueductref01_Get.S k x.1 x.2.1 x.2.2.1 x.2.2.2) :=
  FnOk.of_ev tab_ok (calOf_ok (F_aqueductref01_Get.cal_ok k)) mixed Try.func99 F_aqueductref01_Get.nt k (fun _ => rfl) (fun (x : ByteArray × Int × Int × Bool) => F_aqueductref01_Get.eq k x.1 x.2.1 x.2.2.1 x.2.2.2)
theorem F_aqueductref01_Get.hd {T : Type} (k : Nat) : HdOk Try.prog 99 (pureN (T := T) F_aqueductref01_Get.as F_aqueductref01_Get.rt (fun (x : ByteArray × Int × Int × Bool) => F_aqueductref01_Get.S k x.1 x.2.1 x.2.2.1 x.2.2.2)) :=
  pureN_ok rfl rfl (F_aqueductref01_Get.ok k) Try.call99
/-! ### aqueduct/aqueductref07.num: function 70 -/
noncomputable def F_aqueductref07_num.as : As := .some (.cons (.leaf .str) (.cons (.leaf (.int .i64)) (.one (.leaf (.int .i64)))))
noncomputable def F_aqueductref07_num.rt : Rt := .val (.leaf (.int .i64))
noncomputable def F_aqueductref07_num.nt : Notes := ⟨[], [], [], [], []⟩
noncomputable def F_aqueductref07_num.cal0 {T : Type} (k : Nat) : List (FuncId × Hd T) := [(99, pureN F_aqueductref01_Get.as F_aqueductref01_Get.rt (fun (x : ByteArray × Int × Int × Bool) => F_aqueductref01_Get.S k x.1 x.2.1 x.2.2.1 x.2.2.2))]
theorem F_aqueductref07_num.cal0_ok {T : Type} (k : Nat) : HdsOk Try.prog (F_aqueductref07_num.cal0 (T := T) k) := ⟨F_aqueductref01_Get.hd k, trivial⟩
noncomputable def F_aqueductref07_num.cal {T : Type} (k : Nat) : List (FuncId × Hd T) := F_aqueductref07_num.cal0 k
theorem F_aqueductref07_num.cal_ok {T : Type} (k : Nat) : HdsOk Try.prog (F_aqueductref07_num.cal (T := T) k) := F_aqueductref07_num.cal0_ok k
noncomputable def F_aqueductref07_num.S (k : Nat) (a0 : ByteArray) (a1 : Int) (a2 : Int) : O Int :=
  O.bind (F_aqueductref01_Get.S k a0 a1 a2 true) fun r1 =>
  .ok (IntKind.i64.wrap r1.1)
theorem F_aqueductref07_num.eq (k : Nat) (a0 : ByteArray) (a1 : Int) (a2 : Int) : evFn (T := Int) tab (calOf (F_aqueductref07_num.cal k)) Go.Proofs.Try.f70 F_aqueductref07_num.nt k [.str a0, .int .i64 a1, .int .i64 a2] [] ⟨0, false, []⟩ (fun v st => takeR F_aqueductref07_num.rt v st.H .ok) panK = F_aqueductref07_num.S k a0 a1 a2 := by kernel_rfl
theorem F_aqueductref07_num.ok (k : Nat) : FnOk Try.prog 70 F_aqueductref07_num.as F_aqueductref07_num.rt (fun (x : ByteArray × Int × Int) => F_aqueductref07_num.S k x.1 x.2.1 x.2.2) :=
  FnOk.of_ev tab_ok (calOf_ok (F_aqueductref07_num.cal_ok k)) mixed Try.func70 F_aqueductref07_num.nt k (fun _ => rfl) (fun (x : ByteArray × Int × Int) => F_aqueductref07_num.eq k x.1 x.2.1 x.2.2)
theorem F_aqueductref07_num.hd {T : Type} (k : Nat) : HdOk Try.prog 70 (pureN (T := T) F_aqueductref07_num.as F_aqueductref07_num.rt (fun (x : ByteArray × Int × Int) => F_aqueductref07_num.S k x.1 x.2.1 x.2.2)) :=
  pureN_ok rfl rfl (F_aqueductref07_num.ok k) Try.call70
/-! ### aqueduct/aqueductref07.four: function 69 -/
noncomputable def F_aqueductref07_four.as : As := .some (.one (.leaf .str))
noncomputable def F_aqueductref07_four.rt : Rt := .tup (.cons (.agg (.cons (.leaf (.int .i64)) (.cons (.leaf .str) (.cons (.leaf .str) (.cons (.leaf (.int .i64)) (.cons (.leaf (.int .i64)) (.cons (.leaf (.int .i64)) (.cons (.leaf (.int .i64)) (.cons (.leaf (.int .i64)) (.cons (.leaf (.int .i64)) (.cons (.leaf (.int .i64)) (.cons (.leaf .str) (.one (.leaf .str)))))))))))))) (.one (.leaf (.int .i64))))
noncomputable def F_aqueductref07_four.nt : Notes := ⟨[], [], [(7, [0, 1, 2, 3, 4, 5, 6, 9, 7, 8, 10, 11]), (9, [0, 1, 2, 3, 5, 6, 7, 8, 9, 10, 11, 12, 13, 14, 15, 16, 17, 18, 19, 20, 21, 22, 23, 24, 4, 25, 26, 27])], [], []⟩
noncomputable def F_aqueductref07_four.cal0 {T : Type} (k : Nat) : List (FuncId × Hd T) := [(59, pureN F_aqueductref02_Sum.as F_aqueductref02_Sum.rt (fun (x : ByteArray) => F_aqueductref02_Sum.S k x)), (70, pureN F_aqueductref07_num.as F_aqueductref07_num.rt (fun (x : ByteArray × Int × Int) => F_aqueductref07_num.S k x.1 x.2.1 x.2.2))]
theorem F_aqueductref07_four.cal0_ok {T : Type} (k : Nat) : HdsOk Try.prog (F_aqueductref07_four.cal0 (T := T) k) := ⟨F_aqueductref02_Sum.hd k, F_aqueductref07_num.hd k, trivial⟩
noncomputable def F_aqueductref07_four.cal {T : Type} (k : Nat) : List (FuncId × Hd T) := F_aqueductref07_four.cal0 k
theorem F_aqueductref07_four.cal_ok {T : Type} (k : Nat) : HdsOk Try.prog (F_aqueductref07_four.cal (T := T) k) := F_aqueductref07_four.cal0_ok k
noncomputable def F_aqueductref07_four.S (k : Nat) (a0 : ByteArray) : O ((Int × ByteArray × ByteArray × Int × Int × Int × Int × Int × Int × Int × ByteArray × ByteArray) × Int) :=
  O.chk (decide (0 ≤ (0 : Int) ∧ (0 : Int) < (ByteArray.size a0 : Int))) (
   O.cond (decide ((ByteArray.size a0 : Int) < (20 : Int))) (
    .ok (((0 : Int), ByteArray.empty, ByteArray.empty, (0 : Int), (0 : Int), (0 : Int), (0 : Int), (0 : Int), (0 : Int), (0 : Int), ByteArray.empty, ByteArray.empty), (70 : Int))) (
    O.cond (decide ((ByteArray.size a0 : Int) < (IntKind.i64.wrap ((Int.tmod (IntKind.i64.wrap (bt a0 (0 : Int))) (16 : Int)) * (4 : Int))))) (
     .ok (((0 : Int), ByteArray.empty, ByteArray.empty, (0 : Int), (0 : Int), (0 : Int), (0 : Int), (0 : Int), (0 : Int), (0 : Int), ByteArray.empty, ByteArray.empty), (70 : Int))) (
     O.bind (F_aqueductref07_num.S k a0 (6 : Int) (2 : Int)) fun r3 =>
     O.cond (decide ((IntKind.i64.wrap ((Int.tmod (IntKind.i64.wrap (bt a0 (0 : Int))) (16 : Int)) * (4 : Int))) < (20 : Int))) (
      .ok (((0 : Int), ByteArray.empty, ByteArray.empty, (0 : Int), (0 : Int), (0 : Int), (0 : Int), (0 : Int), (0 : Int), (0 : Int), ByteArray.empty, ByteArray.empty), (71 : Int))) (
      O.cond (decide (r3 ≥ (32768 : Int))) (
       .ok (((0 : Int), ByteArray.empty, ByteArray.empty, (0 : Int), (0 : Int), (0 : Int), (0 : Int), (0 : Int), (0 : Int), (0 : Int), ByteArray.empty, ByteArray.empty), (71 : Int))) (
       O.bind (F_aqueductref07_num.S k a0 (2 : Int) (2 : Int)) fun r7 =>
       O.cond (decide (r7 ≠ (ByteArray.size a0 : Int))) (
        .ok (((0 : Int), ByteArray.empty, ByteArray.empty, (0 : Int), (0 : Int), (0 : Int), (0 : Int), (0 : Int), (0 : Int), (0 : Int), ByteArray.empty, ByteArray.empty), (71 : Int))) (
        O.chk (decide (0 ≤ (10 : Int) ∧ (10 : Int) ≤ (ByteArray.size a0 : Int))) (
         O.chk (decide (((ByteArray.size (ByteArray.extract a0 0 10) + ByteArray.size (⟨#[0, 0]⟩ : ByteArray) : Nat) : Int) ≤ 9223372036854775807)) (
          O.chk (decide (0 ≤ (12 : Int) ∧ (12 : Int) ≤ (IntKind.i64.wrap ((Int.tmod (IntKind.i64.wrap (bt a0 (0 : Int))) (16 : Int)) * (4 : Int))) ∧ (IntKind.i64.wrap ((Int.tmod (IntKind.i64.wrap (bt a0 (0 : Int))) (16 : Int)) * (4 : Int))) ≤ (ByteArray.size a0 : Int))) (
           O.chk (decide (((ByteArray.size ((ByteArray.extract a0 0 10) ++ (⟨#[0, 0]⟩ : ByteArray)) + ByteArray.size (ByteArray.extract a0 12 (IntKind.i64.wrap ((Int.tmod (IntKind.i64.wrap (bt a0 (0 : Int))) (16 : Int)) * (4 : Int))).toNat) : Nat) : Int) ≤ 9223372036854775807)) (
            O.bind (F_aqueductref02_Sum.S k (((ByteArray.extract a0 0 10) ++ (⟨#[0, 0]⟩ : ByteArray)) ++ (ByteArray.extract a0 12 (IntKind.i64.wrap ((Int.tmod (IntKind.i64.wrap (bt a0 (0 : Int))) (16 : Int)) * (4 : Int))).toNat))) fun r9 =>
            O.bind (F_aqueductref07_num.S k a0 (10 : Int) (2 : Int)) fun r11 =>
            O.cond (decide ((IntKind.i64.wrap r9) ≠ r11)) (
             .ok (((0 : Int), ByteArray.empty, ByteArray.empty, (0 : Int), (0 : Int), (0 : Int), (0 : Int), (0 : Int), (0 : Int), (0 : Int), ByteArray.empty, ByteArray.empty), (72 : Int))) (
             O.chk (decide (0 ≤ (1 : Int) ∧ (1 : Int) < (ByteArray.size a0 : Int))) (
              O.chk (decide (0 ≤ (8 : Int) ∧ (8 : Int) < (ByteArray.size a0 : Int))) (
               O.chk (decide (0 ≤ (9 : Int) ∧ (9 : Int) < (ByteArray.size a0 : Int))) (
                O.chk (decide (0 ≤ (12 : Int) ∧ (12 : Int) ≤ (16 : Int) ∧ (16 : Int) ≤ (ByteArray.size a0 : Int))) (
                 O.chk (decide (0 ≤ (16 : Int) ∧ (16 : Int) ≤ (20 : Int) ∧ (20 : Int) ≤ (ByteArray.size a0 : Int))) (
                  O.chk (decide (0 ≤ (20 : Int) ∧ (20 : Int) ≤ (IntKind.i64.wrap ((Int.tmod (IntKind.i64.wrap (bt a0 (0 : Int))) (16 : Int)) * (4 : Int))) ∧ (IntKind.i64.wrap ((Int.tmod (IntKind.i64.wrap (bt a0 (0 : Int))) (16 : Int)) * (4 : Int))) ≤ (ByteArray.size a0 : Int))) (
                   O.chk (decide (0 ≤ (IntKind.i64.wrap ((Int.tmod (IntKind.i64.wrap (bt a0 (0 : Int))) (16 : Int)) * (4 : Int))) ∧ (IntKind.i64.wrap ((Int.tmod (IntKind.i64.wrap (bt a0 (0 : Int))) (16 : Int)) * (4 : Int))) ≤ (ByteArray.size a0 : Int))) (
                    O.bind (F_aqueductref07_num.S k a0 (4 : Int) (2 : Int)) fun r13 =>
                    .ok (((4 : Int), (ByteArray.extract a0 12 16), (ByteArray.extract a0 16 20), (IntKind.i64.wrap (bt a0 (9 : Int))), (IntKind.i64.wrap (bt a0 (8 : Int))), (IntKind.i64.wrap (bt a0 (1 : Int))), r13, (IntKind.i64.wrap (Int.tdiv r3 (8192 : Int))), (Int.tmod r3 (8192 : Int)), (0 : Int), (ByteArray.extract a0 20 (IntKind.i64.wrap ((Int.tmod (IntKind.i64.wrap (bt a0 (0 : Int))) (16 : Int)) * (4 : Int))).toNat), (ByteArray.extract a0 (IntKind.i64.wrap ((Int.tmod (IntKind.i64.wrap (bt a0 (0 : Int))) (16 : Int)) * (4 : Int))).toNat (ByteArray.size a0))), (0 : Int))))))))))))))))))))
theorem F_aqueductref07_four.eq (k : Nat) (a0 : ByteArray) : evFn (T := (Int × ByteArray × ByteArray × Int × Int × Int × Int × Int × Int × Int × ByteArray × ByteArray) × Int) tab (calOf (F_aqueductref07_four.cal k)) Go.Proofs.Try.f69 F_aqueductref07_four.nt k [.str a0] [] ⟨0, false, []⟩ (fun v st => takeR F_aqueductref07_four.rt v st.H .ok) panK = F_aqueductref07_four.S k a0 := by kernel_rfl
theorem F_aqueductref07_four.ok (k : Nat) : FnOk Try.prog 69 F_aqueductref07_four.as F_aqueductref07_four.rt (fun (x : ByteArray) => F_aqueductref07_four.S k x) :=
  FnOk.of_ev tab_ok (calOf_ok (F_aqueductref07_four.cal_ok k)) mixed Try.func69 F_aqueductref07_four.nt k (fun _ => rfl) (fun (x : ByteArray) => F_aqueductref07_four.eq k x)
theorem F_aqueductref07_four.hd {T : Type} (k : Nat) : HdOk Try.prog 69 (pureN (T := T) F_aqueductref07_four.as F_aqueductref07_four.rt (fun (x : ByteArray) => F_aqueductref07_four.S k x)) :=
  pureN_ok rfl rfl (F_aqueductref07_four.ok k) Try.call69
/-! ### aqueduct/aqueductref07.Parse: function 34 -/
noncomputable def F_aqueductref07_Parse.as : As := .some (.one (.leaf .str))
noncomputable def F_aqueductref07_Parse.rt : Rt := .tup (.cons (.agg (.cons (.leaf (.int .i64)) (.cons (.leaf .str) (.cons (.leaf .str) (.cons (.leaf (.int .i64)) (.cons (.leaf (.int .i64)) (.cons (.leaf (.int .i64)) (.cons (.leaf (.int .i64)) (.cons (.leaf (.int .i64)) (.cons (.leaf (.int .i64)) (.cons (.leaf (.int .i64)) (.cons (.leaf .str) (.one (.leaf .str)))))))))))))) (.one (.leaf (.int .i64))))
noncomputable def F_aqueductref07_Parse.nt : Notes := ⟨[], [], [(13, [0, 1, 2, 3, 4, 5, 6, 7, 8, 9, 10, 11, 12, 13, 14, 15, 16, 17, 18, 19])], [], []⟩
noncomputable def F_aqueductref07_Parse.cal0 {T : Type} (k : Nat) : List (FuncId × Hd T) := [(69, pureN F_aqueductref07_four.as F_aqueductref07_four.rt (fun (x : ByteArray) => F_aqueductref07_four.S k x)), (70, pureN F_aqueductref07_num.as F_aqueductref07_num.rt (fun (x : ByteArray × Int × Int) => F_aqueductref07_num.S k x.1 x.2.1 x.2.2))]
theorem F_aqueductref07_Parse.cal0_ok {T : Type} (k : Nat) : HdsOk Try.prog (F_aqueductref07_Parse.cal0 (T := T) k) := ⟨F_aqueductref07_four.hd k, F_aqueductref07_num.hd k, trivial⟩
noncomputable def F_aqueductref07_Parse.cal {T : Type} (k : Nat) : List (FuncId × Hd T) := F_aqueductref07_Parse.cal0 k
theorem F_aqueductref07_Parse.cal_ok {T : Type} (k : Nat) : HdsOk Try.prog (F_aqueductref07_Parse.cal (T := T) k) := F_aqueductref07_Parse.cal0_ok k
noncomputable def F_aqueductref07_Parse.S (k : Nat) (a0 : ByteArray) : O ((Int × ByteArray × ByteArray × Int × Int × Int × Int × Int × Int × Int × ByteArray × ByteArray) × Int) :=
  O.cond (decide (a0 = (⟨#[]⟩ : ByteArray))) (
   .ok (((0 : Int), ByteArray.empty, ByteArray.empty, (0 : Int), (0 : Int), (0 : Int), (0 : Int), (0 : Int), (0 : Int), (0 : Int), ByteArray.empty, ByteArray.empty), (70 : Int))) (
   O.chk (decide (0 ≤ (0 : Int) ∧ (0 : Int) < (ByteArray.size a0 : Int))) (
    O.cond (decide ((IntKind.i64.wrap (Int.tdiv (IntKind.i64.wrap (bt a0 (0 : Int))) (16 : Int))) = (4 : Int))) (
     O.bind (F_aqueductref07_four.S k a0) fun r3 =>
     .ok r3) (
     O.cond (decide ((IntKind.i64.wrap (Int.tdiv (IntKind.i64.wrap (bt a0 (0 : Int))) (16 : Int))) ≠ (6 : Int))) (
      .ok (((0 : Int), ByteArray.empty, ByteArray.empty, (0 : Int), (0 : Int), (0 : Int), (0 : Int), (0 : Int), (0 : Int), (0 : Int), ByteArray.empty, ByteArray.empty), (71 : Int))) (
      O.cond (decide ((ByteArray.size a0 : Int) < (40 : Int))) (
       .ok (((0 : Int), ByteArray.empty, ByteArray.empty, (0 : Int), (0 : Int), (0 : Int), (0 : Int), (0 : Int), (0 : Int), (0 : Int), ByteArray.empty, ByteArray.empty), (70 : Int))) (
       O.bind (F_aqueductref07_num.S k a0 (4 : Int) (2 : Int)) fun r5 =>
       O.cond (decide (r5 ≠ (IntKind.i64.wrap ((ByteArray.size a0 : Int) - (40 : Int))))) (
        .ok (((0 : Int), ByteArray.empty, ByteArray.empty, (0 : Int), (0 : Int), (0 : Int), (0 : Int), (0 : Int), (0 : Int), (0 : Int), ByteArray.empty, ByteArray.empty), (71 : Int))) (
        O.bind (F_aqueductref07_num.S k a0 (0 : Int) (4 : Int)) fun r7 =>
        O.chk (decide (0 ≤ (6 : Int) ∧ (6 : Int) < (ByteArray.size a0 : Int))) (
         O.chk (decide (0 ≤ (7 : Int) ∧ (7 : Int) < (ByteArray.size a0 : Int))) (
          O.chk (decide (0 ≤ (8 : Int) ∧ (8 : Int) ≤ (24 : Int) ∧ (24 : Int) ≤ (ByteArray.size a0 : Int))) (
           O.chk (decide (0 ≤ (24 : Int) ∧ (24 : Int) ≤ (40 : Int) ∧ (40 : Int) ≤ (ByteArray.size a0 : Int))) (
            O.chk (decide (0 ≤ (40 : Int) ∧ (40 : Int) ≤ (ByteArray.size a0 : Int))) (
             .ok (((6 : Int), (ByteArray.extract a0 8 24), (ByteArray.extract a0 24 40), (IntKind.i64.wrap (bt a0 (6 : Int))), (IntKind.i64.wrap (bt a0 (7 : Int))), (Int.tmod (IntKind.i64.wrap (Int.tdiv r7 (1048576 : Int))) (256 : Int)), (0 : Int), (0 : Int), (0 : Int), (Int.tmod r7 (1048576 : Int)), ByteArray.empty, (ByteArray.extract a0 40 (ByteArray.size a0))), (0 : Int)))))))))))))
theorem F_aqueductref07_Parse.eq (k : Nat) (a0 : ByteArray) : evFn (T := (Int × ByteArray × ByteArray × Int × Int × Int × Int × Int × Int × Int × ByteArray × ByteArray) × Int) tab (calOf (F_aqueductref07_Parse.cal k)) Go.Proofs.Try.f34 F_aqueductref07_Parse.nt k [.str a0] [] ⟨0, false, []⟩ (fun v st => takeR F_aqueductref07_Parse.rt v st.H .ok) panK = F_aqueductref07_Parse.S k a0 := by kernel_rfl
theorem F_aqueductref07_Parse.ok (k : Nat) : FnOk Try.prog 34 F_aqueductref07_Parse.as F_aqueductref07_Parse.rt (fun (x : ByteArray) => F_aqueductref07_Parse.S k x) :=
  FnOk.of_ev tab_ok (calOf_ok (F_aqueductref07_Parse.cal_ok k)) mixed Try.func34 F_aqueductref07_Parse.nt k (fun _ => rfl) (fun (x : ByteArray) => F_aqueductref07_Parse.eq k x)
theorem F_aqueductref07_Parse.hd {T : Type} (k : Nat) : HdOk Try.prog 34 (pureN (T := T) F_aqueductref07_Parse.as F_aqueductref07_Parse.rt (fun (x : ByteArray) => F_aqueductref07_Parse.S k x)) :=
  pureN_ok rfl rfl (F_aqueductref07_Parse.ok k) Try.call34
/-! ### aqueduct/aqueductref08.At: function 37 -/
noncomputable def F_aqueductref08_At.as : As := .some (.one (.agg (.cons (.leaf (.int .i64)) (.cons (.leaf .str) (.cons (.leaf .str) (.cons (.leaf (.int .i64)) (.cons (.leaf (.int .i64)) (.cons (.leaf (.int .i64)) (.cons (.leaf (.int .i64)) (.cons (.leaf (.int .i64)) (.cons (.leaf (.int .i64)) (.cons (.leaf (.int .i64)) (.cons (.leaf .str) (.one (.leaf .str)))))))))))))))
noncomputable def F_aqueductref08_At.rt : Rt := .val (.leaf (.int .i64))
noncomputable def F_aqueductref08_At.nt : Notes := ⟨[], [], [], [], []⟩
noncomputable def F_aqueductref08_At.cal0 {T : Type} (k : Nat) : List (FuncId × Hd T) := []
theorem F_aqueductref08_At.cal0_ok {T : Type} (k : Nat) : HdsOk Try.prog (F_aqueductref08_At.cal0 (T := T) k) := trivial
noncomputable def F_aqueductref08_At.cal {T : Type} (k : Nat) : List (FuncId × Hd T) := F_aqueductref08_At.cal0 k
theorem F_aqueductref08_At.cal_ok {T : Type} (k : Nat) : HdsOk Try.prog (F_aqueductref08_At.cal (T := T) k) := F_aqueductref08_At.cal0_ok k
noncomputable def F_aqueductref08_At.S (k : Nat) (a0 : Int × ByteArray × ByteArray × Int × Int × Int × Int × Int × Int × Int × ByteArray × ByteArray) : O Int :=
  O.cond (decide (a0.2.2.2.1 = (6 : Int))) (
   .ok (16 : Int)) (
   .ok (6 : Int))
theorem F_aqueductref08_At.eq (k : Nat) (a0 : Int × ByteArray × ByteArray × Int × Int × Int × Int × Int × Int × Int × ByteArray × ByteArray) : evFn (T := Int) tab (calOf (F_aqueductref08_At.cal k)) Go.Proofs.Try.f37 F_aqueductref08_At.nt k [.agg [.int .i64 a0.1, .str a0.2.1, .str a0.2.2.1, .int .i64 a0.2.2.2.1, .int .i64 a0.2.2.2.2.1, .int .i64 a0.2.2.2.2.2.1, .int .i64 a0.2.2.2.2.2.2.1, .int .i64 a0.2.2.2.2.2.2.2.1, .int .i64 a0.2.2.2.2.2.2.2.2.1, .int .i64 a0.2.2.2.2.2.2.2.2.2.1, .str a0.2.2.2.2.2.2.2.2.2.2.1, .str a0.2.2.2.2.2.2.2.2.2.2.2]] [] ⟨0, false, []⟩ (fun v st => takeR F_aqueductref08_At.rt v st.H .ok) panK = F_aqueductref08_At.S k a0 := by kernel_rfl
theorem F_aqueductref08_At.ok (k : Nat) : FnOk Try.prog 37 F_aqueductref08_At.as F_aqueductref08_At.rt (fun (x : Int × ByteArray × ByteArray × Int × Int × Int × Int × Int × Int × Int × ByteArray × ByteArray) => F_aqueductref08_At.S k x) :=
  FnOk.of_ev tab_ok (calOf_ok (F_aqueductref08_At.cal_ok k)) mixed Try.func37 F_aqueductref08_At.nt k (fun _ => rfl) (fun (x : Int × ByteArray × ByteArray × Int × Int × Int × Int × Int × Int × Int × ByteArray × ByteArray) => F_aqueductref08_At.eq k x)
theorem F_aqueductref08_At.hd {T : Type} (k : Nat) : HdOk Try.prog 37 (pureN (T := T) F_aqueductref08_At.as F_aqueductref08_At.rt (fun (x : Int × ByteArray × ByteArray × Int × Int × Int × Int × Int × Int × Int × ByteArray × ByteArray) => F_aqueductref08_At.S k x)) :=
  pureN_ok rfl rfl (F_aqueductref08_At.ok k) Try.call37
/-! ### aqueduct/aqueductref08.carries: function 71 -/
noncomputable def F_aqueductref08_carries.as : As := .some (.one (.agg (.cons (.leaf (.int .i64)) (.cons (.leaf .str) (.cons (.leaf .str) (.cons (.leaf (.int .i64)) (.cons (.leaf (.int .i64)) (.cons (.leaf (.int .i64)) (.cons (.leaf (.int .i64)) (.cons (.leaf (.int .i64)) (.cons (.leaf (.int .i64)) (.cons (.leaf (.int .i64)) (.cons (.leaf .str) (.one (.leaf .str)))))))))))))))
noncomputable def F_aqueductref08_carries.rt : Rt := .val (.leaf .bool)
noncomputable def F_aqueductref08_carries.nt : Notes := ⟨[], [], [], [], []⟩
noncomputable def F_aqueductref08_carries.cal0 {T : Type} (k : Nat) : List (FuncId × Hd T) := []
theorem F_aqueductref08_carries.cal0_ok {T : Type} (k : Nat) : HdsOk Try.prog (F_aqueductref08_carries.cal0 (T := T) k) := trivial
noncomputable def F_aqueductref08_carries.cal {T : Type} (k : Nat) : List (FuncId × Hd T) := F_aqueductref08_carries.cal0 k
theorem F_aqueductref08_carries.cal_ok {T : Type} (k : Nat) : HdsOk Try.prog (F_aqueductref08_carries.cal (T := T) k) := F_aqueductref08_carries.cal0_ok k
noncomputable def F_aqueductref08_carries.S (k : Nat) (a0 : Int × ByteArray × ByteArray × Int × Int × Int × Int × Int × Int × Int × ByteArray × ByteArray) : O Bool :=
  O.cond (decide (a0.1 = (4 : Int))) (
   O.cond (decide ((ByteArray.size a0.2.1 : Int) = (4 : Int))) (
    O.cond (decide ((ByteArray.size a0.2.2.1 : Int) = (4 : Int))) (
     O.cond (decide (a0.2.2.2.1 = (6 : Int))) (
      O.cond (decide (a0.2.2.2.2.2.2.2.2.1 = (0 : Int))) (
       O.cond (decide ((Int.tmod a0.2.2.2.2.2.2.2.1 (2 : Int)) = (0 : Int))) (
        .ok true) (
        .ok false)) (
       .ok false)) (
      O.cond (decide (a0.2.2.2.1 = (17 : Int))) (
       O.cond (decide (a0.2.2.2.2.2.2.2.2.1 = (0 : Int))) (
        O.cond (decide ((Int.tmod a0.2.2.2.2.2.2.2.1 (2 : Int)) = (0 : Int))) (
         .ok true) (
         .ok false)) (
        .ok false)) (
       .ok false))) (
     O.cond (decide (a0.1 = (6 : Int))) (
      O.cond (decide ((ByteArray.size a0.2.1 : Int) = (16 : Int))) (
       O.cond (decide (a0.2.2.2.1 = (6 : Int))) (
        O.cond (decide (a0.2.2.2.2.2.2.2.2.1 = (0 : Int))) (
         O.cond (decide ((Int.tmod a0.2.2.2.2.2.2.2.1 (2 : Int)) = (0 : Int))) (
          .ok (decide ((ByteArray.size a0.2.2.1 : Int) = (16 : Int)))) (
          .ok false)) (
         .ok false)) (
        O.cond (decide (a0.2.2.2.1 = (17 : Int))) (
         O.cond (decide (a0.2.2.2.2.2.2.2.2.1 = (0 : Int))) (
          O.cond (decide ((Int.tmod a0.2.2.2.2.2.2.2.1 (2 : Int)) = (0 : Int))) (
           .ok (decide ((ByteArray.size a0.2.2.1 : Int) = (16 : Int)))) (
           .ok false)) (
          .ok false)) (
         .ok false))) (
       O.cond (decide (a0.2.2.2.1 = (6 : Int))) (
        O.cond (decide (a0.2.2.2.2.2.2.2.2.1 = (0 : Int))) (
         O.cond (decide ((Int.tmod a0.2.2.2.2.2.2.2.1 (2 : Int)) = (0 : Int))) (
          .ok false) (
          .ok false)) (
         .ok false)) (
        O.cond (decide (a0.2.2.2.1 = (17 : Int))) (
         O.cond (decide (a0.2.2.2.2.2.2.2.2.1 = (0 : Int))) (
          O.cond (decide ((Int.tmod a0.2.2.2.2.2.2.2.1 (2 : Int)) = (0 : Int))) (
           .ok false) (
           .ok false)) (
          .ok false)) (
         .ok false)))) (
      O.cond (decide (a0.2.2.2.1 = (6 : Int))) (
       O.cond (decide (a0.2.2.2.2.2.2.2.2.1 = (0 : Int))) (
        O.cond (decide ((Int.tmod a0.2.2.2.2.2.2.2.1 (2 : Int)) = (0 : Int))) (
         .ok false) (
         .ok false)) (
        .ok false)) (
       O.cond (decide (a0.2.2.2.1 = (17 : Int))) (
        O.cond (decide (a0.2.2.2.2.2.2.2.2.1 = (0 : Int))) (
         O.cond (decide ((Int.tmod a0.2.2.2.2.2.2.2.1 (2 : Int)) = (0 : Int))) (
          .ok false) (
          .ok false)) (
         .ok false)) (
        .ok false))))) (
    O.cond (decide (a0.1 = (6 : Int))) (
     O.cond (decide ((ByteArray.size a0.2.1 : Int) = (16 : Int))) (
      O.cond (decide (a0.2.2.2.1 = (6 : Int))) (
       O.cond (decide (a0.2.2.2.2.2.2.2.2.1 = (0 : Int))) (
        O.cond (decide ((Int.tmod a0.2.2.2.2.2.2.2.1 (2 : Int)) = (0 : Int))) (
         .ok (decide ((ByteArray.size a0.2.2.1 : Int) = (16 : Int)))) (
         .ok false)) (
        .ok false)) (
       O.cond (decide (a0.2.2.2.1 = (17 : Int))) (
        O.cond (decide (a0.2.2.2.2.2.2.2.2.1 = (0 : Int))) (
         O.cond (decide ((Int.tmod a0.2.2.2.2.2.2.2.1 (2 : Int)) = (0 : Int))) (
          .ok (decide ((ByteArray.size a0.2.2.1 : Int) = (16 : Int)))) (
          .ok false)) (
         .ok false)) (
        .ok false))) (
      O.cond (decide (a0.2.2.2.1 = (6 : Int))) (
       O.cond (decide (a0.2.2.2.2.2.2.2.2.1 = (0 : Int))) (
        O.cond (decide ((Int.tmod a0.2.2.2.2.2.2.2.1 (2 : Int)) = (0 : Int))) (
         .ok false) (
         .ok false)) (
        .ok false)) (
       O.cond (decide (a0.2.2.2.1 = (17 : Int))) (
        O.cond (decide (a0.2.2.2.2.2.2.2.2.1 = (0 : Int))) (
         O.cond (decide ((Int.tmod a0.2.2.2.2.2.2.2.1 (2 : Int)) = (0 : Int))) (
          .ok false) (
          .ok false)) (
         .ok false)) (
        .ok false)))) (
     O.cond (decide (a0.2.2.2.1 = (6 : Int))) (
      O.cond (decide (a0.2.2.2.2.2.2.2.2.1 = (0 : Int))) (
       O.cond (decide ((Int.tmod a0.2.2.2.2.2.2.2.1 (2 : Int)) = (0 : Int))) (
        .ok false) (
        .ok false)) (
       .ok false)) (
      O.cond (decide (a0.2.2.2.1 = (17 : Int))) (
       O.cond (decide (a0.2.2.2.2.2.2.2.2.1 = (0 : Int))) (
        O.cond (decide ((Int.tmod a0.2.2.2.2.2.2.2.1 (2 : Int)) = (0 : Int))) (
         .ok false) (
         .ok false)) (
        .ok false)) (
       .ok false))))) (
   O.cond (decide (a0.1 = (6 : Int))) (
    O.cond (decide ((ByteArray.size a0.2.1 : Int) = (16 : Int))) (
     O.cond (decide (a0.2.2.2.1 = (6 : Int))) (
      O.cond (decide (a0.2.2.2.2.2.2.2.2.1 = (0 : Int))) (
       O.cond (decide ((Int.tmod a0.2.2.2.2.2.2.2.1 (2 : Int)) = (0 : Int))) (
        .ok (decide ((ByteArray.size a0.2.2.1 : Int) = (16 : Int)))) (
        .ok false)) (
       .ok false)) (
      O.cond (decide (a0.2.2.2.1 = (17 : Int))) (
       O.cond (decide (a0.2.2.2.2.2.2.2.2.1 = (0 : Int))) (
        O.cond (decide ((Int.tmod a0.2.2.2.2.2.2.2.1 (2 : Int)) = (0 : Int))) (
         .ok (decide ((ByteArray.size a0.2.2.1 : Int) = (16 : Int)))) (
         .ok false)) (
        .ok false)) (
       .ok false))) (
     O.cond (decide (a0.2.2.2.1 = (6 : Int))) (
      O.cond (decide (a0.2.2.2.2.2.2.2.2.1 = (0 : Int))) (
       O.cond (decide ((Int.tmod a0.2.2.2.2.2.2.2.1 (2 : Int)) = (0 : Int))) (
        .ok false) (
        .ok false)) (
       .ok false)) (
      O.cond (decide (a0.2.2.2.1 = (17 : Int))) (
       O.cond (decide (a0.2.2.2.2.2.2.2.2.1 = (0 : Int))) (
        O.cond (decide ((Int.tmod a0.2.2.2.2.2.2.2.1 (2 : Int)) = (0 : Int))) (
         .ok false) (
         .ok false)) (
        .ok false)) (
       .ok false)))) (
    O.cond (decide (a0.2.2.2.1 = (6 : Int))) (
     O.cond (decide (a0.2.2.2.2.2.2.2.2.1 = (0 : Int))) (
      O.cond (decide ((Int.tmod a0.2.2.2.2.2.2.2.1 (2 : Int)) = (0 : Int))) (
       .ok false) (
       .ok false)) (
      .ok false)) (
     O.cond (decide (a0.2.2.2.1 = (17 : Int))) (
      O.cond (decide (a0.2.2.2.2.2.2.2.2.1 = (0 : Int))) (
       O.cond (decide ((Int.tmod a0.2.2.2.2.2.2.2.1 (2 : Int)) = (0 : Int))) (
        .ok false) (
        .ok false)) (
       .ok false)) (
      .ok false))))
theorem F_aqueductref08_carries.eq (k : Nat) (a0 : Int × ByteArray × ByteArray × Int × Int × Int × Int × Int × Int × Int × ByteArray × ByteArray) : evFn (T := Bool) tab (calOf (F_aqueductref08_carries.cal k)) Go.Proofs.Try.f71 F_aqueductref08_carries.nt k [.agg [.int .i64 a0.1, .str a0.2.1, .str a0.2.2.1, .int .i64 a0.2.2.2.1, .int .i64 a0.2.2.2.2.1, .int .i64 a0.2.2.2.2.2.1, .int .i64 a0.2.2.2.2.2.2.1, .int .i64 a0.2.2.2.2.2.2.2.1, .int .i64 a0.2.2.2.2.2.2.2.2.1, .int .i64 a0.2.2.2.2.2.2.2.2.2.1, .str a0.2.2.2.2.2.2.2.2.2.2.1, .str a0.2.2.2.2.2.2.2.2.2.2.2]] [] ⟨0, false, []⟩ (fun v st => takeR F_aqueductref08_carries.rt v st.H .ok) panK = F_aqueductref08_carries.S k a0 := by kernel_rfl
theorem F_aqueductref08_carries.ok (k : Nat) : FnOk Try.prog 71 F_aqueductref08_carries.as F_aqueductref08_carries.rt (fun (x : Int × ByteArray × ByteArray × Int × Int × Int × Int × Int × Int × Int × ByteArray × ByteArray) => F_aqueductref08_carries.S k x) :=
  FnOk.of_ev tab_ok (calOf_ok (F_aqueductref08_carries.cal_ok k)) mixed Try.func71 F_aqueductref08_carries.nt k (fun _ => rfl) (fun (x : Int × ByteArray × ByteArray × Int × Int × Int × Int × Int × Int × Int × ByteArray × ByteArray) => F_aqueductref08_carries.eq k x)
theorem F_aqueductref08_carries.hd {T : Type} (k : Nat) : HdOk Try.prog 71 (pureN (T := T) F_aqueductref08_carries.as F_aqueductref08_carries.rt (fun (x : Int × ByteArray × ByteArray × Int × Int × Int × Int × Int × Int × Int × ByteArray × ByteArray) => F_aqueductref08_carries.S k x)) :=
  pureN_ok rfl rfl (F_aqueductref08_carries.ok k) Try.call71
/-! ### aqueduct/aqueductref08.num: function 72 -/
noncomputable def F_aqueductref08_num.as : As := .some (.cons (.leaf .str) (.cons (.leaf (.int .i64)) (.one (.leaf (.int .i64)))))
noncomputable def F_aqueductref08_num.rt : Rt := .val (.leaf (.int .i64))
noncomputable def F_aqueductref08_num.nt : Notes := ⟨[], [], [], [], []⟩
noncomputable def F_aqueductref08_num.cal0 {T : Type} (k : Nat) : List (FuncId × Hd T) := [(99, pureN F_aqueductref01_Get.as F_aqueductref01_Get.rt (fun (x : ByteArray × Int × Int × Bool) => F_aqueductref01_Get.S k x.1 x.2.1 x.2.2.1 x.2.2.2))]
theorem F_aqueductref08_num.cal0_ok {T : Type} (k : Nat) : HdsOk Try.prog (F_aqueductref08_num.cal0 (T := T) k) := ⟨F_aqueductref01_Get.hd k, trivial⟩
noncomputable def F_aqueductref08_num.cal {T : Type} (k : Nat) : List (FuncId × Hd T) := F_aqueductref08_num.cal0 k
theorem F_aqueductref08_num.cal_ok {T : Type} (k : Nat) : HdsOk Try.prog (F_aqueductref08_num.cal (T := T) k) := F_aqueductref08_num.cal0_ok k
noncomputable def F_aqueductref08_num.S (k : Nat) (a0 : ByteArray) (a1 : Int) (a2 : Int) : O Int :=
  O.bind (F_aqueductref01_Get.S k a0 a1 a2 true) fun r1 =>
  .ok (IntKind.i64.wrap r1.1)
theorem F_aqueductref08_num.eq (k : Nat) (a0 : ByteArray) (a1 : Int) (a2 : Int) : evFn (T := Int) tab (calOf (F_aqueductref08_num.cal k)) Go.Proofs.Try.f72 F_aqueductref08_num.nt k [.str a0, .int .i64 a1, .int .i64 a2] [] ⟨0, false, []⟩ (fun v st => takeR F_aqueductref08_num.rt v st.H .ok) panK = F_aqueductref08_num.S k a0 a1 a2 := by kernel_rfl
theorem F_aqueductref08_num.ok (k : Nat) : FnOk Try.prog 72 F_aqueductref08_num.as F_aqueductref08_num.rt (fun (x : ByteArray × Int × Int) => F_aqueductref08_num.S k x.1 x.2.1 x.2.2) :=
  FnOk.of_ev tab_ok (calOf_ok (F_aqueductref08_num.cal_ok k)) mixed Try.func72 F_aqueductref08_num.nt k (fun _ => rfl) (fun (x : ByteArray × Int × Int) => F_aqueductref08_num.eq k x.1 x.2.1 x.2.2)
theorem F_aqueductref08_num.hd {T : Type} (k : Nat) : HdOk Try.prog 72 (pureN (T := T) F_aqueductref08_num.as F_aqueductref08_num.rt (fun (x : ByteArray × Int × Int) => F_aqueductref08_num.S k x.1 x.2.1 x.2.2)) :=
  pureN_ok rfl rfl (F_aqueductref08_num.ok k) Try.call72
/-! ### aqueduct/aqueductref07.put: function 76 -/
noncomputable def F_aqueductref07_put.as : As := .some (.cons (.leaf (.int .i64)) (.one (.leaf (.int .i64))))
noncomputable def F_aqueductref07_put.rt : Rt := .val (.leaf .str)
noncomputable def F_aqueductref07_put.nt : Notes := ⟨[], [], [], [], []⟩
noncomputable def F_aqueductref07_put.cal0 {T : Type} (k : Nat) : List (FuncId × Hd T) := [(74, pureN F_aqueductref01_Put.as F_aqueductref01_Put.rt (fun (x : Int × Int × Bool) => F_aqueductref01_Put.S k x.1 x.2.1 x.2.2))]
theorem F_aqueductref07_put.cal0_ok {T : Type} (k : Nat) : HdsOk Try.prog (F_aqueductref07_put.cal0 (T := T) k) := ⟨F_aqueductref01_Put.hd k, trivial⟩
noncomputable def F_aqueductref07_put.cal {T : Type} (k : Nat) : List (FuncId × Hd T) := F_aqueductref07_put.cal0 k
theorem F_aqueductref07_put.cal_ok {T : Type} (k : Nat) : HdsOk Try.prog (F_aqueductref07_put.cal (T := T) k) := F_aqueductref07_put.cal0_ok k
noncomputable def F_aqueductref07_put.S (k : Nat) (a0 : Int) (a1 : Int) : O ByteArray :=
  O.bind (F_aqueductref01_Put.S k (IntKind.u64.wrap a0) a1 true) fun r1 =>
  .ok r1.1
theorem F_aqueductref07_put.eq (k : Nat) (a0 : Int) (a1 : Int) : evFn (T := ByteArray) tab (calOf (F_aqueductref07_put.cal k)) Go.Proofs.Try.f76 F_aqueductref07_put.nt k [.int .i64 a0, .int .i64 a1] [] ⟨0, false, []⟩ (fun v st => takeR F_aqueductref07_put.rt v st.H .ok) panK = F_aqueductref07_put.S k a0 a1 := by kernel_rfl
theorem F_aqueductref07_put.ok (k : Nat) : FnOk Try.prog 76 F_aqueductref07_put.as F_aqueductref07_put.rt (fun (x : Int × Int) => F_aqueductref07_put.S k x.1 x.2) :=
  FnOk.of_ev tab_ok (calOf_ok (F_aqueductref07_put.cal_ok k)) mixed Try.func76 F_aqueductref07_put.nt k (fun _ => rfl) (fun (x : Int × Int) => F_aqueductref07_put.eq k x.1 x.2)
theorem F_aqueductref07_put.hd {T : Type} (k : Nat) : HdOk Try.prog 76 (pureN (T := T) F_aqueductref07_put.as F_aqueductref07_put.rt (fun (x : Int × Int) => F_aqueductref07_put.S k x.1 x.2)) :=
  pureN_ok rfl rfl (F_aqueductref07_put.ok k) Try.call76
/-! ### aqueduct/aqueductref07.Pseudo: function 39 -/
noncomputable def F_aqueductref07_Pseudo.as : As := .some (.cons (.agg (.cons (.leaf (.int .i64)) (.cons (.leaf .str) (.cons (.leaf .str) (.cons (.leaf (.int .i64)) (.cons (.leaf (.int .i64)) (.cons (.leaf (.int .i64)) (.cons (.leaf (.int .i64)) (.cons (.leaf (.int .i64)) (.cons (.leaf (.int .i64)) (.cons (.leaf (.int .i64)) (.cons (.leaf .str) (.one (.leaf .str)))))))))))))) (.one (.leaf (.int .i64))))
noncomputable def F_aqueductref07_Pseudo.rt : Rt := .val (.leaf .str)
noncomputable def F_aqueductref07_Pseudo.nt : Notes := ⟨[], [], [(2, [0, 1, 2, 3, 4, 7, 8, 11, 12, 5, 6, 9, 10, 13, 14, 15]), (4, [0, 1, 2, 3, 4, 5, 6, 11, 12, 7, 8, 9, 10, 13, 14, 15])], [], []⟩
noncomputable def F_aqueductref07_Pseudo.cal0 {T : Type} (k : Nat) : List (FuncId × Hd T) := [(76, pureN F_aqueductref07_put.as F_aqueductref07_put.rt (fun (x : Int × Int) => F_aqueductref07_put.S k x.1 x.2))]
theorem F_aqueductref07_Pseudo.cal0_ok {T : Type} (k : Nat) : HdsOk Try.prog (F_aqueductref07_Pseudo.cal0 (T := T) k) := ⟨F_aqueductref07_put.hd k, trivial⟩
noncomputable def F_aqueductref07_Pseudo.cal {T : Type} (k : Nat) : List (FuncId × Hd T) := F_aqueductref07_Pseudo.cal0 k
theorem F_aqueductref07_Pseudo.cal_ok {T : Type} (k : Nat) : HdsOk Try.prog (F_aqueductref07_Pseudo.cal (T := T) k) := F_aqueductref07_Pseudo.cal0_ok k
noncomputable def F_aqueductref07_Pseudo.S (k : Nat) (a0 : Int × ByteArray × ByteArray × Int × Int × Int × Int × Int × Int × Int × ByteArray × ByteArray) (a1 : Int) : O ByteArray :=
  O.cond (decide (a0.1 = (4 : Int))) (
   O.chk (decide (((ByteArray.size a0.2.1 + ByteArray.size a0.2.2.1 : Nat) : Int) ≤ 9223372036854775807)) (
    O.bind (F_aqueductref07_put.S k (0 : Int) (1 : Int)) fun r1 =>
    O.chk (decide (((ByteArray.size (a0.2.1 ++ a0.2.2.1) + ByteArray.size r1 : Nat) : Int) ≤ 9223372036854775807)) (
     O.bind (F_aqueductref07_put.S k a0.2.2.2.1 (1 : Int)) fun r3 =>
     O.chk (decide (((ByteArray.size ((a0.2.1 ++ a0.2.2.1) ++ r1) + ByteArray.size r3 : Nat) : Int) ≤ 9223372036854775807)) (
      O.bind (F_aqueductref07_put.S k (Int.tmod a1 (65536 : Int)) (2 : Int)) fun r5 =>
      O.chk (decide (((ByteArray.size (((a0.2.1 ++ a0.2.2.1) ++ r1) ++ r3) + ByteArray.size r5 : Nat) : Int) ≤ 9223372036854775807)) (
       .ok ((((a0.2.1 ++ a0.2.2.1) ++ r1) ++ r3) ++ r5)))))) (
   O.cond (decide (a0.1 = (6 : Int))) (
    O.chk (decide (((ByteArray.size a0.2.1 + ByteArray.size a0.2.2.1 : Nat) : Int) ≤ 9223372036854775807)) (
     O.bind (F_aqueductref07_put.S k (Int.tmod a1 (4294967296 : Int)) (4 : Int)) fun r7 =>
     O.chk (decide (((ByteArray.size (a0.2.1 ++ a0.2.2.1) + ByteArray.size r7 : Nat) : Int) ≤ 9223372036854775807)) (
      O.bind (F_aqueductref07_put.S k (0 : Int) (3 : Int)) fun r9 =>
      O.chk (decide (((ByteArray.size ((a0.2.1 ++ a0.2.2.1) ++ r7) + ByteArray.size r9 : Nat) : Int) ≤ 9223372036854775807)) (
       O.bind (F_aqueductref07_put.S k a0.2.2.2.1 (1 : Int)) fun r11 =>
       O.chk (decide (((ByteArray.size (((a0.2.1 ++ a0.2.2.1) ++ r7) ++ r9) + ByteArray.size r11 : Nat) : Int) ≤ 9223372036854775807)) (
        .ok ((((a0.2.1 ++ a0.2.2.1) ++ r7) ++ r9) ++ r11)))))) (
    .ok (⟨#[]⟩ : ByteArray)))
theorem F_aqueductref07_Pseudo.eq (k : Nat) (a0 : Int × ByteArray × ByteArray × Int × Int × Int × Int × Int × Int × Int × ByteArray × ByteArray) (a1 : Int) : evFn (T := ByteArray) tab (calOf (F_aqueductref07_Pseudo.cal k)) Go.Proofs.Try.f39 F_aqueductref07_Pseudo.nt k [.agg [.int .i64 a0.1, .str a0.2.1, .str a0.2.2.1, .int .i64 a0.2.2.2.1, .int .i64 a0.2.2.2.2.1, .int .i64 a0.2.2.2.2.2.1, .int .i64 a0.2.2.2.2.2.2.1, .int .i64 a0.2.2.2.2.2.2.2.1, .int .i64 a0.2.2.2.2.2.2.2.2.1, .int .i64 a0.2.2.2.2.2.2.2.2.2.1, .str a0.2.2.2.2.2.2.2.2.2.2.1, .str a0.2.2.2.2.2.2.2.2.2.2.2], .int .i64 a1] [] ⟨0, false, []⟩ (fun v st => takeR F_aqueductref07_Pseudo.rt v st.H .ok) panK = F_aqueductref07_Pseudo.S k a0 a1 := by kernel_rfl
theorem F_aqueductref07_Pseudo.ok (k : Nat) : FnOk Try.prog 39 F_aqueductref07_Pseudo.as F_aqueductref07_Pseudo.rt (fun (x : (Int × ByteArray × ByteArray × Int × Int × Int × Int × Int × Int × Int × ByteArray × ByteArray) × Int) => F_aqueductref07_Pseudo.S k x.1 x.2) :=
  FnOk.of_ev tab_ok (calOf_ok (F_aqueductref07_Pseudo.cal_ok k)) mixed Try.func39 F_aqueductref07_Pseudo.nt k (fun _ => rfl) (fun (x : (Int × ByteArray × ByteArray × Int × Int × Int × Int × Int × Int × Int × ByteArray × ByteArray) × Int) => F_aqueductref07_Pseudo.eq k x.1 x.2)
theorem F_aqueductref07_Pseudo.hd {T : Type} (k : Nat) : HdOk Try.prog 39 (pureN (T := T) F_aqueductref07_Pseudo.as F_aqueductref07_Pseudo.rt (fun (x : (Int × ByteArray × ByteArray × Int × Int × Int × Int × Int × Int × Int × ByteArray × ByteArray) × Int) => F_aqueductref07_Pseudo.S k x.1 x.2)) :=
  pureN_ok rfl rfl (F_aqueductref07_Pseudo.ok k) Try.call39
/-! ### aqueduct/aqueductref08.Sum: function 73 -/
noncomputable def F_aqueductref08_Sum.as : As := .some (.cons (.agg (.cons (.leaf (.int .i64)) (.cons (.leaf .str) (.cons (.leaf .str) (.cons (.leaf (.int .i64)) (.cons (.leaf (.int .i64)) (.cons (.leaf (.int .i64)) (.cons (.leaf (.int .i64)) (.cons (.leaf (.int .i64)) (.cons (.leaf (.int .i64)) (.cons (.leaf (.int .i64)) (.cons (.leaf .str) (.one (.leaf .str)))))))))))))) (.one (.leaf .str)))
noncomputable def F_aqueductref08_Sum.rt : Rt := .val (.leaf (.int .u16))
noncomputable def F_aqueductref08_Sum.nt : Notes := ⟨[], [], [(1, [0, 1, 2, 4, 5, 3, 6, 7, 8, 9, 10, 11])], [], []⟩
noncomputable def F_aqueductref08_Sum.cal0 {T : Type} (k : Nat) : List (FuncId × Hd T) := [(37, pureN F_aqueductref08_At.as F_aqueductref08_At.rt (fun (x : Int × ByteArray × ByteArray × Int × Int × Int × Int × Int × Int × Int × ByteArray × ByteArray) => F_aqueductref08_At.S k x)), (39, pureN F_aqueductref07_Pseudo.as F_aqueductref07_Pseudo.rt (fun (x : (Int × ByteArray × ByteArray × Int × Int × Int × Int × Int × Int × Int × ByteArray × ByteArray) × Int) => F_aqueductref07_Pseudo.S k x.1 x.2)), (57, pureN F_aqueductref08_set.as F_aqueductref08_set.rt (fun (x : ByteArray × Int × Int) => F_aqueductref08_set.S k x.1 x.2.1 x.2.2)), (58, pureN F_aqueductref08_full.as F_aqueductref08_full.rt (fun (x : Int) => F_aqueductref08_full.S k x)), (59, pureN F_aqueductref02_Sum.as F_aqueductref02_Sum.rt (fun (x : ByteArray) => F_aqueductref02_Sum.S k x))]
theorem F_aqueductref08_Sum.cal0_ok {T : Type} (k : Nat) : HdsOk Try.prog (F_aqueductref08_Sum.cal0 (T := T) k) := ⟨F_aqueductref08_At.hd k, F_aqueductref07_Pseudo.hd k, F_aqueductref08_set.hd k, F_aqueductref08_full.hd k, F_aqueductref02_Sum.hd k, trivial⟩
noncomputable def F_aqueductref08_Sum.cal {T : Type} (k : Nat) : List (FuncId × Hd T) := F_aqueductref08_Sum.cal0 k
theorem F_aqueductref08_Sum.cal_ok {T : Type} (k : Nat) : HdsOk Try.prog (F_aqueductref08_Sum.cal (T := T) k) := F_aqueductref08_Sum.cal0_ok k
noncomputable def F_aqueductref08_Sum.S (k : Nat) (a0 : Int × ByteArray × ByteArray × Int × Int × Int × Int × Int × Int × Int × ByteArray × ByteArray) (a1 : ByteArray) : O Int :=
  O.bind (F_aqueductref07_Pseudo.S k a0 (ByteArray.size a1 : Int)) fun r1 =>
  O.bind (F_aqueductref08_At.S k a0) fun r3 =>
  O.bind (F_aqueductref08_set.S k a1 r3 (0 : Int)) fun r5 =>
  O.chk (decide (((ByteArray.size r1 + ByteArray.size r5 : Nat) : Int) ≤ 9223372036854775807)) (
   O.bind (F_aqueductref02_Sum.S k (r1 ++ r5)) fun r7 =>
   O.bind (F_aqueductref08_full.S k r7) fun r9 =>
   .ok r9)
theorem F_aqueductref08_Sum.eq (k : Nat) (a0 : Int × ByteArray × ByteArray × Int × Int × Int × Int × Int × Int × Int × ByteArray × ByteArray) (a1 : ByteArray) : evFn (T := Int) tab (calOf (F_aqueductref08_Sum.cal k)) Go.Proofs.Try.f73 F_aqueductref08_Sum.nt k [.agg [.int .i64 a0.1, .str a0.2.1, .str a0.2.2.1, .int .i64 a0.2.2.2.1, .int .i64 a0.2.2.2.2.1, .int .i64 a0.2.2.2.2.2.1, .int .i64 a0.2.2.2.2.2.2.1, .int .i64 a0.2.2.2.2.2.2.2.1, .int .i64 a0.2.2.2.2.2.2.2.2.1, .int .i64 a0.2.2.2.2.2.2.2.2.2.1, .str a0.2.2.2.2.2.2.2.2.2.2.1, .str a0.2.2.2.2.2.2.2.2.2.2.2], .str a1] [] ⟨0, false, []⟩ (fun v st => takeR F_aqueductref08_Sum.rt v st.H .ok) panK = F_aqueductref08_Sum.S k a0 a1 := by kernel_rfl
theorem F_aqueductref08_Sum.ok (k : Nat) : FnOk Try.prog 73 F_aqueductref08_Sum.as F_aqueductref08_Sum.rt (fun (x : (Int × ByteArray × ByteArray × Int × Int × Int × Int × Int × Int × Int × ByteArray × ByteArray) × ByteArray) => F_aqueductref08_Sum.S k x.1 x.2) :=
  FnOk.of_ev tab_ok (calOf_ok (F_aqueductref08_Sum.cal_ok k)) mixed Try.func73 F_aqueductref08_Sum.nt k (fun _ => rfl) (fun (x : (Int × ByteArray × ByteArray × Int × Int × Int × Int × Int × Int × Int × ByteArray × ByteArray) × ByteArray) => F_aqueductref08_Sum.eq k x.1 x.2)
theorem F_aqueductref08_Sum.hd {T : Type} (k : Nat) : HdOk Try.prog 73 (pureN (T := T) F_aqueductref08_Sum.as F_aqueductref08_Sum.rt (fun (x : (Int × ByteArray × ByteArray × Int × Int × Int × Int × Int × Int × Int × ByteArray × ByteArray) × ByteArray) => F_aqueductref08_Sum.S k x.1 x.2)) :=
  pureN_ok rfl rfl (F_aqueductref08_Sum.ok k) Try.call73
/-! ### aqueduct/aqueductref08.Parse: function 35 -/
noncomputable def F_aqueductref08_Parse.as : As := .some (.one (.agg (.cons (.leaf (.int .i64)) (.cons (.leaf .str) (.cons (.leaf .str) (.cons (.leaf (.int .i64)) (.cons (.leaf (.int .i64)) (.cons (.leaf (.int .i64)) (.cons (.leaf (.int .i64)) (.cons (.leaf (.int .i64)) (.cons (.leaf (.int .i64)) (.cons (.leaf (.int .i64)) (.cons (.leaf .str) (.one (.leaf .str)))))))))))))))
noncomputable def F_aqueductref08_Parse.rt : Rt := .tup (.cons (.agg (.cons (.leaf (.int .i64)) (.cons (.leaf (.int .i64)) (.cons (.leaf (.int .u32)) (.cons (.leaf (.int .u32)) (.cons (.leaf (.int .i64)) (.cons (.leaf (.int .i64)) (.cons (.leaf (.int .i64)) (.cons (.leaf .str) (.cons (.leaf .str) (.one (.leaf .bool)))))))))))) (.one (.leaf (.int .i64))))
noncomputable def F_aqueductref08_Parse.nt : Notes := ⟨[], [], [(10, [0, 2, 4, 5, 6, 7, 8, 1, 3, 9, 10, 11, 12, 13, 14, 15]), (16, [0, 2, 4, 7, 10, 11, 12, 13, 15, 17, 18, 19, 20, 21, 22, 1, 3, 5, 6, 8, 9, 14, 16, 23, 24]), (17, [0, 1, 2, 3, 4, 5, 8, 9, 6, 7, 10, 11, 12, 13])], [], []⟩
noncomputable def F_aqueductref08_Parse.cal0 {T : Type} (k : Nat) : List (FuncId × Hd T) := [(37, pureN F_aqueductref08_At.as F_aqueductref08_At.rt (fun (x : Int × ByteArray × ByteArray × Int × Int × Int × Int × Int × Int × Int × ByteArray × ByteArray) => F_aqueductref08_At.S k x)), (71, pureN F_aqueductref08_carries.as F_aqueductref08_carries.rt (fun (x : Int × ByteArray × ByteArray × Int × Int × Int × Int × Int × Int × Int × ByteArray × ByteArray) => F_aqueductref08_carries.S k x)), (72, pureN F_aqueductref08_num.as F_aqueductref08_num.rt (fun (x : ByteArray × Int × Int) => F_aqueductref08_num.S k x.1 x.2.1 x.2.2)), (73, pureN F_aqueductref08_Sum.as F_aqueductref08_Sum.rt (fun (x : (Int × ByteArray × ByteArray × Int × Int × Int × Int × Int × Int × Int × ByteArray × ByteArray) × ByteArray) => F_aqueductref08_Sum.S k x.1 x.2))]
theorem F_aqueductref08_Parse.cal0_ok {T : Type} (k : Nat) : HdsOk Try.prog (F_aqueductref08_Parse.cal0 (T := T) k) := ⟨F_aqueductref08_At.hd k, F_aqueductref08_carries.hd k, F_aqueductref08_num.hd k, F_aqueductref08_Sum.hd k, trivial⟩
noncomputable def F_aqueductref08_Parse.cal {T : Type} (k : Nat) : List (FuncId × Hd T) := F_aqueductref08_Parse.cal0 k
theorem F_aqueductref08_Parse.cal_ok {T : Type} (k : Nat) : HdsOk Try.prog (F_aqueductref08_Parse.cal (T := T) k) := F_aqueductref08_Parse.cal0_ok k
noncomputable def F_aqueductref08_Parse.S (k : Nat) (a0 : Int × ByteArray × ByteArray × Int × Int × Int × Int × Int × Int × Int × ByteArray × ByteArray) : O ((Int × Int × Int × Int × Int × Int × Int × ByteArray × ByteArray × Bool) × Int) :=
  O.bind (F_aqueductref08_carries.S k a0) fun r3 =>
  O.cond (!r3) (
   .ok (((0 : Int), (0 : Int), (0 : Int), (0 : Int), (0 : Int), (0 : Int), (0 : Int), ByteArray.empty, ByteArray.empty, false), (81 : Int))) (
   O.cond (decide (a0.2.2.2.1 = (17 : Int))) (
    O.cond (decide ((ByteArray.size a0.2.2.2.2.2.2.2.2.2.2.2 : Int) < (8 : Int))) (
     .ok (((0 : Int), (0 : Int), (0 : Int), (0 : Int), (0 : Int), (0 : Int), (0 : Int), ByteArray.empty, ByteArray.empty, false), (80 : Int))) (
     O.bind (F_aqueductref08_num.S k a0.2.2.2.2.2.2.2.2.2.2.2 (4 : Int) (2 : Int)) fun r5 =>
     O.cond (decide (r5 ≠ (ByteArray.size a0.2.2.2.2.2.2.2.2.2.2.2 : Int))) (
      .ok (((0 : Int), (0 : Int), (0 : Int), (0 : Int), (0 : Int), (0 : Int), (0 : Int), ByteArray.empty, ByteArray.empty, false), (81 : Int))) (
      O.chk (decide (0 ≤ (8 : Int) ∧ (8 : Int) ≤ (ByteArray.size a0.2.2.2.2.2.2.2.2.2.2.2 : Int))) (
       O.bind (F_aqueductref08_num.S k a0.2.2.2.2.2.2.2.2.2.2.2 (0 : Int) (2 : Int)) fun r7 =>
       O.bind (F_aqueductref08_num.S k a0.2.2.2.2.2.2.2.2.2.2.2 (2 : Int) (2 : Int)) fun r9 =>
       O.cond (decide (a0.1 = (4 : Int))) (
        O.bind (F_aqueductref08_num.S k a0.2.2.2.2.2.2.2.2.2.2.2 (6 : Int) (2 : Int)) fun r11 =>
        O.cond (!(decide (r11 = (0 : Int)))) (
         O.bind (F_aqueductref08_At.S k a0) fun r13 =>
         O.bind (F_aqueductref08_num.S k a0.2.2.2.2.2.2.2.2.2.2.2 r13 (2 : Int)) fun r15 =>
         O.bind (F_aqueductref08_Sum.S k a0 a0.2.2.2.2.2.2.2.2.2.2.2) fun r17 =>
         O.cond (decide (r15 ≠ (IntKind.i64.wrap r17))) (
          .ok (((0 : Int), (0 : Int), (0 : Int), (0 : Int), (0 : Int), (0 : Int), (0 : Int), ByteArray.empty, ByteArray.empty, false), (82 : Int))) (
          .ok ((r7, r9, (0 : Int), (0 : Int), (0 : Int), (0 : Int), (0 : Int), ByteArray.empty, (ByteArray.extract a0.2.2.2.2.2.2.2.2.2.2.2 8 (ByteArray.size a0.2.2.2.2.2.2.2.2.2.2.2)), (decide (r11 = (0 : Int)))), (0 : Int)))) (
         .ok ((r7, r9, (0 : Int), (0 : Int), (0 : Int), (0 : Int), (0 : Int), ByteArray.empty, (ByteArray.extract a0.2.2.2.2.2.2.2.2.2.2.2 8 (ByteArray.size a0.2.2.2.2.2.2.2.2.2.2.2)), (decide (r11 = (0 : Int)))), (0 : Int)))) (
        O.cond true (
         O.bind (F_aqueductref08_At.S k a0) fun r19 =>
         O.bind (F_aqueductref08_num.S k a0.2.2.2.2.2.2.2.2.2.2.2 r19 (2 : Int)) fun r21 =>
         O.bind (F_aqueductref08_Sum.S k a0 a0.2.2.2.2.2.2.2.2.2.2.2) fun r23 =>
         O.cond (decide (r21 ≠ (IntKind.i64.wrap r23))) (
          .ok (((0 : Int), (0 : Int), (0 : Int), (0 : Int), (0 : Int), (0 : Int), (0 : Int), ByteArray.empty, ByteArray.empty, false), (82 : Int))) (
          .ok ((r7, r9, (0 : Int), (0 : Int), (0 : Int), (0 : Int), (0 : Int), ByteArray.empty, (ByteArray.extract a0.2.2.2.2.2.2.2.2.2.2.2 8 (ByteArray.size a0.2.2.2.2.2.2.2.2.2.2.2)), false), (0 : Int)))) (
         .ok ((r7, r9, (0 : Int), (0 : Int), (0 : Int), (0 : Int), (0 : Int), ByteArray.empty, (ByteArray.extract a0.2.2.2.2.2.2.2.2.2.2.2 8 (ByteArray.size a0.2.2.2.2.2.2.2.2.2.2.2)), false), (0 : Int)))))))) (
    O.cond (decide ((ByteArray.size a0.2.2.2.2.2.2.2.2.2.2.2 : Int) < (20 : Int))) (
     .ok (((0 : Int), (0 : Int), (0 : Int), (0 : Int), (0 : Int), (0 : Int), (0 : Int), ByteArray.empty, ByteArray.empty, false), (80 : Int))) (
     O.chk (decide (0 ≤ (12 : Int) ∧ (12 : Int) < (ByteArray.size a0.2.2.2.2.2.2.2.2.2.2.2 : Int))) (
      O.cond (decide ((ByteArray.size a0.2.2.2.2.2.2.2.2.2.2.2 : Int) < (IntKind.i64.wrap ((IntKind.i64.wrap (Int.tdiv (IntKind.i64.wrap (bt a0.2.2.2.2.2.2.2.2.2.2.2 (12 : Int))) (16 : Int))) * (4 : Int))))) (
       .ok (((0 : Int), (0 : Int), (0 : Int), (0 : Int), (0 : Int), (0 : Int), (0 : Int), ByteArray.empty, ByteArray.empty, false), (80 : Int))) (
       O.chk (decide (0 ≤ (12 : Int) ∧ (12 : Int) < (ByteArray.size a0.2.2.2.2.2.2.2.2.2.2.2 : Int))) (
        O.cond (decide ((IntKind.i64.wrap ((IntKind.i64.wrap (Int.tdiv (IntKind.i64.wrap (bt a0.2.2.2.2.2.2.2.2.2.2.2 (12 : Int))) (16 : Int))) * (4 : Int))) < (20 : Int))) (
         .ok (((0 : Int), (0 : Int), (0 : Int), (0 : Int), (0 : Int), (0 : Int), (0 : Int), ByteArray.empty, ByteArray.empty, false), (81 : Int))) (
         O.chk (decide (0 ≤ (12 : Int) ∧ (12 : Int) < (ByteArray.size a0.2.2.2.2.2.2.2.2.2.2.2 : Int))) (
          O.cond (decide ((Int.tmod (IntKind.i64.wrap (bt a0.2.2.2.2.2.2.2.2.2.2.2 (12 : Int))) (16 : Int)) ≠ (0 : Int))) (
           .ok (((0 : Int), (0 : Int), (0 : Int), (0 : Int), (0 : Int), (0 : Int), (0 : Int), ByteArray.empty, ByteArray.empty, false), (81 : Int))) (
           O.chk (decide (0 ≤ (13 : Int) ∧ (13 : Int) < (ByteArray.size a0.2.2.2.2.2.2.2.2.2.2.2 : Int))) (
            O.chk (decide (0 ≤ (20 : Int) ∧ (20 : Int) ≤ (IntKind.i64.wrap ((IntKind.i64.wrap (Int.tdiv (IntKind.i64.wrap (bt a0.2.2.2.2.2.2.2.2.2.2.2 (12 : Int))) (16 : Int))) * (4 : Int))) ∧ (IntKind.i64.wrap ((IntKind.i64.wrap (Int.tdiv (IntKind.i64.wrap (bt a0.2.2.2.2.2.2.2.2.2.2.2 (12 : Int))) (16 : Int))) * (4 : Int))) ≤ (ByteArray.size a0.2.2.2.2.2.2.2.2.2.2.2 : Int))) (
             O.chk (decide (0 ≤ (IntKind.i64.wrap ((IntKind.i64.wrap (Int.tdiv (IntKind.i64.wrap (bt a0.2.2.2.2.2.2.2.2.2.2.2 (12 : Int))) (16 : Int))) * (4 : Int))) ∧ (IntKind.i64.wrap ((IntKind.i64.wrap (Int.tdiv (IntKind.i64.wrap (bt a0.2.2.2.2.2.2.2.2.2.2.2 (12 : Int))) (16 : Int))) * (4 : Int))) ≤ (ByteArray.size a0.2.2.2.2.2.2.2.2.2.2.2 : Int))) (
              O.bind (F_aqueductref08_num.S k a0.2.2.2.2.2.2.2.2.2.2.2 (0 : Int) (2 : Int)) fun r25 =>
              O.bind (F_aqueductref08_num.S k a0.2.2.2.2.2.2.2.2.2.2.2 (2 : Int) (2 : Int)) fun r27 =>
              O.bind (F_aqueductref08_num.S k a0.2.2.2.2.2.2.2.2.2.2.2 (4 : Int) (4 : Int)) fun r29 =>
              O.bind (F_aqueductref08_num.S k a0.2.2.2.2.2.2.2.2.2.2.2 (8 : Int) (4 : Int)) fun r31 =>
              O.bind (F_aqueductref08_num.S k a0.2.2.2.2.2.2.2.2.2.2.2 (14 : Int) (2 : Int)) fun r33 =>
              O.bind (F_aqueductref08_num.S k a0.2.2.2.2.2.2.2.2.2.2.2 (18 : Int) (2 : Int)) fun r35 =>
              O.cond true (
               O.bind (F_aqueductref08_At.S k a0) fun r37 =>
               O.bind (F_aqueductref08_num.S k a0.2.2.2.2.2.2.2.2.2.2.2 r37 (2 : Int)) fun r39 =>
               O.bind (F_aqueductref08_Sum.S k a0 a0.2.2.2.2.2.2.2.2.2.2.2) fun r41 =>
               O.cond (decide (r39 ≠ (IntKind.i64.wrap r41))) (
                .ok (((0 : Int), (0 : Int), (0 : Int), (0 : Int), (0 : Int), (0 : Int), (0 : Int), ByteArray.empty, ByteArray.empty, false), (82 : Int))) (
                .ok ((r25, r27, (IntKind.u32.wrap r29), (IntKind.u32.wrap r31), (IntKind.i64.wrap (bt a0.2.2.2.2.2.2.2.2.2.2.2 (13 : Int))), r33, r35, (ByteArray.extract a0.2.2.2.2.2.2.2.2.2.2.2 20 (IntKind.i64.wrap ((IntKind.i64.wrap (Int.tdiv (IntKind.i64.wrap (bt a0.2.2.2.2.2.2.2.2.2.2.2 (12 : Int))) (16 : Int))) * (4 : Int))).toNat), (ByteArray.extract a0.2.2.2.2.2.2.2.2.2.2.2 (IntKind.i64.wrap ((IntKind.i64.wrap (Int.tdiv (IntKind.i64.wrap (bt a0.2.2.2.2.2.2.2.2.2.2.2 (12 : Int))) (16 : Int))) * (4 : Int))).toNat (ByteArray.size a0.2.2.2.2.2.2.2.2.2.2.2)), false), (0 : Int)))) (
               .ok ((r25, r27, (IntKind.u32.wrap r29), (IntKind.u32.wrap r31), (IntKind.i64.wrap (bt a0.2.2.2.2.2.2.2.2.2.2.2 (13 : Int))), r33, r35, (ByteArray.extract a0.2.2.2.2.2.2.2.2.2.2.2 20 (IntKind.i64.wrap ((IntKind.i64.wrap (Int.tdiv (IntKind.i64.wrap (bt a0.2.2.2.2.2.2.2.2.2.2.2 (12 : Int))) (16 : Int))) * (4 : Int))).toNat), (ByteArray.extract a0.2.2.2.2.2.2.2.2.2.2.2 (IntKind.i64.wrap ((IntKind.i64.wrap (Int.tdiv (IntKind.i64.wrap (bt a0.2.2.2.2.2.2.2.2.2.2.2 (12 : Int))) (16 : Int))) * (4 : Int))).toNat (ByteArray.size a0.2.2.2.2.2.2.2.2.2.2.2)), false), (0 : Int)))))))))))))))
theorem F_aqueductref08_Parse.eq (k : Nat) (a0 : Int × ByteArray × ByteArray × Int × Int × Int × Int × Int × Int × Int × ByteArray × ByteArray) : evFn (T := (Int × Int × Int × Int × Int × Int × Int × ByteArray × ByteArray × Bool) × Int) tab (calOf (F_aqueductref08_Parse.cal k)) Go.Proofs.Try.f35 F_aqueductref08_Parse.nt k [.agg [.int .i64 a0.1, .str a0.2.1, .str a0.2.2.1, .int .i64 a0.2.2.2.1, .int .i64 a0.2.2.2.2.1, .int .i64 a0.2.2.2.2.2.1, .int .i64 a0.2.2.2.2.2.2.1, .int .i64 a0.2.2.2.2.2.2.2.1, .int .i64 a0.2.2.2.2.2.2.2.2.1, .int .i64 a0.2.2.2.2.2.2.2.2.2.1, .str a0.2.2.2.2.2.2.2.2.2.2.1, .str a0.2.2.2.2.2.2.2.2.2.2.2]] [] ⟨0, false, []⟩ (fun v st => takeR F_aqueductref08_Parse.rt v st.H .ok) panK = F_aqueductref08_Parse.S k a0 := by kernel_rfl
theorem F_aqueductref08_Parse.ok (k : Nat) : FnOk Try.prog 35 F_aqueductref08_Parse.as F_aqueductref08_Parse.rt (fun (x : Int × ByteArray × ByteArray × Int × Int × Int × Int × Int × Int × Int × ByteArray × ByteArray) => F_aqueductref08_Parse.S k x) :=
  FnOk.of_ev tab_ok (calOf_ok (F_aqueductref08_Parse.cal_ok k)) mixed Try.func35 F_aqueductref08_Parse.nt k (fun _ => rfl) (fun (x : Int × ByteArray × ByteArray × Int × Int × Int × Int × Int × Int × Int × ByteArray × ByteArray) => F_aqueductref08_Parse.eq k x)
theorem F_aqueductref08_Parse.hd {T : Type} (k : Nat) : HdOk Try.prog 35 (pureN (T := T) F_aqueductref08_Parse.as F_aqueductref08_Parse.rt (fun (x : Int × ByteArray × ByteArray × Int × Int × Int × Int × Int × Int × Int × ByteArray × ByteArray) => F_aqueductref08_Parse.S k x)) :=
  pureN_ok rfl rfl (F_aqueductref08_Parse.ok k) Try.call35
/-! ### aqueduct/aqueductref01.Set: function 36 -/
noncomputable def F_aqueductref01_Set.as : As := .some (.cons (.leaf .str) (.cons (.leaf (.int .i64)) (.cons (.leaf (.int .u64)) (.cons (.leaf (.int .i64)) (.one (.leaf .bool))))))
noncomputable def F_aqueductref01_Set.rt : Rt := .tup (.cons (.leaf .str) (.one (.leaf (.int .i64))))
noncomputable def F_aqueductref01_Set.nt : Notes := ⟨[], [], [(6, [0, 1, 2, 3, 4, 5, 6, 7, 8, 9, 10, 11, 12])], [], []⟩
noncomputable def F_aqueductref01_Set.cal0 {T : Type} (k : Nat) : List (FuncId × Hd T) := [(74, pureN F_aqueductref01_Put.as F_aqueductref01_Put.rt (fun (x : Int × Int × Bool) => F_aqueductref01_Put.S k x.1 x.2.1 x.2.2))]
theorem F_aqueductref01_Set.cal0_ok {T : Type} (k : Nat) : HdsOk Try.prog (F_aqueductref01_Set.cal0 (T := T) k) := ⟨F_aqueductref01_Put.hd k, trivial⟩
noncomputable def F_aqueductref01_Set.cal {T : Type} (k : Nat) : List (FuncId × Hd T) := F_aqueductref01_Set.cal0 k
theorem F_aqueductref01_Set.cal_ok {T : Type} (k : Nat) : HdsOk Try.prog (F_aqueductref01_Set.cal (T := T) k) := F_aqueductref01_Set.cal0_ok k
noncomputable def F_aqueductref01_Set.S (k : Nat) (a0 : ByteArray) (a1 : Int) (a2 : Int) (a3 : Int) (a4 : Bool) : O (ByteArray × Int) :=
  O.bind (F_aqueductref01_Put.S k a2 a3 a4) fun r1 =>
  O.cond (decide (r1.2 ≠ (0 : Int))) (
   .ok ((⟨#[]⟩ : ByteArray), r1.2)) (
   O.cond (decide (a1 < (0 : Int))) (
    .ok ((⟨#[]⟩ : ByteArray), (10 : Int))) (
    O.cond (decide (a1 > (IntKind.i64.wrap ((ByteArray.size a0 : Int) - a3)))) (
     .ok ((⟨#[]⟩ : ByteArray), (10 : Int))) (
     O.chk (decide (0 ≤ a1 ∧ a1 ≤ (ByteArray.size a0 : Int))) (
      O.chk (decide (((ByteArray.size (ByteArray.extract a0 0 a1.toNat) + ByteArray.size r1.1 : Nat) : Int) ≤ 9223372036854775807)) (
       O.chk (decide (0 ≤ (IntKind.i64.wrap (a1 + a3)) ∧ (IntKind.i64.wrap (a1 + a3)) ≤ (ByteArray.size a0 : Int))) (
        O.chk (decide (((ByteArray.size ((ByteArray.extract a0 0 a1.toNat) ++ r1.1) + ByteArray.size (ByteArray.extract a0 (IntKind.i64.wrap (a1 + a3)).toNat (ByteArray.size a0)) : Nat) : Int) ≤ 9223372036854775807)) (
         .ok ((((ByteArray.extract a0 0 a1.toNat) ++ r1.1) ++ (ByteArray.extract a0 (IntKind.i64.wrap (a1 + a3)).toNat (ByteArray.size a0))), (0 : Int)))))))))
theorem F_aqueductref01_Set.eq (k : Nat) (a0 : ByteArray) (a1 : Int) (a2 : Int) (a3 : Int) (a4 : Bool) : evFn (T := ByteArray × Int) tab (calOf (F_aqueductref01_Set.cal k)) Go.Proofs.Try.f36 F_aqueductref01_Set.nt k [.str a0, .int .i64 a1, .int .u64 a2, .int .i64 a3, .bool a4] [] ⟨0, false, []⟩ (fun v st => takeR F_aqueductref01_Set.rt v st.H .ok) panK = F_aqueductref01_Set.S k a0 a1 a2 a3 a4 := by kernel_rfl
theorem F_aqueductref01_Set.ok (k : Nat) : FnOk Try.prog 36 F_aqueductref01_Set.as F_aqueductref01_Set.rt (fun (x : ByteArray × Int × Int × Int × Bool) => F_aqueductref01_Set.S k x.1 x.2.1 x.2.2.1 x.2.2.2.1 x.2.2.2.2) :=
  FnOk.of_ev tab_ok (calOf_ok (F_aqueductref01_Set.cal_ok k)) mixed Try.func36 F_aqueductref01_Set.nt k (fun _ => rfl) (fun (x : ByteArray × Int × Int × Int × Bool) => F_aqueductref01_Set.eq k x.1 x.2.1 x.2.2.1 x.2.2.2.1 x.2.2.2.2)
theorem F_aqueductref01_Set.hd {T : Type} (k : Nat) : HdOk Try.prog 36 (pureN (T := T) F_aqueductref01_Set.as F_aqueductref01_Set.rt (fun (x : ByteArray × Int × Int × Int × Bool) => F_aqueductref01_Set.S k x.1 x.2.1 x.2.2.1 x.2.2.2.1 x.2.2.2.2)) :=
  pureN_ok rfl rfl (F_aqueductref01_Set.ok k) Try.call36
/-! ### aqueduct/aqueductref10.Offload: function 18 -/
noncomputable def F_aqueductref10_Offload.as : As := .some (.one (.leaf .str))
noncomputable def F_aqueductref10_Offload.rt : Rt := .tup (.cons (.agg (.cons (.leaf (.int .i64)) (.cons (.leaf (.int .i64)) (.cons (.leaf (.int .i64)) (.cons (.leaf (.int .i64)) (.cons (.leaf (.int .i64)) (.cons (.leaf (.int .i64)) (.one (.leaf (.int .i64)))))))))) (.one (.leaf .str)))
noncomputable def F_aqueductref10_Offload.nt : Notes := ⟨[], [], [(8, [0, 1, 2, 5, 6, 7, 8, 3, 4, 9, 10, 11, 12, 13, 14, 15, 16, 17])], [], []⟩
noncomputable def F_aqueductref10_Offload.cal0 {T : Type} (k : Nat) : List (FuncId × Hd T) := [(33, pureN F_aqueductref06_Parse.as F_aqueductref06_Parse.rt (fun (x : ByteArray) => F_aqueductref06_Parse.S k x)), (34, pureN F_aqueductref07_Parse.as F_aqueductref07_Parse.rt (fun (x : ByteArray) => F_aqueductref07_Parse.S k x)), (35, pureN F_aqueductref08_Parse.as F_aqueductref08_Parse.rt (fun (x : Int × ByteArray × ByteArray × Int × Int × Int × Int × Int × Int × Int × ByteArray × ByteArray) => F_aqueductref08_Parse.S k x)), (36, pureN F_aqueductref01_Set.as F_aqueductref01_Set.rt (fun (x : ByteArray × Int × Int × Int × Bool) => F_aqueductref01_Set.S k x.1 x.2.1 x.2.2.1 x.2.2.2.1 x.2.2.2.2)), (37, pureN F_aqueductref08_At.as F_aqueductref08_At.rt (fun (x : Int × ByteArray × ByteArray × Int × Int × Int × Int × Int × Int × Int × ByteArray × ByteArray) => F_aqueductref08_At.S k x)), (38, pureN F_aqueductref02_On.as F_aqueductref02_On.rt (fun (x : Int × ByteArray) => F_aqueductref02_On.S k x.1 x.2)), (39, pureN F_aqueductref07_Pseudo.as F_aqueductref07_Pseudo.rt (fun (x : (Int × ByteArray × ByteArray × Int × Int × Int × Int × Int × Int × Int × ByteArray × ByteArray) × Int) => F_aqueductref07_Pseudo.S k x.1 x.2))]
theorem F_aqueductref10_Offload.cal0_ok {T : Type} (k : Nat) : HdsOk Try.prog (F_aqueductref10_Offload.cal0 (T := T) k) := ⟨F_aqueductref06_Parse.hd k, F_aqueductref07_Parse.hd k, F_aqueductref08_Parse.hd k, F_aqueductref01_Set.hd k, F_aqueductref08_At.hd k, F_aqueductref02_On.hd k, F_aqueductref07_Pseudo.hd k, trivial⟩
noncomputable def F_aqueductref10_Offload.cal {T : Type} (k : Nat) : List (FuncId × Hd T) := F_aqueductref10_Offload.cal0 k
theorem F_aqueductref10_Offload.cal_ok {T : Type} (k : Nat) : HdsOk Try.prog (F_aqueductref10_Offload.cal (T := T) k) := F_aqueductref10_Offload.cal0_ok k
noncomputable def F_aqueductref10_Offload.S (k : Nat) (a0 : ByteArray) : O ((Int × Int × Int × Int × Int × Int × Int) × ByteArray) :=
  O.bind (F_aqueductref06_Parse.S k a0) fun r3 =>
  O.bind (F_aqueductref07_Parse.S k r3.1.2.2.2.2.2) fun r7 =>
  O.bind (F_aqueductref08_Parse.S k r7.1) fun r11 =>
  O.cond (decide (r3.2 = (0 : Int))) (
   O.cond (decide (r7.2 = (0 : Int))) (
    O.cond (decide (r11.2 = (0 : Int))) (
     O.cond (!r11.1.2.2.2.2.2.2.2.2.2) (
      O.cond (decide (r3.1.2.2.2.2.1 = (2048 : Int))) (
       O.cond (decide (r7.1.1 = (4 : Int))) (
        O.bind (F_aqueductref08_At.S k r7.1) fun r13 =>
        O.bind (F_aqueductref07_Pseudo.S k r7.1 (ByteArray.size r7.1.2.2.2.2.2.2.2.2.2.2.2 : Int)) fun r15 =>
        O.bind (F_aqueductref02_On.S k (0 : Int) r15) fun r17 =>
        O.bind (F_aqueductref01_Set.S k a0 (IntKind.i64.wrap ((IntKind.i64.wrap ((ByteArray.size a0 : Int) - (ByteArray.size r7.1.2.2.2.2.2.2.2.2.2.2.2 : Int))) + r13)) (IntKind.u64.wrap r17) (2 : Int) true) fun r19 =>
        O.bind (F_aqueductref08_At.S k r7.1) fun r21 =>
        .ok (((1 : Int), (0 : Int), (0 : Int), (0 : Int), (IntKind.i64.wrap ((ByteArray.size a0 : Int) - (ByteArray.size r7.1.2.2.2.2.2.2.2.2.2.2.2 : Int))), r21, (0 : Int)), r19.1)) (
        O.cond (decide (r3.1.2.2.2.2.1 = (34525 : Int))) (
         O.cond (!(decide (r7.1.1 = (6 : Int)))) (
          .ok (((0 : Int), (0 : Int), (0 : Int), (0 : Int), (0 : Int), (0 : Int), (0 : Int)), a0)) (
          O.bind (F_aqueductref08_At.S k r7.1) fun r23 =>
          O.bind (F_aqueductref07_Pseudo.S k r7.1 (ByteArray.size r7.1.2.2.2.2.2.2.2.2.2.2.2 : Int)) fun r25 =>
          O.bind (F_aqueductref02_On.S k (0 : Int) r25) fun r27 =>
          O.bind (F_aqueductref01_Set.S k a0 (IntKind.i64.wrap ((IntKind.i64.wrap ((ByteArray.size a0 : Int) - (ByteArray.size r7.1.2.2.2.2.2.2.2.2.2.2.2 : Int))) + r23)) (IntKind.u64.wrap r27) (2 : Int) true) fun r29 =>
          O.bind (F_aqueductref08_At.S k r7.1) fun r31 =>
          .ok (((1 : Int), (0 : Int), (0 : Int), (0 : Int), (IntKind.i64.wrap ((ByteArray.size a0 : Int) - (ByteArray.size r7.1.2.2.2.2.2.2.2.2.2.2.2 : Int))), r31, (0 : Int)), r29.1))) (
         .ok (((0 : Int), (0 : Int), (0 : Int), (0 : Int), (0 : Int), (0 : Int), (0 : Int)), a0)))) (
       O.cond (decide (r3.1.2.2.2.2.1 = (34525 : Int))) (
        O.cond (!(decide (r7.1.1 = (6 : Int)))) (
         .ok (((0 : Int), (0 : Int), (0 : Int), (0 : Int), (0 : Int), (0 : Int), (0 : Int)), a0)) (
         O.bind (F_aqueductref08_At.S k r7.1) fun r33 =>
         O.bind (F_aqueductref07_Pseudo.S k r7.1 (ByteArray.size r7.1.2.2.2.2.2.2.2.2.2.2.2 : Int)) fun r35 =>
         O.bind (F_aqueductref02_On.S k (0 : Int) r35) fun r37 =>
         O.bind (F_aqueductref01_Set.S k a0 (IntKind.i64.wrap ((IntKind.i64.wrap ((ByteArray.size a0 : Int) - (ByteArray.size r7.1.2.2.2.2.2.2.2.2.2.2.2 : Int))) + r33)) (IntKind.u64.wrap r37) (2 : Int) true) fun r39 =>
         O.bind (F_aqueductref08_At.S k r7.1) fun r41 =>
         .ok (((1 : Int), (0 : Int), (0 : Int), (0 : Int), (IntKind.i64.wrap ((ByteArray.size a0 : Int) - (ByteArray.size r7.1.2.2.2.2.2.2.2.2.2.2.2 : Int))), r41, (0 : Int)), r39.1))) (
        .ok (((0 : Int), (0 : Int), (0 : Int), (0 : Int), (0 : Int), (0 : Int), (0 : Int)), a0)))) (
      .ok (((0 : Int), (0 : Int), (0 : Int), (0 : Int), (0 : Int), (0 : Int), (0 : Int)), a0))) (
     .ok (((0 : Int), (0 : Int), (0 : Int), (0 : Int), (0 : Int), (0 : Int), (0 : Int)), a0))) (
    .ok (((0 : Int), (0 : Int), (0 : Int), (0 : Int), (0 : Int), (0 : Int), (0 : Int)), a0))) (
   .ok (((0 : Int), (0 : Int), (0 : Int), (0 : Int), (0 : Int), (0 : Int), (0 : Int)), a0))
theorem F_aqueductref10_Offload.eq (k : Nat) (a0 : ByteArray) : evFn (T := (Int × Int × Int × Int × Int × Int × Int) × ByteArray) tab (calOf (F_aqueductref10_Offload.cal k)) Go.Proofs.Try.f18 F_aqueductref10_Offload.nt k [.str a0] [] ⟨0, false, []⟩ (fun v st => takeR F_aqueductref10_Offload.rt v st.H .ok) panK = F_aqueductref10_Offload.S k a0 := by kernel_rfl
theorem F_aqueductref10_Offload.ok (k : Nat) : FnOk Try.prog 18 F_aqueductref10_Offload.as F_aqueductref10_Offload.rt (fun (x : ByteArray) => F_aqueductref10_Offload.S k x) :=
  FnOk.of_ev tab_ok (calOf_ok (F_aqueductref10_Offload.cal_ok k)) mixed Try.func18 F_aqueductref10_Offload.nt k (fun _ => rfl) (fun (x : ByteArray) => F_aqueductref10_Offload.eq k x)
theorem F_aqueductref10_Offload.hd {T : Type} (k : Nat) : HdOk Try.prog 18 (pureN (T := T) F_aqueductref10_Offload.as F_aqueductref10_Offload.rt (fun (x : ByteArray) => F_aqueductref10_Offload.S k x)) :=
  pureN_ok rfl rfl (F_aqueductref10_Offload.ok k) Try.call18
/-! ### aqueduct/aqueductlaw10.HdrFinishes: function 4 -/
noncomputable def F_aqueductlaw10_HdrFinishes.as : As := .some (.cons (.agg (.cons (.leaf (.int .i64)) (.cons (.leaf (.int .i64)) (.cons (.leaf (.int .i64)) (.cons (.leaf (.int .i64)) (.cons (.leaf (.int .i64)) (.cons (.leaf (.int .i64)) (.one (.leaf (.int .i64)))))))))) (.one (.leaf .str)))
noncomputable def F_aqueductlaw10_HdrFinishes.rt : Rt := .val (.leaf .bool)
noncomputable def F_aqueductlaw10_HdrFinishes.nt : Notes := ⟨[], [], [], [], []⟩
noncomputable def F_aqueductlaw10_HdrFinishes.cal0 {T : Type} (k : Nat) : List (FuncId × Hd T) := [(14, pureN F_aqueductlaw10_fixed.as F_aqueductlaw10_fixed.rt (fun (_ : Unit) => F_aqueductlaw10_fixed.S k)), (15, pureN F_nethdr_Finish.as F_nethdr_Finish.rt (fun (x : (Int × Int × Int × Int × Int × Int × Int) × ByteArray) => F_nethdr_Finish.S k x.1 x.2)), (16, pureN F_aqueductref10_Finish.as F_aqueductref10_Finish.rt (fun (x : (Int × Int × Int × Int × Int × Int × Int) × ByteArray) => F_aqueductref10_Finish.S k x.1 x.2)), (17, pureN F_nethdr_Offload.as F_nethdr_Offload.rt (fun (x : ByteArray) => F_nethdr_Offload.S k x)), (18, pureN F_aqueductref10_Offload.as F_aqueductref10_Offload.rt (fun (x : ByteArray) => F_aqueductref10_Offload.S k x))]
theorem F_aqueductlaw10_HdrFinishes.cal0_ok {T : Type} (k : Nat) : HdsOk Try.prog (F_aqueductlaw10_HdrFinishes.cal0 (T := T) k) := ⟨F_aqueductlaw10_fixed.hd k, F_nethdr_Finish.hd k, F_aqueductref10_Finish.hd k, F_nethdr_Offload.hd k, F_aqueductref10_Offload.hd k, trivial⟩
noncomputable def F_aqueductlaw10_HdrFinishes.cal {T : Type} (k : Nat) : List (FuncId × Hd T) := F_aqueductlaw10_HdrFinishes.cal0 k
theorem F_aqueductlaw10_HdrFinishes.cal_ok {T : Type} (k : Nat) : HdsOk Try.prog (F_aqueductlaw10_HdrFinishes.cal (T := T) k) := F_aqueductlaw10_HdrFinishes.cal0_ok k
noncomputable def F_aqueductlaw10_HdrFinishes.S (k : Nat) (a0 : Int × Int × Int × Int × Int × Int × Int) (a1 : ByteArray) : O Bool :=
  O.chk (decide (0 ≤ (min (ByteArray.size a1 : Int) (1600 : Int)) ∧ (min (ByteArray.size a1 : Int) (1600 : Int)) ≤ (ByteArray.size a1 : Int))) (
   O.bind (F_nethdr_Finish.S k a0 (ByteArray.extract a1 0 (min (ByteArray.size a1 : Int) (1600 : Int)).toNat)) fun r3 =>
   O.bind (F_aqueductref10_Finish.S k a0 (ByteArray.extract a1 0 (min (ByteArray.size a1 : Int) (1600 : Int)).toNat)) fun r5 =>
   O.bind (F_nethdr_Offload.S k (ByteArray.extract a1 0 (min (ByteArray.size a1 : Int) (1600 : Int)).toNat)) fun r7 =>
   O.bind (F_aqueductref10_Offload.S k (ByteArray.extract a1 0 (min (ByteArray.size a1 : Int) (1600 : Int)).toNat)) fun r9 =>
   O.bind (F_aqueductlaw10_fixed.S k) fun r11 =>
   O.cond r11 (
    O.cond (decide (r3.1 = r5.1)) (
     O.cond (decide (r3.2 = r5.2)) (
      O.cond (decide (r7.1.1 = r9.1.1) && (decide (r7.1.2.1 = r9.1.2.1) && (decide (r7.1.2.2.1 = r9.1.2.2.1) && (decide (r7.1.2.2.2.1 = r9.1.2.2.2.1) && (decide (r7.1.2.2.2.2.1 = r9.1.2.2.2.2.1) && (decide (r7.1.2.2.2.2.2.1 = r9.1.2.2.2.2.2.1) && (decide (r7.1.2.2.2.2.2.2 = r9.1.2.2.2.2.2.2) && true))))))) (
       .ok (decide (r7.2 = r9.2))) (
       .ok false)) (
      .ok false)) (
     .ok false)) (
    .ok false))
theorem F_aqueductlaw10_HdrFinishes.eq (k : Nat) (a0 : Int × Int × Int × Int × Int × Int × Int) (a1 : ByteArray) : evFn (T := Bool) tab (calOf (F_aqueductlaw10_HdrFinishes.cal k)) Go.Proofs.Try.f4 F_aqueductlaw10_HdrFinishes.nt k [.agg [.int .i64 a0.1, .int .i64 a0.2.1, .int .i64 a0.2.2.1, .int .i64 a0.2.2.2.1, .int .i64 a0.2.2.2.2.1, .int .i64 a0.2.2.2.2.2.1, .int .i64 a0.2.2.2.2.2.2], .str a1] [] ⟨0, false, []⟩ (fun v st => takeR F_aqueductlaw10_HdrFinishes.rt v st.H .ok) panK = F_aqueductlaw10_HdrFinishes.S k a0 a1 := by kernel_rfl
theorem F_aqueductlaw10_HdrFinishes.ok (k : Nat) : FnOk Try.prog 4 F_aqueductlaw10_HdrFinishes.as F_aqueductlaw10_HdrFinishes.rt (fun (x : (Int × Int × Int × Int × Int × Int × Int) × ByteArray) => F_aqueductlaw10_HdrFinishes.S k x.1 x.2) :=
  FnOk.of_ev tab_ok (calOf_ok (F_aqueductlaw10_HdrFinishes.cal_ok k)) mixed Try.func4 F_aqueductlaw10_HdrFinishes.nt k (fun _ => rfl) (fun (x : (Int × Int × Int × Int × Int × Int × Int) × ByteArray) => F_aqueductlaw10_HdrFinishes.eq k x.1 x.2)
theorem F_aqueductlaw10_HdrFinishes.hd {T : Type} (k : Nat) : HdOk Try.prog 4 (pureN (T := T) F_aqueductlaw10_HdrFinishes.as F_aqueductlaw10_HdrFinishes.rt (fun (x : (Int × Int × Int × Int × Int × Int × Int) × ByteArray) => F_aqueductlaw10_HdrFinishes.S k x.1 x.2)) :=
  pureN_ok rfl rfl (F_aqueductlaw10_HdrFinishes.ok k) Try.call4
/-! ### aqueduct/aqueductlaw10.HdrBack: function 5 -/
noncomputable def F_aqueductlaw10_HdrBack.as : As := .some (.cons (.agg (.cons (.leaf (.int .i64)) (.cons (.leaf (.int .i64)) (.cons (.leaf (.int .i64)) (.cons (.leaf (.int .i64)) (.cons (.leaf (.int .i64)) (.cons (.leaf (.int .i64)) (.one (.leaf (.int .i64)))))))))) (.one (.leaf .str)))
noncomputable def F_aqueductlaw10_HdrBack.rt : Rt := .val (.leaf .bool)
noncomputable def F_aqueductlaw10_HdrBack.nt : Notes := ⟨[], [], [], [], []⟩
noncomputable def F_aqueductlaw10_HdrBack.cal0 {T : Type} (k : Nat) : List (FuncId × Hd T) := [(10, pureN F_nethdr_Parse.as F_nethdr_Parse.rt (fun (x : ByteArray) => F_nethdr_Parse.S k x)), (12, pureN F_nethdr_Build.as F_nethdr_Build.rt (fun (x : Int × Int × Int × Int × Int × Int × Int) => F_nethdr_Build.S k x)), (14, pureN F_aqueductlaw10_fixed.as F_aqueductlaw10_fixed.rt (fun (_ : Unit) => F_aqueductlaw10_fixed.S k)), (15, pureN F_nethdr_Finish.as F_nethdr_Finish.rt (fun (x : (Int × Int × Int × Int × Int × Int × Int) × ByteArray) => F_nethdr_Finish.S k x.1 x.2)), (17, pureN F_nethdr_Offload.as F_nethdr_Offload.rt (fun (x : ByteArray) => F_nethdr_Offload.S k x))]
theorem F_aqueductlaw10_HdrBack.cal0_ok {T : Type} (k : Nat) : HdsOk Try.prog (F_aqueductlaw10_HdrBack.cal0 (T := T) k) := ⟨F_nethdr_Parse.hd k, F_nethdr_Build.hd k, F_aqueductlaw10_fixed.hd k, F_nethdr_Finish.hd k, F_nethdr_Offload.hd k, trivial⟩
noncomputable def F_aqueductlaw10_HdrBack.cal {T : Type} (k : Nat) : List (FuncId × Hd T) := F_aqueductlaw10_HdrBack.cal0 k
theorem F_aqueductlaw10_HdrBack.cal_ok {T : Type} (k : Nat) : HdsOk Try.prog (F_aqueductlaw10_HdrBack.cal (T := T) k) := F_aqueductlaw10_HdrBack.cal0_ok k
noncomputable def F_aqueductlaw10_HdrBack.S (k : Nat) (a0 : Int × Int × Int × Int × Int × Int × Int) (a1 : ByteArray) : O Bool :=
  O.chk (decide (0 ≤ (min (ByteArray.size a1 : Int) (1600 : Int)) ∧ (min (ByteArray.size a1 : Int) (1600 : Int)) ≤ (ByteArray.size a1 : Int))) (
   O.bind (F_nethdr_Offload.S k (ByteArray.extract a1 0 (min (ByteArray.size a1 : Int) (1600 : Int)).toNat)) fun r3 =>
   O.bind (F_nethdr_Finish.S k r3.1 r3.2) fun r7 =>
   O.cond (decide (r7.2 ≠ (0 : Int))) (
    .ok false) (
    O.cond (decide (r7.1 ≠ (ByteArray.extract a1 0 (min (ByteArray.size a1 : Int) (1600 : Int)).toNat))) (
     .ok false) (
     O.cond (decide ((ByteArray.size r3.2 : Int) ≠ (ByteArray.size (ByteArray.extract a1 0 (min (ByteArray.size a1 : Int) (1600 : Int)).toNat) : Int))) (
      .ok false) (
      O.bind (F_nethdr_Build.S k a0) fun r11 =>
      O.cond (decide (r11.2 ≠ (0 : Int))) (
       O.cond (decide (r11.1 = (⟨#[]⟩ : ByteArray))) (
        O.bind (F_aqueductlaw10_fixed.S k) fun r13 =>
        .ok r13) (
        .ok false)) (
       O.chk (decide (((ByteArray.size r11.1 + ByteArray.size (ByteArray.extract a1 0 (min (ByteArray.size a1 : Int) (1600 : Int)).toNat) : Nat) : Int) ≤ 9223372036854775807)) (
        O.bind (F_nethdr_Parse.S k (r11.1 ++ (ByteArray.extract a1 0 (min (ByteArray.size a1 : Int) (1600 : Int)).toNat))) fun r15 =>
        O.cond (decide (r15.2.2 = (0 : Int))) (
         O.cond (decide (r15.1.1 = a0.1) && (decide (r15.1.2.1 = a0.2.1) && (decide (r15.1.2.2.1 = a0.2.2.1) && (decide (r15.1.2.2.2.1 = a0.2.2.2.1) && (decide (r15.1.2.2.2.2.1 = a0.2.2.2.2.1) && (decide (r15.1.2.2.2.2.2.1 = a0.2.2.2.2.2.1) && (decide (r15.1.2.2.2.2.2.2 = a0.2.2.2.2.2.2) && true))))))) (
          O.cond (decide (r15.2.1 = (ByteArray.extract a1 0 (min (ByteArray.size a1 : Int) (1600 : Int)).toNat))) (
           O.cond (decide ((ByteArray.size r11.1 : Int) = (12 : Int))) (
            O.bind (F_aqueductlaw10_fixed.S k) fun r17 =>
            .ok r17) (
            .ok false)) (
           .ok false)) (
          .ok false)) (
         .ok false)))))))
theorem F_aqueductlaw10_HdrBack.eq (k : Nat) (a0 : Int × Int × Int × Int × Int × Int × Int) (a1 : ByteArray) : evFn (T := Bool) tab (calOf (F_aqueductlaw10_HdrBack.cal k)) Go.Proofs.Try.f5 F_aqueductlaw10_HdrBack.nt k [.agg [.int .i64 a0.1, .int .i64 a0.2.1, .int .i64 a0.2.2.1, .int .i64 a0.2.2.2.1, .int .i64 a0.2.2.2.2.1, .int .i64 a0.2.2.2.2.2.1, .int .i64 a0.2.2.2.2.2.2], .str a1] [] ⟨0, false, []⟩ (fun v st => takeR F_aqueductlaw10_HdrBack.rt v st.H .ok) panK = F_aqueductlaw10_HdrBack.S k a0 a1 := by kernel_rfl
theorem F_aqueductlaw10_HdrBack.ok (k : Nat) : FnOk Try.prog 5 F_aqueductlaw10_HdrBack.as F_aqueductlaw10_HdrBack.rt (fun (x : (Int × Int × Int × Int × Int × Int × Int) × ByteArray) => F_aqueductlaw10_HdrBack.S k x.1 x.2) :=
  FnOk.of_ev tab_ok (calOf_ok (F_aqueductlaw10_HdrBack.cal_ok k)) mixed Try.func5 F_aqueductlaw10_HdrBack.nt k (fun _ => rfl) (fun (x : (Int × Int × Int × Int × Int × Int × Int) × ByteArray) => F_aqueductlaw10_HdrBack.eq k x.1 x.2)
theorem F_aqueductlaw10_HdrBack.hd {T : Type} (k : Nat) : HdOk Try.prog 5 (pureN (T := T) F_aqueductlaw10_HdrBack.as F_aqueductlaw10_HdrBack.rt (fun (x : (Int × Int × Int × Int × Int × Int × Int) × ByteArray) => F_aqueductlaw10_HdrBack.S k x.1 x.2)) :=
  pureN_ok rfl rfl (F_aqueductlaw10_HdrBack.ok k) Try.call5
/-! ### aqueduct/aqueductlaw10.HdrOnly: function 6 -/
noncomputable def F_aqueductlaw10_HdrOnly.as : As := .some (.cons (.agg (.cons (.leaf (.int .i64)) (.cons (.leaf (.int .i64)) (.cons (.leaf (.int .i64)) (.cons (.leaf (.int .i64)) (.cons (.leaf (.int .i64)) (.cons (.leaf (.int .i64)) (.one (.leaf (.int .i64)))))))))) (.one (.leaf .str)))
noncomputable def F_aqueductlaw10_HdrOnly.rt : Rt := .val (.leaf .bool)
noncomputable def F_aqueductlaw10_HdrOnly.nt : Notes := ⟨[(9, [1, 5, 7, 8])], [], [(11, [0, 1, 2, 3, 4, 5, 6])], [], []⟩
noncomputable def F_aqueductlaw10_HdrOnly.cal0 {T : Type} (k : Nat) : List (FuncId × Hd T) := [(14, pureN F_aqueductlaw10_fixed.as F_aqueductlaw10_fixed.rt (fun (_ : Unit) => F_aqueductlaw10_fixed.S k)), (15, pureN F_nethdr_Finish.as F_nethdr_Finish.rt (fun (x : (Int × Int × Int × Int × Int × Int × Int) × ByteArray) => F_nethdr_Finish.S k x.1 x.2))]
theorem F_aqueductlaw10_HdrOnly.cal0_ok {T : Type} (k : Nat) : HdsOk Try.prog (F_aqueductlaw10_HdrOnly.cal0 (T := T) k) := ⟨F_aqueductlaw10_fixed.hd k, F_nethdr_Finish.hd k, trivial⟩
noncomputable def F_aqueductlaw10_HdrOnly.cal {T : Type} (k : Nat) : List (FuncId × Hd T) := F_aqueductlaw10_HdrOnly.cal0 k
theorem F_aqueductlaw10_HdrOnly.cal_ok {T : Type} (k : Nat) : HdsOk Try.prog (F_aqueductlaw10_HdrOnly.cal (T := T) k) := F_aqueductlaw10_HdrOnly.cal0_ok k
noncomputable def F_aqueductlaw10_HdrOnly.l0_b (k : Nat) (a1 : ByteArray) (r3 : ByteArray × Int) (R_l0 : Int → Int → O Bool) (v9 : Int) (v10 : Int) : O Bool :=
  O.cond (decide (v10 < (ByteArray.size (ByteArray.extract a1 0 (min (ByteArray.size a1 : Int) (1600 : Int)).toNat) : Int))) (
   O.chk (decide (0 ≤ v10 ∧ v10 < (ByteArray.size (ByteArray.extract a1 0 (min (ByteArray.size a1 : Int) (1600 : Int)).toNat) : Int))) (
    O.chk (decide (0 ≤ v10 ∧ v10 < (ByteArray.size r3.1 : Int))) (
     O.cond (decide ((bt (ByteArray.extract a1 0 (min (ByteArray.size a1 : Int) (1600 : Int)).toNat) v10) ≠ (bt r3.1 v10))) (
      R_l0 (IntKind.i64.wrap (v9 + (1 : Int))) (IntKind.i64.wrap (v10 + (1 : Int)))) (
      R_l0 v9 (IntKind.i64.wrap (v10 + (1 : Int))))))) (
   O.cond (decide (v9 ≤ (2 : Int))) (
    O.bind (F_aqueductlaw10_fixed.S k) fun r11 =>
    .ok r11) (
    .ok false))
noncomputable def F_aqueductlaw10_HdrOnly.l0 (k : Nat) (a1 : ByteArray) (r3 : ByteArray × Int) : Nat → Int → Int → O Bool
  | 0, _, _ => .no
  | j + 1, v9, v10 => F_aqueductlaw10_HdrOnly.l0_b k a1 r3 (F_aqueductlaw10_HdrOnly.l0 k a1 r3 j) v9 v10
theorem F_aqueductlaw10_HdrOnly.l0_eq (k : Nat) (a1 : ByteArray) (r3 : ByteArray × Int) : ∀ (j : Nat) (v9 : Int) (v10 : Int), loopAt (T := Bool) tab (calOf (F_aqueductlaw10_HdrOnly.cal k)) Go.Proofs.Try.f6.ntmps F_aqueductlaw10_HdrOnly.nt k [] [.r, .r, .r, .r, .r, .r, .l, .r, .b] (bodyOf Go.Proofs.Try.f6) (finK tab Go.Proofs.Try.f6.results.toList (fun v st => takeR F_aqueductlaw10_HdrOnly.rt v st.H .ok) panK) j ⟨[(1, .str (ByteArray.extract a1 0 (min (ByteArray.size a1 : Int) (1600 : Int)).toNat)), (5, .str r3.1), (7, .int .i64 v9), (8, .int .i64 v10)], [], 0, []⟩ ⟨0, true, []⟩ = F_aqueductlaw10_HdrOnly.l0 k a1 r3 j v9 v10 := by
  intro j
  induction j with
  | zero => intro v9 v10; rfl
  | succ j ih =>
    intro v9 v10
    have rs : (fun (v9' : Int) (v10' : Int) => loopAt (T := Bool) tab (calOf (F_aqueductlaw10_HdrOnly.cal k)) Go.Proofs.Try.f6.ntmps F_aqueductlaw10_HdrOnly.nt k [] [.r, .r, .r, .r, .r, .r, .l, .r, .b] (bodyOf Go.Proofs.Try.f6) (finK tab Go.Proofs.Try.f6.results.toList (fun v st => takeR F_aqueductlaw10_HdrOnly.rt v st.H .ok) panK) j ⟨[(1, .str (ByteArray.extract a1 0 (min (ByteArray.size a1 : Int) (1600 : Int)).toNat)), (5, .str r3.1), (7, .int .i64 v9'), (8, .int .i64 v10')], [], 0, []⟩ ⟨0, true, []⟩) = F_aqueductlaw10_HdrOnly.l0 k a1 r3 j := by funext v9' v10'; exact ih v9' v10'
    have h : loopAt (T := Bool) tab (calOf (F_aqueductlaw10_HdrOnly.cal k)) Go.Proofs.Try.f6.ntmps F_aqueductlaw10_HdrOnly.nt k [] [.r, .r, .r, .r, .r, .r, .l, .r, .b] (bodyOf Go.Proofs.Try.f6) (finK tab Go.Proofs.Try.f6.results.toList (fun v st => takeR F_aqueductlaw10_HdrOnly.rt v st.H .ok) panK) (j + 1) ⟨[(1, .str (ByteArray.extract a1 0 (min (ByteArray.size a1 : Int) (1600 : Int)).toNat)), (5, .str r3.1), (7, .int .i64 v9), (8, .int .i64 v10)], [], 0, []⟩ ⟨0, true, []⟩ = F_aqueductlaw10_HdrOnly.l0_b k a1 r3 ((fun (v9' : Int) (v10' : Int) => loopAt (T := Bool) tab (calOf (F_aqueductlaw10_HdrOnly.cal k)) Go.Proofs.Try.f6.ntmps F_aqueductlaw10_HdrOnly.nt k [] [.r, .r, .r, .r, .r, .r, .l, .r, .b] (bodyOf Go.Proofs.Try.f6) (finK tab Go.Proofs.Try.f6.results.toList (fun v st => takeR F_aqueductlaw10_HdrOnly.rt v st.H .ok) panK) j ⟨[(1, .str (ByteArray.extract a1 0 (min (ByteArray.size a1 : Int) (1600 : Int)).toNat)), (5, .str r3.1), (7, .int .i64 v9'), (8, .int .i64 v10')], [], 0, []⟩ ⟨0, true, []⟩)) v9 v10 := by kernel_rfl
    exact h.trans (by rw [rs]; rfl)
noncomputable def F_aqueductlaw10_HdrOnly.top (k : Nat) (a0 : Int × Int × Int × Int × Int × Int × Int) (a1 : ByteArray) (D_l0 : (ByteArray × Int) → Int → Int → O Bool) : O Bool :=
  O.chk (decide (0 ≤ (min (ByteArray.size a1 : Int) (1600 : Int)) ∧ (min (ByteArray.size a1 : Int) (1600 : Int)) ≤ (ByteArray.size a1 : Int))) (
   O.bind (F_nethdr_Finish.S k a0 (ByteArray.extract a1 0 (min (ByteArray.size a1 : Int) (1600 : Int)).toNat)) fun r3 =>
   O.cond (decide (r3.2 ≠ (0 : Int))) (
    O.cond (decide (r3.1 = (⟨#[]⟩ : ByteArray))) (
     O.bind (F_aqueductlaw10_fixed.S k) fun r7 =>
     .ok r7) (
     .ok false)) (
    O.cond (decide ((ByteArray.size r3.1 : Int) ≠ (ByteArray.size (ByteArray.extract a1 0 (min (ByteArray.size a1 : Int) (1600 : Int)).toNat) : Int))) (
     .ok false) (
     O.cond (decide ((bAnd .i64 a0.1 (1 : Int)) = (0 : Int))) (
      O.cond (decide (r3.1 ≠ (ByteArray.extract a1 0 (min (ByteArray.size a1 : Int) (1600 : Int)).toNat))) (
       .ok false) (
       D_l0 r3 (0 : Int) (0 : Int))) (
      D_l0 r3 (0 : Int) (0 : Int)))))
noncomputable def F_aqueductlaw10_HdrOnly.S (k : Nat) (a0 : Int × Int × Int × Int × Int × Int × Int) (a1 : ByteArray) : O Bool := F_aqueductlaw10_HdrOnly.top k a0 a1 ((fun (r3 : ByteArray × Int) (v9 : Int) (v10 : Int) => F_aqueductlaw10_HdrOnly.l0 k a1 r3 k v9 v10))
theorem F_aqueductlaw10_HdrOnly.eq (k : Nat) (a0 : Int × Int × Int × Int × Int × Int × Int) (a1 : ByteArray) : evFn (T := Bool) tab (calOf (F_aqueductlaw10_HdrOnly.cal k)) Go.Proofs.Try.f6 F_aqueductlaw10_HdrOnly.nt k [.agg [.int .i64 a0.1, .int .i64 a0.2.1, .int .i64 a0.2.2.1, .int .i64 a0.2.2.2.1, .int .i64 a0.2.2.2.2.1, .int .i64 a0.2.2.2.2.2.1, .int .i64 a0.2.2.2.2.2.2], .str a1] [] ⟨0, false, []⟩ (fun v st => takeR F_aqueductlaw10_HdrOnly.rt v st.H .ok) panK = F_aqueductlaw10_HdrOnly.S k a0 a1 := by
  have e0 : (fun (r3 : ByteArray × Int) (v9 : Int) (v10 : Int) => loopAt (T := Bool) tab (calOf (F_aqueductlaw10_HdrOnly.cal k)) Go.Proofs.Try.f6.ntmps F_aqueductlaw10_HdrOnly.nt k [] [.r, .r, .r, .r, .r, .r, .l, .r, .b] (bodyOf Go.Proofs.Try.f6) (finK tab Go.Proofs.Try.f6.results.toList (fun v st => takeR F_aqueductlaw10_HdrOnly.rt v st.H .ok) panK) k ⟨[(1, .str (ByteArray.extract a1 0 (min (ByteArray.size a1 : Int) (1600 : Int)).toNat)), (5, .str r3.1), (7, .int .i64 v9), (8, .int .i64 v10)], [], 0, []⟩ ⟨0, true, []⟩) = (fun (r3 : ByteArray × Int) (v9 : Int) (v10 : Int) => F_aqueductlaw10_HdrOnly.l0 k a1 r3 k v9 v10) := by funext r3 v9 v10; exact F_aqueductlaw10_HdrOnly.l0_eq k a1 r3 k v9 v10
  have h : evFn (T := Bool) tab (calOf (F_aqueductlaw10_HdrOnly.cal k)) Go.Proofs.Try.f6 F_aqueductlaw10_HdrOnly.nt k [.agg [.int .i64 a0.1, .int .i64 a0.2.1, .int .i64 a0.2.2.1, .int .i64 a0.2.2.2.1, .int .i64 a0.2.2.2.2.1, .int .i64 a0.2.2.2.2.2.1, .int .i64 a0.2.2.2.2.2.2], .str a1] [] ⟨0, false, []⟩ (fun v st => takeR F_aqueductlaw10_HdrOnly.rt v st.H .ok) panK = F_aqueductlaw10_HdrOnly.top k a0 a1 ((fun (r3 : ByteArray × Int) (v9 : Int) (v10 : Int) => loopAt (T := Bool) tab (calOf (F_aqueductlaw10_HdrOnly.cal k)) Go.Proofs.Try.f6.ntmps F_aqueductlaw10_HdrOnly.nt k [] [.r, .r, .r, .r, .r, .r, .l, .r, .b] (bodyOf Go.Proofs.Try.f6) (finK tab Go.Proofs.Try.f6.results.toList (fun v st => takeR F_aqueductlaw10_HdrOnly.rt v st.H .ok) panK) k ⟨[(1, .str (ByteArray.extract a1 0 (min (ByteArray.size a1 : Int) (1600 : Int)).toNat)), (5, .str r3.1), (7, .int .i64 v9), (8, .int .i64 v10)], [], 0, []⟩ ⟨0, true, []⟩)) := by kernel_rfl
  exact h.trans (by rw [e0]; rfl)
theorem F_aqueductlaw10_HdrOnly.ok (k : Nat) : FnOk Try.prog 6 F_aqueductlaw10_HdrOnly.as F_aqueductlaw10_HdrOnly.rt (fun (x : (Int × Int × Int × Int × Int × Int × Int) × ByteArray) => F_aqueductlaw10_HdrOnly.S k x.1 x.2) :=
  FnOk.of_ev tab_ok (calOf_ok (F_aqueductlaw10_HdrOnly.cal_ok k)) mixed Try.func6 F_aqueductlaw10_HdrOnly.nt k (fun _ => rfl) (fun (x : (Int × Int × Int × Int × Int × Int × Int) × ByteArray) => F_aqueductlaw10_HdrOnly.eq k x.1 x.2)
theorem F_aqueductlaw10_HdrOnly.hd {T : Type} (k : Nat) : HdOk Try.prog 6 (pureN (T := T) F_aqueductlaw10_HdrOnly.as F_aqueductlaw10_HdrOnly.rt (fun (x : (Int × Int × Int × Int × Int × Int × Int) × ByteArray) => F_aqueductlaw10_HdrOnly.S k x.1 x.2)) :=
  pureN_ok rfl rfl (F_aqueductlaw10_HdrOnly.ok k) Try.call6
/-! ### aqueduct/aqueductlaw10.HdrSizes: function 7 -/
noncomputable def F_aqueductlaw10_HdrSizes.as : As := .some (.cons (.leaf .str) (.one (.leaf (.int .i64))))
noncomputable def F_aqueductlaw10_HdrSizes.rt : Rt := .val (.leaf .bool)
noncomputable def F_aqueductlaw10_HdrSizes.nt : Notes := ⟨[], [], [], [], []⟩
noncomputable def F_aqueductlaw10_HdrSizes.cal0 {T : Type} (k : Nat) : List (FuncId × Hd T) := [(10, pureN F_nethdr_Parse.as F_nethdr_Parse.rt (fun (x : ByteArray) => F_nethdr_Parse.S k x)), (14, pureN F_aqueductlaw10_fixed.as F_aqueductlaw10_fixed.rt (fun (_ : Unit) => F_aqueductlaw10_fixed.S k))]
theorem F_aqueductlaw10_HdrSizes.cal0_ok {T : Type} (k : Nat) : HdsOk Try.prog (F_aqueductlaw10_HdrSizes.cal0 (T := T) k) := ⟨F_nethdr_Parse.hd k, F_aqueductlaw10_fixed.hd k, trivial⟩
noncomputable def F_aqueductlaw10_HdrSizes.cal {T : Type} (k : Nat) : List (FuncId × Hd T) := F_aqueductlaw10_HdrSizes.cal0 k
theorem F_aqueductlaw10_HdrSizes.cal_ok {T : Type} (k : Nat) : HdsOk Try.prog (F_aqueductlaw10_HdrSizes.cal (T := T) k) := F_aqueductlaw10_HdrSizes.cal0_ok k
noncomputable def F_aqueductlaw10_HdrSizes.S (k : Nat) (a0 : ByteArray) (a1 : Int) : O Bool :=
  O.chk (decide (0 ≤ (min (ByteArray.size a0 : Int) (1600 : Int)) ∧ (min (ByteArray.size a0 : Int) (1600 : Int)) ≤ (ByteArray.size a0 : Int))) (
   O.bind (F_nethdr_Parse.S k (ByteArray.extract a0 0 (min (ByteArray.size a0 : Int) (1600 : Int)).toNat)) fun r3 =>
   O.chk (decide (0 ≤ (min (ByteArray.size (ByteArray.extract a0 0 (min (ByteArray.size a0 : Int) (1600 : Int)).toNat) : Int) (bAnd .i64 a1 (7 : Int))) ∧ (min (ByteArray.size (ByteArray.extract a0 0 (min (ByteArray.size a0 : Int) (1600 : Int)).toNat) : Int) (bAnd .i64 a1 (7 : Int))) ≤ (ByteArray.size (ByteArray.extract a0 0 (min (ByteArray.size a0 : Int) (1600 : Int)).toNat) : Int))) (
    O.bind (F_nethdr_Parse.S k (ByteArray.extract (ByteArray.extract a0 0 (min (ByteArray.size a0 : Int) (1600 : Int)).toNat) 0 (min (ByteArray.size (ByteArray.extract a0 0 (min (ByteArray.size a0 : Int) (1600 : Int)).toNat) : Int) (bAnd .i64 a1 (7 : Int))).toNat)) fun r7 =>
    O.cond (decide (r3.2.2 ≠ (0 : Int))) (
     O.cond (decide (r3.1.1 = (0 : Int)) && (decide (r3.1.2.1 = (0 : Int)) && (decide (r3.1.2.2.1 = (0 : Int)) && (decide (r3.1.2.2.2.1 = (0 : Int)) && (decide (r3.1.2.2.2.2.1 = (0 : Int)) && (decide (r3.1.2.2.2.2.2.1 = (0 : Int)) && (decide (r3.1.2.2.2.2.2.2 = (0 : Int)) && true))))))) (
      O.cond (decide (r3.2.1 = (⟨#[]⟩ : ByteArray))) (
       O.cond (decide (r7.2.2 = (100 : Int))) (
        O.bind (F_aqueductlaw10_fixed.S k) fun r9 =>
        .ok r9) (
        .ok false)) (
       .ok false)) (
      .ok false)) (
     O.cond (decide ((ByteArray.size r3.2.1 : Int) = (IntKind.i64.wrap ((ByteArray.size (ByteArray.extract a0 0 (min (ByteArray.size a0 : Int) (1600 : Int)).toNat) : Int) - (12 : Int))))) (
      O.chk (decide (0 ≤ (12 : Int) ∧ (12 : Int) ≤ (ByteArray.size (ByteArray.extract a0 0 (min (ByteArray.size a0 : Int) (1600 : Int)).toNat) : Int))) (
       O.cond (decide (r3.2.1 = (ByteArray.extract (ByteArray.extract a0 0 (min (ByteArray.size a0 : Int) (1600 : Int)).toNat) 12 (ByteArray.size (ByteArray.extract a0 0 (min (ByteArray.size a0 : Int) (1600 : Int)).toNat))))) (
        O.cond (decide (r3.1.1 ≤ (3 : Int))) (
         O.cond (decide (r7.2.2 = (100 : Int))) (
          O.bind (F_aqueductlaw10_fixed.S k) fun r11 =>
          .ok r11) (
          .ok false)) (
         .ok false)) (
        .ok false))) (
      .ok false))))
theorem F_aqueductlaw10_HdrSizes.eq (k : Nat) (a0 : ByteArray) (a1 : Int) : evFn (T := Bool) tab (calOf (F_aqueductlaw10_HdrSizes.cal k)) Go.Proofs.Try.f7 F_aqueductlaw10_HdrSizes.nt k [.str a0, .int .i64 a1] [] ⟨0, false, []⟩ (fun v st => takeR F_aqueductlaw10_HdrSizes.rt v st.H .ok) panK = F_aqueductlaw10_HdrSizes.S k a0 a1 := by kernel_rfl
theorem F_aqueductlaw10_HdrSizes.ok (k : Nat) : FnOk Try.prog 7 F_aqueductlaw10_HdrSizes.as F_aqueductlaw10_HdrSizes.rt (fun (x : ByteArray × Int) => F_aqueductlaw10_HdrSizes.S k x.1 x.2) :=
  FnOk.of_ev tab_ok (calOf_ok (F_aqueductlaw10_HdrSizes.cal_ok k)) mixed Try.func7 F_aqueductlaw10_HdrSizes.nt k (fun _ => rfl) (fun (x : ByteArray × Int) => F_aqueductlaw10_HdrSizes.eq k x.1 x.2)
theorem F_aqueductlaw10_HdrSizes.hd {T : Type} (k : Nat) : HdOk Try.prog 7 (pureN (T := T) F_aqueductlaw10_HdrSizes.as F_aqueductlaw10_HdrSizes.rt (fun (x : ByteArray × Int) => F_aqueductlaw10_HdrSizes.S k x.1 x.2)) :=
  pureN_ok rfl rfl (F_aqueductlaw10_HdrSizes.ok k) Try.call7
/-! ### aqueduct/aqueductlaw10.HdrAgain: function 8 -/
noncomputable def F_aqueductlaw10_HdrAgain.as : As := .some (.one (.leaf .str))
noncomputable def F_aqueductlaw10_HdrAgain.rt : Rt := .val (.leaf .bool)
noncomputable def F_aqueductlaw10_HdrAgain.nt : Notes := ⟨[], [], [], [], []⟩
noncomputable def F_aqueductlaw10_HdrAgain.cal0 {T : Type} (k : Nat) : List (FuncId × Hd T) := [(14, pureN F_aqueductlaw10_fixed.as F_aqueductlaw10_fixed.rt (fun (_ : Unit) => F_aqueductlaw10_fixed.S k)), (15, pureN F_nethdr_Finish.as F_nethdr_Finish.rt (fun (x : (Int × Int × Int × Int × Int × Int × Int) × ByteArray) => F_nethdr_Finish.S k x.1 x.2)), (17, pureN F_nethdr_Offload.as F_nethdr_Offload.rt (fun (x : ByteArray) => F_nethdr_Offload.S k x))]
theorem F_aqueductlaw10_HdrAgain.cal0_ok {T : Type} (k : Nat) : HdsOk Try.prog (F_aqueductlaw10_HdrAgain.cal0 (T := T) k) := ⟨F_aqueductlaw10_fixed.hd k, F_nethdr_Finish.hd k, F_nethdr_Offload.hd k, trivial⟩
noncomputable def F_aqueductlaw10_HdrAgain.cal {T : Type} (k : Nat) : List (FuncId × Hd T) := F_aqueductlaw10_HdrAgain.cal0 k
theorem F_aqueductlaw10_HdrAgain.cal_ok {T : Type} (k : Nat) : HdsOk Try.prog (F_aqueductlaw10_HdrAgain.cal (T := T) k) := F_aqueductlaw10_HdrAgain.cal0_ok k
noncomputable def F_aqueductlaw10_HdrAgain.S (k : Nat) (a0 : ByteArray) : O Bool :=
  O.chk (decide (0 ≤ (min (ByteArray.size a0 : Int) (1600 : Int)) ∧ (min (ByteArray.size a0 : Int) (1600 : Int)) ≤ (ByteArray.size a0 : Int))) (
   O.bind (F_nethdr_Offload.S k (ByteArray.extract a0 0 (min (ByteArray.size a0 : Int) (1600 : Int)).toNat)) fun r3 =>
   O.bind (F_nethdr_Finish.S k r3.1 r3.2) fun r7 =>
   O.bind (F_nethdr_Offload.S k r7.1) fun r9 =>
   O.bind (F_nethdr_Finish.S k r9.1 r9.2) fun r11 =>
   O.cond (decide (r7.2 = (0 : Int))) (
    O.cond (decide (r11.2 = (0 : Int))) (
     O.cond (decide (r7.1 = (ByteArray.extract a0 0 (min (ByteArray.size a0 : Int) (1600 : Int)).toNat))) (
      O.cond (decide (r11.1 = (ByteArray.extract a0 0 (min (ByteArray.size a0 : Int) (1600 : Int)).toNat))) (
       O.cond (decide (r9.1.1 = r3.1.1) && (decide (r9.1.2.1 = r3.1.2.1) && (decide (r9.1.2.2.1 = r3.1.2.2.1) && (decide (r9.1.2.2.2.1 = r3.1.2.2.2.1) && (decide (r9.1.2.2.2.2.1 = r3.1.2.2.2.2.1) && (decide (r9.1.2.2.2.2.2.1 = r3.1.2.2.2.2.2.1) && (decide (r9.1.2.2.2.2.2.2 = r3.1.2.2.2.2.2.2) && true))))))) (
        O.cond (decide (r9.2 = r3.2)) (
         O.bind (F_aqueductlaw10_fixed.S k) fun r13 =>
         .ok r13) (
         .ok false)) (
        .ok false)) (
       .ok false)) (
      .ok false)) (
     .ok false)) (
    .ok false))
theorem F_aqueductlaw10_HdrAgain.eq (k : Nat) (a0 : ByteArray) : evFn (T := Bool) tab (calOf (F_aqueductlaw10_HdrAgain.cal k)) Go.Proofs.Try.f8 F_aqueductlaw10_HdrAgain.nt k [.str a0] [] ⟨0, false, []⟩ (fun v st => takeR F_aqueductlaw10_HdrAgain.rt v st.H .ok) panK = F_aqueductlaw10_HdrAgain.S k a0 := by kernel_rfl
theorem F_aqueductlaw10_HdrAgain.ok (k : Nat) : FnOk Try.prog 8 F_aqueductlaw10_HdrAgain.as F_aqueductlaw10_HdrAgain.rt (fun (x : ByteArray) => F_aqueductlaw10_HdrAgain.S k x) :=
  FnOk.of_ev tab_ok (calOf_ok (F_aqueductlaw10_HdrAgain.cal_ok k)) mixed Try.func8 F_aqueductlaw10_HdrAgain.nt k (fun _ => rfl) (fun (x : ByteArray) => F_aqueductlaw10_HdrAgain.eq k x)
theorem F_aqueductlaw10_HdrAgain.hd {T : Type} (k : Nat) : HdOk Try.prog 8 (pureN (T := T) F_aqueductlaw10_HdrAgain.as F_aqueductlaw10_HdrAgain.rt (fun (x : ByteArray) => F_aqueductlaw10_HdrAgain.S k x)) :=
  pureN_ok rfl rfl (F_aqueductlaw10_HdrAgain.ok k) Try.call8
/-! ### aqueduct/segment.Build: function 19 -/
noncomputable def F_segment_Build.as : As := .some (.cons (.agg (.cons (.leaf (.int .i64)) (.cons (.leaf .str) (.cons (.leaf .str) (.cons (.leaf (.int .i64)) (.cons (.leaf (.int .i64)) (.cons (.leaf (.int .i64)) (.cons (.leaf (.int .i64)) (.cons (.leaf (.int .i64)) (.cons (.leaf (.int .i64)) (.cons (.leaf (.int .i64)) (.cons (.leaf .str) (.one (.leaf .str)))))))))))))) (.one (.agg (.cons (.leaf (.int .i64)) (.cons (.leaf (.int .i64)) (.cons (.leaf (.int .u32)) (.cons (.leaf (.int .u32)) (.cons (.leaf (.int .i64)) (.cons (.leaf (.int .i64)) (.cons (.leaf (.int .i64)) (.cons (.leaf .str) (.cons (.leaf .str) (.one (.leaf .bool))))))))))))))
noncomputable def F_segment_Build.rt : Rt := .tup (.cons (.leaf .str) (.one (.leaf (.int .i64))))
noncomputable def F_segment_Build.nt : Notes := ⟨[], [], [(5, [0, 1, 3, 4, 2, 5, 6, 7, 8])], [], []⟩
noncomputable def F_segment_Build.cal0 {T : Type} (k : Nat) : List (FuncId × Hd T) := [(42, pureE F_segment_bare.as F_segment_bare.rt 102 true [.int .i64] (fun (x : (Int × ByteArray × ByteArray × Int × Int × Int × Int × Int × Int × Int × ByteArray × ByteArray) × (Int × Int × Int × Int × Int × Int × Int × ByteArray × ByteArray × Bool)) => F_segment_bare.S k x.1 x.2)), (43, pureN F_segment_set.as F_segment_set.rt (fun (x : ByteArray × Int × Int) => F_segment_set.S k x.1 x.2.1 x.2.2)), (44, pureN F_segment_place.as F_segment_place.rt (fun (x : Int × ByteArray × ByteArray × Int × Int × Int × Int × Int × Int × Int × ByteArray × ByteArray) => F_segment_place.S k x)), (45, pureN F_segment_sum.as F_segment_sum.rt (fun (x : (Int × ByteArray × ByteArray × Int × Int × Int × Int × Int × Int × Int × ByteArray × ByteArray) × ByteArray) => F_segment_sum.S k x.1 x.2))]
theorem F_segment_Build.cal0_ok {T : Type} (k : Nat) : HdsOk Try.prog (F_segment_Build.cal0 (T := T) k) := ⟨F_segment_bare.hd k, F_segment_set.hd k, F_segment_place.hd k, F_segment_sum.hd k, trivial⟩
noncomputable def F_segment_Build.nt41 : Notes := ⟨[], [], [], [], []⟩
noncomputable def F_segment_Build.cal1 {T : Type} (k : Nat) : List (FuncId × Hd T) := (41, inlH tab (calOf (F_segment_Build.cal0 k)) Go.Proofs.Try.f41 F_segment_Build.nt41 k) :: F_segment_Build.cal0 k
theorem F_segment_Build.cal1_ok {T : Type} (k : Nat) : HdsOk Try.prog (F_segment_Build.cal1 (T := T) k) := ⟨inlH_ok tab_ok (calOf_ok (F_segment_Build.cal0_ok k)) mixed Try.func41 F_segment_Build.nt41 k Try.call41, F_segment_Build.cal0_ok k⟩
noncomputable def F_segment_Build.cal {T : Type} (k : Nat) : List (FuncId × Hd T) := F_segment_Build.cal1 k
theorem F_segment_Build.cal_ok {T : Type} (k : Nat) : HdsOk Try.prog (F_segment_Build.cal (T := T) k) := F_segment_Build.cal1_ok k
noncomputable def F_segment_Build.nt40 : Notes := ⟨[], [], [], [], []⟩
noncomputable def F_segment_Build.D : Dfs := [(40, Go.Proofs.Try.f40, F_segment_Build.nt40)]
theorem F_segment_Build.D_ok : DfsOk Try.prog F_segment_Build.D := ⟨⟨Try.func40, Try.call40⟩, trivial⟩
noncomputable def F_segment_Build.S (k : Nat) (a0 : Int × ByteArray × ByteArray × Int × Int × Int × Int × Int × Int × Int × ByteArray × ByteArray) (a1 : Int × Int × Int × Int × Int × Int × Int × ByteArray × ByteArray × Bool) : O (ByteArray × Int) :=
  O.sum (F_segment_bare.S k a0 a1) (fun e2 =>
   O.cond true (
    .ok ((⟨#[]⟩ : ByteArray), e2)) (
    .ok (ByteArray.empty, (0 : Int)))) fun r1 =>
  O.cond a1.2.2.2.2.2.2.2.2.2 (
   O.cond false (
    .ok ((⟨#[]⟩ : ByteArray), (0 : Int))) (
    .ok (r1, (0 : Int)))) (
   O.bind (F_segment_place.S k a0) fun r3 =>
   O.bind (F_segment_sum.S k a0 r1) fun r5 =>
   O.bind (F_segment_set.S k r1 r3 r5) fun r7 =>
   O.cond false (
    .ok ((⟨#[]⟩ : ByteArray), (0 : Int))) (
    .ok (r7, (0 : Int))))
theorem F_segment_Build.eq (k : Nat) (a0 : Int × ByteArray × ByteArray × Int × Int × Int × Int × Int × Int × Int × ByteArray × ByteArray) (a1 : Int × Int × Int × Int × Int × Int × Int × ByteArray × ByteArray × Bool) : evFnD (T := ByteArray × Int) tab (calOf (F_segment_Build.cal k)) F_segment_Build.D Go.Proofs.Try.f19 F_segment_Build.nt k [.agg [.int .i64 a0.1, .str a0.2.1, .str a0.2.2.1, .int .i64 a0.2.2.2.1, .int .i64 a0.2.2.2.2.1, .int .i64 a0.2.2.2.2.2.1, .int .i64 a0.2.2.2.2.2.2.1, .int .i64 a0.2.2.2.2.2.2.2.1, .int .i64 a0.2.2.2.2.2.2.2.2.1, .int .i64 a0.2.2.2.2.2.2.2.2.2.1, .str a0.2.2.2.2.2.2.2.2.2.2.1, .str a0.2.2.2.2.2.2.2.2.2.2.2], .agg [.int .i64 a1.1, .int .i64 a1.2.1, .int .u32 a1.2.2.1, .int .u32 a1.2.2.2.1, .int .i64 a1.2.2.2.2.1, .int .i64 a1.2.2.2.2.2.1, .int .i64 a1.2.2.2.2.2.2.1, .str a1.2.2.2.2.2.2.2.1, .str a1.2.2.2.2.2.2.2.2.1, .bool a1.2.2.2.2.2.2.2.2.2]] ⟨0, false, []⟩ (fun v st => takeR F_segment_Build.rt v st.H .ok) panK = F_segment_Build.S k a0 a1 := by kernel_rfl
theorem F_segment_Build.ok (k : Nat) : FnOk Try.prog 19 F_segment_Build.as F_segment_Build.rt (fun (x : (Int × ByteArray × ByteArray × Int × Int × Int × Int × Int × Int × Int × ByteArray × ByteArray) × (Int × Int × Int × Int × Int × Int × Int × ByteArray × ByteArray × Bool)) => F_segment_Build.S k x.1 x.2) :=
  FnOk.of_evD tab_ok (calOf_ok (F_segment_Build.cal_ok k)) mixed F_segment_Build.D_ok Try.func19 F_segment_Build.nt k (fun _ => rfl) (fun (x : (Int × ByteArray × ByteArray × Int × Int × Int × Int × Int × Int × Int × ByteArray × ByteArray) × (Int × Int × Int × Int × Int × Int × Int × ByteArray × ByteArray × Bool)) => F_segment_Build.eq k x.1 x.2)
theorem F_segment_Build.hd {T : Type} (k : Nat) : HdOk Try.prog 19 (pureN (T := T) F_segment_Build.as F_segment_Build.rt (fun (x : (Int × ByteArray × ByteArray × Int × Int × Int × Int × Int × Int × Int × ByteArray × ByteArray) × (Int × Int × Int × Int × Int × Int × Int × ByteArray × ByteArray × Bool)) => F_segment_Build.S k x.1 x.2)) :=
  pureN_ok rfl rfl (F_segment_Build.ok k) Try.call19
end Go.Proofs.Ytkmhbpiphepjoaa
