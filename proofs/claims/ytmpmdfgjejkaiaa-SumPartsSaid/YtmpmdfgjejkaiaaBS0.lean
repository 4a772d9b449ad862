/- What this seat's functions come to, as plain functions, each with the proof that the code does just that. Printed by a program of this repo (wip/gen2/gen.py). -/
import Derived.Test.YtmpmdfgjejkaiaaBTab
namespace Go.Proofs.Ytmpmdfgjejkaiaa
open Go.Aq
set_option linter.unusedVariables false
set_option maxRecDepth 100000
/-! ### aqueduct/csum.fold: function 30 -/
noncomputable def F_csum_fold.as : As := .some (.one (.leaf (.int .u32)))
noncomputable def F_csum_fold.rt : Rt := .val (.leaf (.int .u16))
noncomputable def F_csum_fold.nt : Notes := ⟨[(1, [0])], [], [], [], []⟩
noncomputable def F_csum_fold.cal0 {T : Type} (k : Nat) : List (FuncId × Hd T) := []
theorem F_csum_fold.cal0_ok {T : Type} (k : Nat) : HdsOk Try.prog (F_csum_fold.cal0 (T := T) k) := trivial
noncomputable def F_csum_fold.cal {T : Type} (k : Nat) : List (FuncId × Hd T) := F_csum_fold.cal0 k
theorem F_csum_fold.cal_ok {T : Type} (k : Nat) : HdsOk Try.prog (F_csum_fold.cal (T := T) k) := F_csum_fold.cal0_ok k
noncomputable def F_csum_fold.l0_b (k : Nat) (R_l0 : Int → O Int) (v1 : Int) : O Int :=
  O.cond (decide (v1 > (65535 : Int))) (
   R_l0 (IntKind.u32.wrap ((bAnd .u32 v1 (65535 : Int)) + (shR .u32 v1 (16 : Int))))) (
   .ok (IntKind.u16.wrap v1))
noncomputable def F_csum_fold.l0 (k : Nat) : Nat → Int → O Int
  | 0, _ => .no
  | j + 1, v1 => F_csum_fold.l0_b k (F_csum_fold.l0 k j) v1
theorem F_csum_fold.l0_eq (k : Nat) : ∀ (j : Nat) (v1 : Int), loopAt (T := Int) tab (calOf (F_csum_fold.cal k)) Go.Proofs.Try.f30.ntmps F_csum_fold.nt k [] [.r, .l, .b] (bodyOf Go.Proofs.Try.f30) (finK tab Go.Proofs.Try.f30.results.toList (fun v st => takeR F_csum_fold.rt v st.H .ok) panK) j ⟨[(0, .int .u32 v1)], [], 0⟩ ⟨0, true, []⟩ = F_csum_fold.l0 k j v1 := by
  intro j
  induction j with
  | zero => intro v1; rfl
  | succ j ih =>
    intro v1
    have rs : (fun v1' => loopAt (T := Int) tab (calOf (F_csum_fold.cal k)) Go.Proofs.Try.f30.ntmps F_csum_fold.nt k [] [.r, .l, .b] (bodyOf Go.Proofs.Try.f30) (finK tab Go.Proofs.Try.f30.results.toList (fun v st => takeR F_csum_fold.rt v st.H .ok) panK) j ⟨[(0, .int .u32 v1')], [], 0⟩ ⟨0, true, []⟩) = F_csum_fold.l0 k j := by funext v1'; exact ih v1'
    have h : loopAt (T := Int) tab (calOf (F_csum_fold.cal k)) Go.Proofs.Try.f30.ntmps F_csum_fold.nt k [] [.r, .l, .b] (bodyOf Go.Proofs.Try.f30) (finK tab Go.Proofs.Try.f30.results.toList (fun v st => takeR F_csum_fold.rt v st.H .ok) panK) (j + 1) ⟨[(0, .int .u32 v1)], [], 0⟩ ⟨0, true, []⟩ = F_csum_fold.l0_b k ((fun v1' => loopAt (T := Int) tab (calOf (F_csum_fold.cal k)) Go.Proofs.Try.f30.ntmps F_csum_fold.nt k [] [.r, .l, .b] (bodyOf Go.Proofs.Try.f30) (finK tab Go.Proofs.Try.f30.results.toList (fun v st => takeR F_csum_fold.rt v st.H .ok) panK) j ⟨[(0, .int .u32 v1')], [], 0⟩ ⟨0, true, []⟩)) v1 := by kernel_rfl
    exact h.trans (by rw [rs]; rfl)
noncomputable def F_csum_fold.top (k : Nat) (a0 : Int) (D_l0 : Int → O Int) : O Int :=
  D_l0 a0
noncomputable def F_csum_fold.S (k : Nat) (a0 : Int) : O Int := F_csum_fold.top k a0 ((fun v1 => F_csum_fold.l0 k k v1))
theorem F_csum_fold.eq (k : Nat) (a0 : Int) : evFn (T := Int) tab (calOf (F_csum_fold.cal k)) Go.Proofs.Try.f30 F_csum_fold.nt k [.int .u32 a0] ⟨0, false, []⟩ (fun v st => takeR F_csum_fold.rt v st.H .ok) panK = F_csum_fold.S k a0 := by
  have e0 : (fun v1 => loopAt (T := Int) tab (calOf (F_csum_fold.cal k)) Go.Proofs.Try.f30.ntmps F_csum_fold.nt k [] [.r, .l, .b] (bodyOf Go.Proofs.Try.f30) (finK tab Go.Proofs.Try.f30.results.toList (fun v st => takeR F_csum_fold.rt v st.H .ok) panK) k ⟨[(0, .int .u32 v1)], [], 0⟩ ⟨0, true, []⟩) = (fun v1 => F_csum_fold.l0 k k v1) := by funext v1; exact F_csum_fold.l0_eq k k v1
  have h : evFn (T := Int) tab (calOf (F_csum_fold.cal k)) Go.Proofs.Try.f30 F_csum_fold.nt k [.int .u32 a0] ⟨0, false, []⟩ (fun v st => takeR F_csum_fold.rt v st.H .ok) panK = F_csum_fold.top k a0 ((fun v1 => loopAt (T := Int) tab (calOf (F_csum_fold.cal k)) Go.Proofs.Try.f30.ntmps F_csum_fold.nt k [] [.r, .l, .b] (bodyOf Go.Proofs.Try.f30) (finK tab Go.Proofs.Try.f30.results.toList (fun v st => takeR F_csum_fold.rt v st.H .ok) panK) k ⟨[(0, .int .u32 v1)], [], 0⟩ ⟨0, true, []⟩)) := by kernel_rfl
  exact h.trans (by rw [e0]; rfl)
theorem F_csum_fold.ok (k : Nat) : FnOk Try.prog 30 F_csum_fold.as F_csum_fold.rt (fun (x : Int) => F_csum_fold.S k x) :=
  FnOk.of_ev tab_ok (calOf_ok (F_csum_fold.cal_ok k)) mixed Try.func30 F_csum_fold.nt k (fun _ => rfl) (fun (x : Int) => F_csum_fold.eq k x)
theorem F_csum_fold.hd {T : Type} (k : Nat) : HdOk Try.prog 30 (pureH (T := T) F_csum_fold.as F_csum_fold.rt (fun (x : Int) => F_csum_fold.S k x)) :=
  pureH_ok rfl rfl (F_csum_fold.ok k) Try.call30
/-! ### aqueduct/csum.On: function 15 -/
noncomputable def F_csum_On.as : As := .some (.cons (.leaf (.int .u16)) (.one (.leaf .str)))
noncomputable def F_csum_On.rt : Rt := .val (.leaf (.int .u16))
noncomputable def F_csum_On.nt : Notes := ⟨[(4, [1, 5, 6, 12, 13])], [], [(6, [0, 1, 2, 3, 4, 5, 6, 7, 8, 9, 10, 11, 12, 13, 14])], [], []⟩
noncomputable def F_csum_On.cal0 {T : Type} (k : Nat) : List (FuncId × Hd T) := [(30, pureH F_csum_fold.as F_csum_fold.rt (fun (x : Int) => F_csum_fold.S k x))]
theorem F_csum_On.cal0_ok {T : Type} (k : Nat) : HdsOk Try.prog (F_csum_On.cal0 (T := T) k) := ⟨F_csum_fold.hd k, trivial⟩
noncomputable def F_csum_On.nt29 : Notes := ⟨[], [], [], [], []⟩
noncomputable def F_csum_On.cal1 {T : Type} (k : Nat) : List (FuncId × Hd T) := (29, inlH tab (calOf (F_csum_On.cal0 k)) Go.Proofs.Try.f29 F_csum_On.nt29 k) :: F_csum_On.cal0 k
theorem F_csum_On.cal1_ok {T : Type} (k : Nat) : HdsOk Try.prog (F_csum_On.cal1 (T := T) k) := ⟨inlH_ok tab_ok (calOf_ok (F_csum_On.cal0_ok k)) mixed Try.func29 F_csum_On.nt29 k Try.call29, F_csum_On.cal0_ok k⟩
noncomputable def F_csum_On.cal {T : Type} (k : Nat) : List (FuncId × Hd T) := F_csum_On.cal1 k
theorem F_csum_On.cal_ok {T : Type} (k : Nat) : HdsOk Try.prog (F_csum_On.cal (T := T) k) := F_csum_On.cal1_ok k
noncomputable def F_csum_On.l0_b (k : Nat) (a1 : ByteArray) (R_l0 : Int → Int → O Int) (v3 : Int) (v4 : Int) : O Int :=
  O.cond (decide (v3 < (IntKind.i64.wrap (Int.tdiv (ByteArray.size a1 : Int) (2 : Int))))) (
   O.chk (decide (0 ≤ (IntKind.i64.wrap ((2 : Int) * v3)) ∧ (IntKind.i64.wrap ((2 : Int) * v3)) < (ByteArray.size a1 : Int))) (
    O.chk (decide (0 ≤ (IntKind.i64.wrap ((IntKind.i64.wrap ((2 : Int) * v3)) + (1 : Int))) ∧ (IntKind.i64.wrap ((IntKind.i64.wrap ((2 : Int) * v3)) + (1 : Int))) < (ByteArray.size a1 : Int))) (
     O.bind (F_csum_fold.S k (IntKind.u32.wrap ((IntKind.u32.wrap v4) + (bOr .u32 (shL .u32 (IntKind.u32.wrap (bt a1 (IntKind.i64.wrap ((2 : Int) * v3)))) (8 : Int)) (IntKind.u32.wrap (bt a1 (IntKind.i64.wrap ((IntKind.i64.wrap ((2 : Int) * v3)) + (1 : Int))))))))) fun r7 =>
     R_l0 (IntKind.i64.wrap (v3 + (1 : Int))) r7))) (
   O.cond (decide ((Int.tmod (ByteArray.size a1 : Int) (2 : Int)) = (1 : Int))) (
    O.chk (decide (0 ≤ (IntKind.i64.wrap ((ByteArray.size a1 : Int) - (1 : Int))) ∧ (IntKind.i64.wrap ((ByteArray.size a1 : Int) - (1 : Int))) < (ByteArray.size a1 : Int))) (
     O.bind (F_csum_fold.S k (IntKind.u32.wrap ((IntKind.u32.wrap v4) + (shL .u32 (IntKind.u32.wrap (bt a1 (IntKind.i64.wrap ((ByteArray.size a1 : Int) - (1 : Int))))) (8 : Int))))) fun r9 =>
     .ok r9)) (
    .ok v4))
noncomputable def F_csum_On.l0 (k : Nat) (a1 : ByteArray) : Nat → Int → Int → O Int
  | 0, _, _ => .no
  | j + 1, v3, v4 => F_csum_On.l0_b k a1 (F_csum_On.l0 k a1 j) v3 v4
theorem F_csum_On.l0_eq (k : Nat) (a1 : ByteArray) : ∀ (j : Nat) (v3 : Int) (v4 : Int), loopAt (T := Int) tab (calOf (F_csum_On.cal k)) Go.Proofs.Try.f15.ntmps F_csum_On.nt k [] [.r, .r, .r, .l, .r, .b] (bodyOf Go.Proofs.Try.f15) (finK tab Go.Proofs.Try.f15.results.toList (fun v st => takeR F_csum_On.rt v st.H .ok) panK) j ⟨[(1, .str a1), (5, .ptr 0 0), (6, .clo 29 [.ptr 0 0]), (12, .int .i64 (IntKind.i64.wrap (Int.tdiv (ByteArray.size a1 : Int) (2 : Int)))), (13, .int .i64 v3)], [], 0⟩ ⟨1, true, [(0, .cells 22 [.int .u16 v4])]⟩ = F_csum_On.l0 k a1 j v3 v4 := by
  intro j
  induction j with
  | zero => intro v3 v4; rfl
  | succ j ih =>
    intro v3 v4
    have rs : (fun v3' v4' => loopAt (T := Int) tab (calOf (F_csum_On.cal k)) Go.Proofs.Try.f15.ntmps F_csum_On.nt k [] [.r, .r, .r, .l, .r, .b] (bodyOf Go.Proofs.Try.f15) (finK tab Go.Proofs.Try.f15.results.toList (fun v st => takeR F_csum_On.rt v st.H .ok) panK) j ⟨[(1, .str a1), (5, .ptr 0 0), (6, .clo 29 [.ptr 0 0]), (12, .int .i64 (IntKind.i64.wrap (Int.tdiv (ByteArray.size a1 : Int) (2 : Int)))), (13, .int .i64 v3')], [], 0⟩ ⟨1, true, [(0, .cells 22 [.int .u16 v4'])]⟩) = F_csum_On.l0 k a1 j := by funext v3' v4'; exact ih v3' v4'
    have h : loopAt (T := Int) tab (calOf (F_csum_On.cal k)) Go.Proofs.Try.f15.ntmps F_csum_On.nt k [] [.r, .r, .r, .l, .r, .b] (bodyOf Go.Proofs.Try.f15) (finK tab Go.Proofs.Try.f15.results.toList (fun v st => takeR F_csum_On.rt v st.H .ok) panK) (j + 1) ⟨[(1, .str a1), (5, .ptr 0 0), (6, .clo 29 [.ptr 0 0]), (12, .int .i64 (IntKind.i64.wrap (Int.tdiv (ByteArray.size a1 : Int) (2 : Int)))), (13, .int .i64 v3)], [], 0⟩ ⟨1, true, [(0, .cells 22 [.int .u16 v4])]⟩ = F_csum_On.l0_b k a1 ((fun v3' v4' => loopAt (T := Int) tab (calOf (F_csum_On.cal k)) Go.Proofs.Try.f15.ntmps F_csum_On.nt k [] [.r, .r, .r, .l, .r, .b] (bodyOf Go.Proofs.Try.f15) (finK tab Go.Proofs.Try.f15.results.toList (fun v st => takeR F_csum_On.rt v st.H .ok) panK) j ⟨[(1, .str a1), (5, .ptr 0 0), (6, .clo 29 [.ptr 0 0]), (12, .int .i64 (IntKind.i64.wrap (Int.tdiv (ByteArray.size a1 : Int) (2 : Int)))), (13, .int .i64 v3')], [], 0⟩ ⟨1, true, [(0, .cells 22 [.int .u16 v4'])]⟩)) v3 v4 := by kernel_rfl
    exact h.trans (by rw [rs]; rfl)
noncomputable def F_csum_On.top (k : Nat) (a0 : Int) (a1 : ByteArray) (D_l0 : ByteArray → Int → Int → O Int) : O Int :=
  D_l0 a1 (0 : Int) a0
noncomputable def F_csum_On.S (k : Nat) (a0 : Int) (a1 : ByteArray) : O Int := F_csum_On.top k a0 a1 ((fun a1 v3 v4 => F_csum_On.l0 k a1 k v3 v4))
theorem F_csum_On.eq (k : Nat) (a0 : Int) (a1 : ByteArray) : evFn (T := Int) tab (calOf (F_csum_On.cal k)) Go.Proofs.Try.f15 F_csum_On.nt k [.int .u16 a0, .str a1] ⟨0, false, []⟩ (fun v st => takeR F_csum_On.rt v st.H .ok) panK = F_csum_On.S k a0 a1 := by
  have e0 : (fun a1 v3 v4 => loopAt (T := Int) tab (calOf (F_csum_On.cal k)) Go.Proofs.Try.f15.ntmps F_csum_On.nt k [] [.r, .r, .r, .l, .r, .b] (bodyOf Go.Proofs.Try.f15) (finK tab Go.Proofs.Try.f15.results.toList (fun v st => takeR F_csum_On.rt v st.H .ok) panK) k ⟨[(1, .str a1), (5, .ptr 0 0), (6, .clo 29 [.ptr 0 0]), (12, .int .i64 (IntKind.i64.wrap (Int.tdiv (ByteArray.size a1 : Int) (2 : Int)))), (13, .int .i64 v3)], [], 0⟩ ⟨1, true, [(0, .cells 22 [.int .u16 v4])]⟩) = (fun a1 v3 v4 => F_csum_On.l0 k a1 k v3 v4) := by funext a1 v3 v4; exact F_csum_On.l0_eq k a1 k v3 v4
  have h : evFn (T := Int) tab (calOf (F_csum_On.cal k)) Go.Proofs.Try.f15 F_csum_On.nt k [.int .u16 a0, .str a1] ⟨0, false, []⟩ (fun v st => takeR F_csum_On.rt v st.H .ok) panK = F_csum_On.top k a0 a1 ((fun a1 v3 v4 => loopAt (T := Int) tab (calOf (F_csum_On.cal k)) Go.Proofs.Try.f15.ntmps F_csum_On.nt k [] [.r, .r, .r, .l, .r, .b] (bodyOf Go.Proofs.Try.f15) (finK tab Go.Proofs.Try.f15.results.toList (fun v st => takeR F_csum_On.rt v st.H .ok) panK) k ⟨[(1, .str a1), (5, .ptr 0 0), (6, .clo 29 [.ptr 0 0]), (12, .int .i64 (IntKind.i64.wrap (Int.tdiv (ByteArray.size a1 : Int) (2 : Int)))), (13, .int .i64 v3)], [], 0⟩ ⟨1, true, [(0, .cells 22 [.int .u16 v4])]⟩)) := by kernel_rfl
  exact h.trans (by rw [e0]; rfl)
theorem F_csum_On.ok (k : Nat) : FnOk Try.prog 15 F_csum_On.as F_csum_On.rt (fun (x : Int × ByteArray) => F_csum_On.S k x.1 x.2) :=
  FnOk.of_ev tab_ok (calOf_ok (F_csum_On.cal_ok k)) mixed Try.func15 F_csum_On.nt k (fun _ => rfl) (fun (x : Int × ByteArray) => F_csum_On.eq k x.1 x.2)
theorem F_csum_On.hd {T : Type} (k : Nat) : HdOk Try.prog 15 (pureH (T := T) F_csum_On.as F_csum_On.rt (fun (x : Int × ByteArray) => F_csum_On.S k x.1 x.2)) :=
  pureH_ok rfl rfl (F_csum_On.ok k) Try.call15
/-! ### aqueduct/csum.Sum: function 17 -/
noncomputable def F_csum_Sum.as : As := .some (.one (.leaf .str))
noncomputable def F_csum_Sum.rt : Rt := .val (.leaf (.int .u16))
noncomputable def F_csum_Sum.nt : Notes := ⟨[], [], [], [], []⟩
noncomputable def F_csum_Sum.cal0 {T : Type} (k : Nat) : List (FuncId × Hd T) := [(15, pureH F_csum_On.as F_csum_On.rt (fun (x : Int × ByteArray) => F_csum_On.S k x.1 x.2))]
theorem F_csum_Sum.cal0_ok {T : Type} (k : Nat) : HdsOk Try.prog (F_csum_Sum.cal0 (T := T) k) := ⟨F_csum_On.hd k, trivial⟩
noncomputable def F_csum_Sum.cal {T : Type} (k : Nat) : List (FuncId × Hd T) := F_csum_Sum.cal0 k
theorem F_csum_Sum.cal_ok {T : Type} (k : Nat) : HdsOk Try.prog (F_csum_Sum.cal (T := T) k) := F_csum_Sum.cal0_ok k
noncomputable def F_csum_Sum.S (k : Nat) (a0 : ByteArray) : O Int :=
  O.bind (F_csum_On.S k (0 : Int) a0) fun r1 =>
  .ok (IntKind.u16.wrap ((65535 : Int) - r1))
theorem F_csum_Sum.eq (k : Nat) (a0 : ByteArray) : evFn (T := Int) tab (calOf (F_csum_Sum.cal k)) Go.Proofs.Try.f17 F_csum_Sum.nt k [.str a0] ⟨0, false, []⟩ (fun v st => takeR F_csum_Sum.rt v st.H .ok) panK = F_csum_Sum.S k a0 := by kernel_rfl
theorem F_csum_Sum.ok (k : Nat) : FnOk Try.prog 17 F_csum_Sum.as F_csum_Sum.rt (fun (x : ByteArray) => F_csum_Sum.S k x) :=
  FnOk.of_ev tab_ok (calOf_ok (F_csum_Sum.cal_ok k)) mixed Try.func17 F_csum_Sum.nt k (fun _ => rfl) (fun (x : ByteArray) => F_csum_Sum.eq k x)
theorem F_csum_Sum.hd {T : Type} (k : Nat) : HdOk Try.prog 17 (pureH (T := T) F_csum_Sum.as F_csum_Sum.rt (fun (x : ByteArray) => F_csum_Sum.S k x)) :=
  pureH_ok rfl rfl (F_csum_Sum.ok k) Try.call17
/-! ### aqueduct/csum.Right: function 19 -/
noncomputable def F_csum_Right.as : As := .some (.one (.leaf .str))
noncomputable def F_csum_Right.rt : Rt := .val (.leaf .bool)
noncomputable def F_csum_Right.nt : Notes := ⟨[], [], [], [], []⟩
noncomputable def F_csum_Right.cal0 {T : Type} (k : Nat) : List (FuncId × Hd T) := [(15, pureH F_csum_On.as F_csum_On.rt (fun (x : Int × ByteArray) => F_csum_On.S k x.1 x.2))]
theorem F_csum_Right.cal0_ok {T : Type} (k : Nat) : HdsOk Try.prog (F_csum_Right.cal0 (T := T) k) := ⟨F_csum_On.hd k, trivial⟩
noncomputable def F_csum_Right.cal {T : Type} (k : Nat) : List (FuncId × Hd T) := F_csum_Right.cal0 k
theorem F_csum_Right.cal_ok {T : Type} (k : Nat) : HdsOk Try.prog (F_csum_Right.cal (T := T) k) := F_csum_Right.cal0_ok k
noncomputable def F_csum_Right.S (k : Nat) (a0 : ByteArray) : O Bool :=
  O.bind (F_csum_On.S k (0 : Int) a0) fun r1 =>
  .ok (decide (r1 = (65535 : Int)))
theorem F_csum_Right.eq (k : Nat) (a0 : ByteArray) : evFn (T := Bool) tab (calOf (F_csum_Right.cal k)) Go.Proofs.Try.f19 F_csum_Right.nt k [.str a0] ⟨0, false, []⟩ (fun v st => takeR F_csum_Right.rt v st.H .ok) panK = F_csum_Right.S k a0 := by kernel_rfl
theorem F_csum_Right.ok (k : Nat) : FnOk Try.prog 19 F_csum_Right.as F_csum_Right.rt (fun (x : ByteArray) => F_csum_Right.S k x) :=
  FnOk.of_ev tab_ok (calOf_ok (F_csum_Right.cal_ok k)) mixed Try.func19 F_csum_Right.nt k (fun _ => rfl) (fun (x : ByteArray) => F_csum_Right.eq k x)
theorem F_csum_Right.hd {T : Type} (k : Nat) : HdOk Try.prog 19 (pureH (T := T) F_csum_Right.as F_csum_Right.rt (fun (x : ByteArray) => F_csum_Right.S k x)) :=
  pureH_ok rfl rfl (F_csum_Right.ok k) Try.call19
/-! ### aqueduct/csum.Update: function 20 -/
noncomputable def F_csum_Update.as : As := .some (.cons (.leaf (.int .u16)) (.cons (.leaf (.int .u16)) (.one (.leaf (.int .u16)))))
noncomputable def F_csum_Update.rt : Rt := .val (.leaf (.int .u16))
noncomputable def F_csum_Update.nt : Notes := ⟨[], [], [], [], []⟩
noncomputable def F_csum_Update.cal0 {T : Type} (k : Nat) : List (FuncId × Hd T) := [(30, pureH F_csum_fold.as F_csum_fold.rt (fun (x : Int) => F_csum_fold.S k x))]
theorem F_csum_Update.cal0_ok {T : Type} (k : Nat) : HdsOk Try.prog (F_csum_Update.cal0 (T := T) k) := ⟨F_csum_fold.hd k, trivial⟩
noncomputable def F_csum_Update.cal {T : Type} (k : Nat) : List (FuncId × Hd T) := F_csum_Update.cal0 k
theorem F_csum_Update.cal_ok {T : Type} (k : Nat) : HdsOk Try.prog (F_csum_Update.cal (T := T) k) := F_csum_Update.cal0_ok k
noncomputable def F_csum_Update.S (k : Nat) (a0 : Int) (a1 : Int) (a2 : Int) : O Int :=
  O.bind (F_csum_fold.S k (IntKind.u32.wrap ((IntKind.u32.wrap (IntKind.u16.wrap ((65535 : Int) - a0))) + (IntKind.u32.wrap (IntKind.u16.wrap ((65535 : Int) - a1)))))) fun r1 =>
  O.bind (F_csum_fold.S k (IntKind.u32.wrap ((IntKind.u32.wrap r1) + (IntKind.u32.wrap a2)))) fun r3 =>
  .ok (IntKind.u16.wrap ((65535 : Int) - r3))
theorem F_csum_Update.eq (k : Nat) (a0 : Int) (a1 : Int) (a2 : Int) : evFn (T := Int) tab (calOf (F_csum_Update.cal k)) Go.Proofs.Try.f20 F_csum_Update.nt k [.int .u16 a0, .int .u16 a1, .int .u16 a2] ⟨0, false, []⟩ (fun v st => takeR F_csum_Update.rt v st.H .ok) panK = F_csum_Update.S k a0 a1 a2 := by kernel_rfl
theorem F_csum_Update.ok (k : Nat) : FnOk Try.prog 20 F_csum_Update.as F_csum_Update.rt (fun (x : Int × Int × Int) => F_csum_Update.S k x.1 x.2.1 x.2.2) :=
  FnOk.of_ev tab_ok (calOf_ok (F_csum_Update.cal_ok k)) mixed Try.func20 F_csum_Update.nt k (fun _ => rfl) (fun (x : Int × Int × Int) => F_csum_Update.eq k x.1 x.2.1 x.2.2)
theorem F_csum_Update.hd {T : Type} (k : Nat) : HdOk Try.prog 20 (pureH (T := T) F_csum_Update.as F_csum_Update.rt (fun (x : Int × Int × Int) => F_csum_Update.S k x.1 x.2.1 x.2.2)) :=
  pureH_ok rfl rfl (F_csum_Update.ok k) Try.call20
/-! ### aqueduct/csum.Join: function 22 -/
noncomputable def F_csum_Join.as : As := .some (.cons (.leaf (.int .u16)) (.cons (.leaf (.int .u16)) (.one (.leaf (.int .i64)))))
noncomputable def F_csum_Join.rt : Rt := .val (.leaf (.int .u16))
noncomputable def F_csum_Join.nt : Notes := ⟨[], [], [], [], []⟩
noncomputable def F_csum_Join.cal0 {T : Type} (k : Nat) : List (FuncId × Hd T) := [(30, pureH F_csum_fold.as F_csum_fold.rt (fun (x : Int) => F_csum_fold.S k x))]
theorem F_csum_Join.cal0_ok {T : Type} (k : Nat) : HdsOk Try.prog (F_csum_Join.cal0 (T := T) k) := ⟨F_csum_fold.hd k, trivial⟩
noncomputable def F_csum_Join.cal {T : Type} (k : Nat) : List (FuncId × Hd T) := F_csum_Join.cal0 k
theorem F_csum_Join.cal_ok {T : Type} (k : Nat) : HdsOk Try.prog (F_csum_Join.cal (T := T) k) := F_csum_Join.cal0_ok k
noncomputable def F_csum_Join.S (k : Nat) (a0 : Int) (a1 : Int) (a2 : Int) : O Int :=
  O.cond (decide ((Int.tmod a2 (2 : Int)) ≠ (0 : Int))) (
   O.bind (F_csum_fold.S k (IntKind.u32.wrap ((IntKind.u32.wrap a0) + (IntKind.u32.wrap (bOr .u16 (shL .u16 a1 (8 : Int)) (shR .u16 a1 (8 : Int))))))) fun r1 =>
   .ok r1) (
   O.bind (F_csum_fold.S k (IntKind.u32.wrap ((IntKind.u32.wrap a0) + (IntKind.u32.wrap a1)))) fun r3 =>
   .ok r3)
theorem F_csum_Join.eq (k : Nat) (a0 : Int) (a1 : Int) (a2 : Int) : evFn (T := Int) tab (calOf (F_csum_Join.cal k)) Go.Proofs.Try.f22 F_csum_Join.nt k [.int .u16 a0, .int .u16 a1, .int .i64 a2] ⟨0, false, []⟩ (fun v st => takeR F_csum_Join.rt v st.H .ok) panK = F_csum_Join.S k a0 a1 a2 := by kernel_rfl
theorem F_csum_Join.ok (k : Nat) : FnOk Try.prog 22 F_csum_Join.as F_csum_Join.rt (fun (x : Int × Int × Int) => F_csum_Join.S k x.1 x.2.1 x.2.2) :=
  FnOk.of_ev tab_ok (calOf_ok (F_csum_Join.cal_ok k)) mixed Try.func22 F_csum_Join.nt k (fun _ => rfl) (fun (x : Int × Int × Int) => F_csum_Join.eq k x.1 x.2.1 x.2.2)
theorem F_csum_Join.hd {T : Type} (k : Nat) : HdOk Try.prog 22 (pureH (T := T) F_csum_Join.as F_csum_Join.rt (fun (x : Int × Int × Int) => F_csum_Join.S k x.1 x.2.1 x.2.2)) :=
  pureH_ok rfl rfl (F_csum_Join.ok k) Try.call22
/-! ### aqueduct/aqueductlaw02.fixed: function 14 -/
noncomputable def F_aqueductlaw02_fixed.as : As := .none
noncomputable def F_aqueductlaw02_fixed.rt : Rt := .val (.leaf .bool)
noncomputable def F_aqueductlaw02_fixed.nt : Notes := ⟨[], [], [], [], []⟩
noncomputable def F_aqueductlaw02_fixed.cal0 {T : Type} (k : Nat) : List (FuncId × Hd T) := [(15, pureH F_csum_On.as F_csum_On.rt (fun (x : Int × ByteArray) => F_csum_On.S k x.1 x.2)), (17, pureH F_csum_Sum.as F_csum_Sum.rt (fun (x : ByteArray) => F_csum_Sum.S k x)), (19, pureH F_csum_Right.as F_csum_Right.rt (fun (x : ByteArray) => F_csum_Right.S k x)), (20, pureH F_csum_Update.as F_csum_Update.rt (fun (x : Int × Int × Int) => F_csum_Update.S k x.1 x.2.1 x.2.2)), (22, pureH F_csum_Join.as F_csum_Join.rt (fun (x : Int × Int × Int) => F_csum_Join.S k x.1 x.2.1 x.2.2))]
theorem F_aqueductlaw02_fixed.cal0_ok {T : Type} (k : Nat) : HdsOk Try.prog (F_aqueductlaw02_fixed.cal0 (T := T) k) := ⟨F_csum_On.hd k, F_csum_Sum.hd k, F_csum_Right.hd k, F_csum_Update.hd k, F_csum_Join.hd k, trivial⟩
noncomputable def F_aqueductlaw02_fixed.cal {T : Type} (k : Nat) : List (FuncId × Hd T) := F_aqueductlaw02_fixed.cal0 k
theorem F_aqueductlaw02_fixed.cal_ok {T : Type} (k : Nat) : HdsOk Try.prog (F_aqueductlaw02_fixed.cal (T := T) k) := F_aqueductlaw02_fixed.cal0_ok k
noncomputable def F_aqueductlaw02_fixed.S (k : Nat) : O Bool :=
  O.bind (F_csum_On.S k (0 : Int) (⟨#[0, 1, 242, 3, 244, 245, 246, 247]⟩ : ByteArray)) fun r1 =>
  O.cond (decide (r1 = (56818 : Int))) (
   O.bind (F_csum_Sum.S k (⟨#[0, 1, 242, 3, 244, 245, 246, 247]⟩ : ByteArray)) fun r3 =>
   O.cond (decide (r3 = (8717 : Int))) (
    O.bind (F_csum_On.S k (0 : Int) (⟨#[97]⟩ : ByteArray)) fun r5 =>
    O.cond (decide (r5 = (24832 : Int))) (
     O.chk (decide (((ByteArray.size (⟨#[0, 1, 242, 3, 244, 245, 246, 247]⟩ : ByteArray) + ByteArray.size (⟨#[34, 13]⟩ : ByteArray) : Nat) : Int) ≤ 9223372036854775807)) (
      O.bind (F_csum_Right.S k ((⟨#[0, 1, 242, 3, 244, 245, 246, 247]⟩ : ByteArray) ++ (⟨#[34, 13]⟩ : ByteArray))) fun r7 =>
      O.cond r7 (
       O.bind (F_csum_Right.S k (⟨#[0, 1, 242, 3, 244, 245, 246, 247]⟩ : ByteArray)) fun r9 =>
       O.cond (!r9) (
        O.bind (F_csum_Update.S k (8717 : Int) (1 : Int) (2 : Int)) fun r11 =>
        O.cond (decide (r11 = (8716 : Int))) (
         O.bind (F_csum_Join.S k (1 : Int) (256 : Int) (3 : Int)) fun r13 =>
         .ok (decide (r13 = (2 : Int)))) (
         .ok false)) (
        .ok false)) (
       .ok false))) (
     .ok false)) (
    .ok false)) (
   .ok false)
theorem F_aqueductlaw02_fixed.eq (k : Nat) : evFn (T := Bool) tab (calOf (F_aqueductlaw02_fixed.cal k)) Go.Proofs.Try.f14 F_aqueductlaw02_fixed.nt k [] ⟨0, false, []⟩ (fun v st => takeR F_aqueductlaw02_fixed.rt v st.H .ok) panK = F_aqueductlaw02_fixed.S k := by kernel_rfl
theorem F_aqueductlaw02_fixed.ok (k : Nat) : FnOk Try.prog 14 F_aqueductlaw02_fixed.as F_aqueductlaw02_fixed.rt (fun (_ : Unit) => F_aqueductlaw02_fixed.S k) :=
  FnOk.of_ev tab_ok (calOf_ok (F_aqueductlaw02_fixed.cal_ok k)) mixed Try.func14 F_aqueductlaw02_fixed.nt k (fun _ => rfl) (fun (_ : Unit) => F_aqueductlaw02_fixed.eq k)
theorem F_aqueductlaw02_fixed.hd {T : Type} (k : Nat) : HdOk Try.prog 14 (pureH (T := T) F_aqueductlaw02_fixed.as F_aqueductlaw02_fixed.rt (fun (_ : Unit) => F_aqueductlaw02_fixed.S k)) :=
  pureH_ok rfl rfl (F_aqueductlaw02_fixed.ok k) Try.call14
/-! ### aqueduct/aqueductref02.Ones: function 31 -/
noncomputable def F_aqueductref02_Ones.as : As := .some (.cons (.leaf (.int .i64)) (.one (.leaf (.int .i64))))
noncomputable def F_aqueductref02_Ones.rt : Rt := .val (.leaf (.int .i64))
noncomputable def F_aqueductref02_Ones.nt : Notes := ⟨[], [], [], [], []⟩
noncomputable def F_aqueductref02_Ones.cal0 {T : Type} (k : Nat) : List (FuncId × Hd T) := []
theorem F_aqueductref02_Ones.cal0_ok {T : Type} (k : Nat) : HdsOk Try.prog (F_aqueductref02_Ones.cal0 (T := T) k) := trivial
noncomputable def F_aqueductref02_Ones.cal {T : Type} (k : Nat) : List (FuncId × Hd T) := F_aqueductref02_Ones.cal0 k
theorem F_aqueductref02_Ones.cal_ok {T : Type} (k : Nat) : HdsOk Try.prog (F_aqueductref02_Ones.cal (T := T) k) := F_aqueductref02_Ones.cal0_ok k
noncomputable def F_aqueductref02_Ones.S (k : Nat) (a0 : Int) (a1 : Int) : O Int :=
  O.cond (decide ((IntKind.i64.wrap (a0 + a1)) ≥ (65536 : Int))) (
   .ok (IntKind.i64.wrap ((IntKind.i64.wrap ((IntKind.i64.wrap (a0 + a1)) - (65536 : Int))) + (1 : Int)))) (
   .ok (IntKind.i64.wrap (a0 + a1)))
theorem F_aqueductref02_Ones.eq (k : Nat) (a0 : Int) (a1 : Int) : evFn (T := Int) tab (calOf (F_aqueductref02_Ones.cal k)) Go.Proofs.Try.f31 F_aqueductref02_Ones.nt k [.int .i64 a0, .int .i64 a1] ⟨0, false, []⟩ (fun v st => takeR F_aqueductref02_Ones.rt v st.H .ok) panK = F_aqueductref02_Ones.S k a0 a1 := by kernel_rfl
theorem F_aqueductref02_Ones.ok (k : Nat) : FnOk Try.prog 31 F_aqueductref02_Ones.as F_aqueductref02_Ones.rt (fun (x : Int × Int) => F_aqueductref02_Ones.S k x.1 x.2) :=
  FnOk.of_ev tab_ok (calOf_ok (F_aqueductref02_Ones.cal_ok k)) mixed Try.func31 F_aqueductref02_Ones.nt k (fun _ => rfl) (fun (x : Int × Int) => F_aqueductref02_Ones.eq k x.1 x.2)
theorem F_aqueductref02_Ones.hd {T : Type} (k : Nat) : HdOk Try.prog 31 (pureH (T := T) F_aqueductref02_Ones.as F_aqueductref02_Ones.rt (fun (x : Int × Int) => F_aqueductref02_Ones.S k x.1 x.2)) :=
  pureH_ok rfl rfl (F_aqueductref02_Ones.ok k) Try.call31
/-! ### aqueduct/aqueductref02.On: function 16 -/
noncomputable def F_aqueductref02_On.as : As := .some (.cons (.leaf (.int .u16)) (.one (.leaf .str)))
noncomputable def F_aqueductref02_On.rt : Rt := .val (.leaf (.int .u16))
noncomputable def F_aqueductref02_On.nt : Notes := ⟨[(3, [1, 5, 6])], [], [], [], []⟩
noncomputable def F_aqueductref02_On.cal0 {T : Type} (k : Nat) : List (FuncId × Hd T) := [(31, pureH F_aqueductref02_Ones.as F_aqueductref02_Ones.rt (fun (x : Int × Int) => F_aqueductref02_Ones.S k x.1 x.2))]
theorem F_aqueductref02_On.cal0_ok {T : Type} (k : Nat) : HdsOk Try.prog (F_aqueductref02_On.cal0 (T := T) k) := ⟨F_aqueductref02_Ones.hd k, trivial⟩
noncomputable def F_aqueductref02_On.cal {T : Type} (k : Nat) : List (FuncId × Hd T) := F_aqueductref02_On.cal0 k
theorem F_aqueductref02_On.cal_ok {T : Type} (k : Nat) : HdsOk Try.prog (F_aqueductref02_On.cal (T := T) k) := F_aqueductref02_On.cal0_ok k
noncomputable def F_aqueductref02_On.l0_b (k : Nat) (a1 : ByteArray) (R_l0 : Int → Int → O Int) (v5 : Int) (v6 : Int) : O Int :=
  O.cond (decide (v6 < (ByteArray.size a1 : Int))) (
   O.chk (decide (0 ≤ v6 ∧ v6 < (ByteArray.size a1 : Int))) (
    O.cond (decide ((IntKind.i64.wrap (v6 + (1 : Int))) < (ByteArray.size a1 : Int))) (
     O.chk (decide (0 ≤ (IntKind.i64.wrap (v6 + (1 : Int))) ∧ (IntKind.i64.wrap (v6 + (1 : Int))) < (ByteArray.size a1 : Int))) (
      O.bind (F_aqueductref02_Ones.S k v5 (IntKind.i64.wrap ((IntKind.i64.wrap ((IntKind.i64.wrap (bt a1 v6)) * (256 : Int))) + (IntKind.i64.wrap (bt a1 (IntKind.i64.wrap (v6 + (1 : Int)))))))) fun r11 =>
      R_l0 r11 (IntKind.i64.wrap (v6 + (2 : Int))))) (
     O.bind (F_aqueductref02_Ones.S k v5 (IntKind.i64.wrap ((IntKind.i64.wrap (bt a1 v6)) * (256 : Int)))) fun r13 =>
     R_l0 r13 (IntKind.i64.wrap (v6 + (2 : Int)))))) (
   .ok (IntKind.u16.wrap v5))
noncomputable def F_aqueductref02_On.l0 (k : Nat) (a1 : ByteArray) : Nat → Int → Int → O Int
  | 0, _, _ => .no
  | j + 1, v5, v6 => F_aqueductref02_On.l0_b k a1 (F_aqueductref02_On.l0 k a1 j) v5 v6
theorem F_aqueductref02_On.l0_eq (k : Nat) (a1 : ByteArray) : ∀ (j : Nat) (v5 : Int) (v6 : Int), loopAt (T := Int) tab (calOf (F_aqueductref02_On.cal k)) Go.Proofs.Try.f16.ntmps F_aqueductref02_On.nt k [] [.r, .r, .l, .r, .b] (bodyOf Go.Proofs.Try.f16) (finK tab Go.Proofs.Try.f16.results.toList (fun v st => takeR F_aqueductref02_On.rt v st.H .ok) panK) j ⟨[(1, .str a1), (5, .int .i64 v5), (6, .int .i64 v6)], [], 0⟩ ⟨0, true, []⟩ = F_aqueductref02_On.l0 k a1 j v5 v6 := by
  intro j
  induction j with
  | zero => intro v5 v6; rfl
  | succ j ih =>
    intro v5 v6
    have rs : (fun v5' v6' => loopAt (T := Int) tab (calOf (F_aqueductref02_On.cal k)) Go.Proofs.Try.f16.ntmps F_aqueductref02_On.nt k [] [.r, .r, .l, .r, .b] (bodyOf Go.Proofs.Try.f16) (finK tab Go.Proofs.Try.f16.results.toList (fun v st => takeR F_aqueductref02_On.rt v st.H .ok) panK) j ⟨[(1, .str a1), (5, .int .i64 v5'), (6, .int .i64 v6')], [], 0⟩ ⟨0, true, []⟩) = F_aqueductref02_On.l0 k a1 j := by funext v5' v6'; exact ih v5' v6'
    have h : loopAt (T := Int) tab (calOf (F_aqueductref02_On.cal k)) Go.Proofs.Try.f16.ntmps F_aqueductref02_On.nt k [] [.r, .r, .l, .r, .b] (bodyOf Go.Proofs.Try.f16) (finK tab Go.Proofs.Try.f16.results.toList (fun v st => takeR F_aqueductref02_On.rt v st.H .ok) panK) (j + 1) ⟨[(1, .str a1), (5, .int .i64 v5), (6, .int .i64 v6)], [], 0⟩ ⟨0, true, []⟩ = F_aqueductref02_On.l0_b k a1 ((fun v5' v6' => loopAt (T := Int) tab (calOf (F_aqueductref02_On.cal k)) Go.Proofs.Try.f16.ntmps F_aqueductref02_On.nt k [] [.r, .r, .l, .r, .b] (bodyOf Go.Proofs.Try.f16) (finK tab Go.Proofs.Try.f16.results.toList (fun v st => takeR F_aqueductref02_On.rt v st.H .ok) panK) j ⟨[(1, .str a1), (5, .int .i64 v5'), (6, .int .i64 v6')], [], 0⟩ ⟨0, true, []⟩)) v5 v6 := by kernel_rfl
    exact h.trans (by rw [rs]; rfl)
noncomputable def F_aqueductref02_On.top (k : Nat) (a0 : Int) (a1 : ByteArray) (D_l0 : ByteArray → Int → Int → O Int) : O Int :=
  D_l0 a1 (IntKind.i64.wrap a0) (0 : Int)
noncomputable def F_aqueductref02_On.S (k : Nat) (a0 : Int) (a1 : ByteArray) : O Int := F_aqueductref02_On.top k a0 a1 ((fun a1 v5 v6 => F_aqueductref02_On.l0 k a1 k v5 v6))
theorem F_aqueductref02_On.eq (k : Nat) (a0 : Int) (a1 : ByteArray) : evFn (T := Int) tab (calOf (F_aqueductref02_On.cal k)) Go.Proofs.Try.f16 F_aqueductref02_On.nt k [.int .u16 a0, .str a1] ⟨0, false, []⟩ (fun v st => takeR F_aqueductref02_On.rt v st.H .ok) panK = F_aqueductref02_On.S k a0 a1 := by
  have e0 : (fun a1 v5 v6 => loopAt (T := Int) tab (calOf (F_aqueductref02_On.cal k)) Go.Proofs.Try.f16.ntmps F_aqueductref02_On.nt k [] [.r, .r, .l, .r, .b] (bodyOf Go.Proofs.Try.f16) (finK tab Go.Proofs.Try.f16.results.toList (fun v st => takeR F_aqueductref02_On.rt v st.H .ok) panK) k ⟨[(1, .str a1), (5, .int .i64 v5), (6, .int .i64 v6)], [], 0⟩ ⟨0, true, []⟩) = (fun a1 v5 v6 => F_aqueductref02_On.l0 k a1 k v5 v6) := by funext a1 v5 v6; exact F_aqueductref02_On.l0_eq k a1 k v5 v6
  have h : evFn (T := Int) tab (calOf (F_aqueductref02_On.cal k)) Go.Proofs.Try.f16 F_aqueductref02_On.nt k [.int .u16 a0, .str a1] ⟨0, false, []⟩ (fun v st => takeR F_aqueductref02_On.rt v st.H .ok) panK = F_aqueductref02_On.top k a0 a1 ((fun a1 v5 v6 => loopAt (T := Int) tab (calOf (F_aqueductref02_On.cal k)) Go.Proofs.Try.f16.ntmps F_aqueductref02_On.nt k [] [.r, .r, .l, .r, .b] (bodyOf Go.Proofs.Try.f16) (finK tab Go.Proofs.Try.f16.results.toList (fun v st => takeR F_aqueductref02_On.rt v st.H .ok) panK) k ⟨[(1, .str a1), (5, .int .i64 v5), (6, .int .i64 v6)], [], 0⟩ ⟨0, true, []⟩)) := by kernel_rfl
  exact h.trans (by rw [e0]; rfl)
theorem F_aqueductref02_On.ok (k : Nat) : FnOk Try.prog 16 F_aqueductref02_On.as F_aqueductref02_On.rt (fun (x : Int × ByteArray) => F_aqueductref02_On.S k x.1 x.2) :=
  FnOk.of_ev tab_ok (calOf_ok (F_aqueductref02_On.cal_ok k)) mixed Try.func16 F_aqueductref02_On.nt k (fun _ => rfl) (fun (x : Int × ByteArray) => F_aqueductref02_On.eq k x.1 x.2)
theorem F_aqueductref02_On.hd {T : Type} (k : Nat) : HdOk Try.prog 16 (pureH (T := T) F_aqueductref02_On.as F_aqueductref02_On.rt (fun (x : Int × ByteArray) => F_aqueductref02_On.S k x.1 x.2)) :=
  pureH_ok rfl rfl (F_aqueductref02_On.ok k) Try.call16
/-! ### aqueduct/aqueductref02.Sum: function 18 -/
noncomputable def F_aqueductref02_Sum.as : As := .some (.one (.leaf .str))
noncomputable def F_aqueductref02_Sum.rt : Rt := .val (.leaf (.int .u16))
noncomputable def F_aqueductref02_Sum.nt : Notes := ⟨[], [], [], [], []⟩
noncomputable def F_aqueductref02_Sum.cal0 {T : Type} (k : Nat) : List (FuncId × Hd T) := [(16, pureH F_aqueductref02_On.as F_aqueductref02_On.rt (fun (x : Int × ByteArray) => F_aqueductref02_On.S k x.1 x.2))]
theorem F_aqueductref02_Sum.cal0_ok {T : Type} (k : Nat) : HdsOk Try.prog (F_aqueductref02_Sum.cal0 (T := T) k) := ⟨F_aqueductref02_On.hd k, trivial⟩
noncomputable def F_aqueductref02_Sum.cal {T : Type} (k : Nat) : List (FuncId × Hd T) := F_aqueductref02_Sum.cal0 k
theorem F_aqueductref02_Sum.cal_ok {T : Type} (k : Nat) : HdsOk Try.prog (F_aqueductref02_Sum.cal (T := T) k) := F_aqueductref02_Sum.cal0_ok k
noncomputable def F_aqueductref02_Sum.S (k : Nat) (a0 : ByteArray) : O Int :=
  O.bind (F_aqueductref02_On.S k (0 : Int) a0) fun r1 =>
  .ok (IntKind.u16.wrap (IntKind.i64.wrap ((65535 : Int) - (IntKind.i64.wrap r1))))
theorem F_aqueductref02_Sum.eq (k : Nat) (a0 : ByteArray) : evFn (T := Int) tab (calOf (F_aqueductref02_Sum.cal k)) Go.Proofs.Try.f18 F_aqueductref02_Sum.nt k [.str a0] ⟨0, false, []⟩ (fun v st => takeR F_aqueductref02_Sum.rt v st.H .ok) panK = F_aqueductref02_Sum.S k a0 := by kernel_rfl
theorem F_aqueductref02_Sum.ok (k : Nat) : FnOk Try.prog 18 F_aqueductref02_Sum.as F_aqueductref02_Sum.rt (fun (x : ByteArray) => F_aqueductref02_Sum.S k x) :=
  FnOk.of_ev tab_ok (calOf_ok (F_aqueductref02_Sum.cal_ok k)) mixed Try.func18 F_aqueductref02_Sum.nt k (fun _ => rfl) (fun (x : ByteArray) => F_aqueductref02_Sum.eq k x)
theorem F_aqueductref02_Sum.hd {T : Type} (k : Nat) : HdOk Try.prog 18 (pureH (T := T) F_aqueductref02_Sum.as F_aqueductref02_Sum.rt (fun (x : ByteArray) => F_aqueductref02_Sum.S k x)) :=
  pureH_ok rfl rfl (F_aqueductref02_Sum.ok k) Try.call18
/-! ### aqueduct/aqueductlaw02.SumOns: function 3 -/
noncomputable def F_aqueductlaw02_SumOns.as : As := .some (.cons (.leaf (.int .u16)) (.one (.leaf .str)))
noncomputable def F_aqueductlaw02_SumOns.rt : Rt := .val (.leaf .bool)
noncomputable def F_aqueductlaw02_SumOns.nt : Notes := ⟨[], [], [], [], []⟩
noncomputable def F_aqueductlaw02_SumOns.cal0 {T : Type} (k : Nat) : List (FuncId × Hd T) := [(14, pureH F_aqueductlaw02_fixed.as F_aqueductlaw02_fixed.rt (fun (_ : Unit) => F_aqueductlaw02_fixed.S k)), (15, pureH F_csum_On.as F_csum_On.rt (fun (x : Int × ByteArray) => F_csum_On.S k x.1 x.2)), (16, pureH F_aqueductref02_On.as F_aqueductref02_On.rt (fun (x : Int × ByteArray) => F_aqueductref02_On.S k x.1 x.2)), (17, pureH F_csum_Sum.as F_csum_Sum.rt (fun (x : ByteArray) => F_csum_Sum.S k x)), (18, pureH F_aqueductref02_Sum.as F_aqueductref02_Sum.rt (fun (x : ByteArray) => F_aqueductref02_Sum.S k x)), (19, pureH F_csum_Right.as F_csum_Right.rt (fun (x : ByteArray) => F_csum_Right.S k x))]
theorem F_aqueductlaw02_SumOns.cal0_ok {T : Type} (k : Nat) : HdsOk Try.prog (F_aqueductlaw02_SumOns.cal0 (T := T) k) := ⟨F_aqueductlaw02_fixed.hd k, F_csum_On.hd k, F_aqueductref02_On.hd k, F_csum_Sum.hd k, F_aqueductref02_Sum.hd k, F_csum_Right.hd k, trivial⟩
noncomputable def F_aqueductlaw02_SumOns.cal {T : Type} (k : Nat) : List (FuncId × Hd T) := F_aqueductlaw02_SumOns.cal0 k
theorem F_aqueductlaw02_SumOns.cal_ok {T : Type} (k : Nat) : HdsOk Try.prog (F_aqueductlaw02_SumOns.cal (T := T) k) := F_aqueductlaw02_SumOns.cal0_ok k
noncomputable def F_aqueductlaw02_SumOns.S (k : Nat) (a0 : Int) (a1 : ByteArray) : O Bool :=
  O.bind (F_aqueductlaw02_fixed.S k) fun r1 =>
  O.cond r1 (
   O.bind (F_csum_On.S k a0 a1) fun r3 =>
   O.bind (F_aqueductref02_On.S k a0 a1) fun r5 =>
   O.cond (decide (r3 = r5)) (
    O.bind (F_csum_Sum.S k a1) fun r7 =>
    O.bind (F_aqueductref02_Sum.S k a1) fun r9 =>
    O.cond (decide (r7 = r9)) (
     O.bind (F_csum_Right.S k a1) fun r11 =>
     O.bind (F_aqueductref02_On.S k (0 : Int) a1) fun r13 =>
     .ok (decide (r11 = (decide (r13 = (65535 : Int)))))) (
     .ok false)) (
    .ok false)) (
   .ok false)
theorem F_aqueductlaw02_SumOns.eq (k : Nat) (a0 : Int) (a1 : ByteArray) : evFn (T := Bool) tab (calOf (F_aqueductlaw02_SumOns.cal k)) Go.Proofs.Try.f3 F_aqueductlaw02_SumOns.nt k [.int .u16 a0, .str a1] ⟨0, false, []⟩ (fun v st => takeR F_aqueductlaw02_SumOns.rt v st.H .ok) panK = F_aqueductlaw02_SumOns.S k a0 a1 := by kernel_rfl
theorem F_aqueductlaw02_SumOns.ok (k : Nat) : FnOk Try.prog 3 F_aqueductlaw02_SumOns.as F_aqueductlaw02_SumOns.rt (fun (x : Int × ByteArray) => F_aqueductlaw02_SumOns.S k x.1 x.2) :=
  FnOk.of_ev tab_ok (calOf_ok (F_aqueductlaw02_SumOns.cal_ok k)) mixed Try.func3 F_aqueductlaw02_SumOns.nt k (fun _ => rfl) (fun (x : Int × ByteArray) => F_aqueductlaw02_SumOns.eq k x.1 x.2)
theorem F_aqueductlaw02_SumOns.hd {T : Type} (k : Nat) : HdOk Try.prog 3 (pureH (T := T) F_aqueductlaw02_SumOns.as F_aqueductlaw02_SumOns.rt (fun (x : Int × ByteArray) => F_aqueductlaw02_SumOns.S k x.1 x.2)) :=
  pureH_ok rfl rfl (F_aqueductlaw02_SumOns.ok k) Try.call3
/-! ### aqueduct/aqueductref02.Update: function 21 -/
noncomputable def F_aqueductref02_Update.as : As := .some (.cons (.leaf (.int .u16)) (.cons (.leaf (.int .u16)) (.one (.leaf (.int .u16)))))
noncomputable def F_aqueductref02_Update.rt : Rt := .val (.leaf (.int .u16))
noncomputable def F_aqueductref02_Update.nt : Notes := ⟨[], [], [], [], []⟩
noncomputable def F_aqueductref02_Update.cal0 {T : Type} (k : Nat) : List (FuncId × Hd T) := [(31, pureH F_aqueductref02_Ones.as F_aqueductref02_Ones.rt (fun (x : Int × Int) => F_aqueductref02_Ones.S k x.1 x.2))]
theorem F_aqueductref02_Update.cal0_ok {T : Type} (k : Nat) : HdsOk Try.prog (F_aqueductref02_Update.cal0 (T := T) k) := ⟨F_aqueductref02_Ones.hd k, trivial⟩
noncomputable def F_aqueductref02_Update.cal {T : Type} (k : Nat) : List (FuncId × Hd T) := F_aqueductref02_Update.cal0 k
theorem F_aqueductref02_Update.cal_ok {T : Type} (k : Nat) : HdsOk Try.prog (F_aqueductref02_Update.cal (T := T) k) := F_aqueductref02_Update.cal0_ok k
noncomputable def F_aqueductref02_Update.S (k : Nat) (a0 : Int) (a1 : Int) (a2 : Int) : O Int :=
  O.bind (F_aqueductref02_Ones.S k (IntKind.i64.wrap ((65535 : Int) - (IntKind.i64.wrap a0))) (IntKind.i64.wrap ((65535 : Int) - (IntKind.i64.wrap a1)))) fun r1 =>
  O.bind (F_aqueductref02_Ones.S k r1 (IntKind.i64.wrap a2)) fun r3 =>
  .ok (IntKind.u16.wrap (IntKind.i64.wrap ((65535 : Int) - r3)))
theorem F_aqueductref02_Update.eq (k : Nat) (a0 : Int) (a1 : Int) (a2 : Int) : evFn (T := Int) tab (calOf (F_aqueductref02_Update.cal k)) Go.Proofs.Try.f21 F_aqueductref02_Update.nt k [.int .u16 a0, .int .u16 a1, .int .u16 a2] ⟨0, false, []⟩ (fun v st => takeR F_aqueductref02_Update.rt v st.H .ok) panK = F_aqueductref02_Update.S k a0 a1 a2 := by kernel_rfl
theorem F_aqueductref02_Update.ok (k : Nat) : FnOk Try.prog 21 F_aqueductref02_Update.as F_aqueductref02_Update.rt (fun (x : Int × Int × Int) => F_aqueductref02_Update.S k x.1 x.2.1 x.2.2) :=
  FnOk.of_ev tab_ok (calOf_ok (F_aqueductref02_Update.cal_ok k)) mixed Try.func21 F_aqueductref02_Update.nt k (fun _ => rfl) (fun (x : Int × Int × Int) => F_aqueductref02_Update.eq k x.1 x.2.1 x.2.2)
theorem F_aqueductref02_Update.hd {T : Type} (k : Nat) : HdOk Try.prog 21 (pureH (T := T) F_aqueductref02_Update.as F_aqueductref02_Update.rt (fun (x : Int × Int × Int) => F_aqueductref02_Update.S k x.1 x.2.1 x.2.2)) :=
  pureH_ok rfl rfl (F_aqueductref02_Update.ok k) Try.call21
/-! ### aqueduct/aqueductref02.Join: function 23 -/
noncomputable def F_aqueductref02_Join.as : As := .some (.cons (.leaf (.int .u16)) (.cons (.leaf (.int .u16)) (.one (.leaf (.int .i64)))))
noncomputable def F_aqueductref02_Join.rt : Rt := .val (.leaf (.int .u16))
noncomputable def F_aqueductref02_Join.nt : Notes := ⟨[], [], [], [], []⟩
noncomputable def F_aqueductref02_Join.cal0 {T : Type} (k : Nat) : List (FuncId × Hd T) := [(31, pureH F_aqueductref02_Ones.as F_aqueductref02_Ones.rt (fun (x : Int × Int) => F_aqueductref02_Ones.S k x.1 x.2))]
theorem F_aqueductref02_Join.cal0_ok {T : Type} (k : Nat) : HdsOk Try.prog (F_aqueductref02_Join.cal0 (T := T) k) := ⟨F_aqueductref02_Ones.hd k, trivial⟩
noncomputable def F_aqueductref02_Join.cal {T : Type} (k : Nat) : List (FuncId × Hd T) := F_aqueductref02_Join.cal0 k
theorem F_aqueductref02_Join.cal_ok {T : Type} (k : Nat) : HdsOk Try.prog (F_aqueductref02_Join.cal (T := T) k) := F_aqueductref02_Join.cal0_ok k
noncomputable def F_aqueductref02_Join.S (k : Nat) (a0 : Int) (a1 : Int) (a2 : Int) : O Int :=
  O.cond (decide ((Int.tmod a2 (2 : Int)) ≠ (0 : Int))) (
   O.bind (F_aqueductref02_Ones.S k (IntKind.i64.wrap a0) (IntKind.i64.wrap ((IntKind.i64.wrap ((Int.tmod (IntKind.i64.wrap a1) (256 : Int)) * (256 : Int))) + (IntKind.i64.wrap (Int.tdiv (IntKind.i64.wrap a1) (256 : Int)))))) fun r1 =>
   .ok (IntKind.u16.wrap r1)) (
   O.bind (F_aqueductref02_Ones.S k (IntKind.i64.wrap a0) (IntKind.i64.wrap a1)) fun r3 =>
   .ok (IntKind.u16.wrap r3))
theorem F_aqueductref02_Join.eq (k : Nat) (a0 : Int) (a1 : Int) (a2 : Int) : evFn (T := Int) tab (calOf (F_aqueductref02_Join.cal k)) Go.Proofs.Try.f23 F_aqueductref02_Join.nt k [.int .u16 a0, .int .u16 a1, .int .i64 a2] ⟨0, false, []⟩ (fun v st => takeR F_aqueductref02_Join.rt v st.H .ok) panK = F_aqueductref02_Join.S k a0 a1 a2 := by kernel_rfl
theorem F_aqueductref02_Join.ok (k : Nat) : FnOk Try.prog 23 F_aqueductref02_Join.as F_aqueductref02_Join.rt (fun (x : Int × Int × Int) => F_aqueductref02_Join.S k x.1 x.2.1 x.2.2) :=
  FnOk.of_ev tab_ok (calOf_ok (F_aqueductref02_Join.cal_ok k)) mixed Try.func23 F_aqueductref02_Join.nt k (fun _ => rfl) (fun (x : Int × Int × Int) => F_aqueductref02_Join.eq k x.1 x.2.1 x.2.2)
theorem F_aqueductref02_Join.hd {T : Type} (k : Nat) : HdOk Try.prog 23 (pureH (T := T) F_aqueductref02_Join.as F_aqueductref02_Join.rt (fun (x : Int × Int × Int) => F_aqueductref02_Join.S k x.1 x.2.1 x.2.2)) :=
  pureH_ok rfl rfl (F_aqueductref02_Join.ok k) Try.call23
/-! ### aqueduct/aqueductlaw02.SumUpdates: function 4 -/
noncomputable def F_aqueductlaw02_SumUpdates.as : As := .some (.cons (.leaf (.int .u16)) (.cons (.leaf (.int .u16)) (.one (.leaf (.int .u16)))))
noncomputable def F_aqueductlaw02_SumUpdates.rt : Rt := .val (.leaf .bool)
noncomputable def F_aqueductlaw02_SumUpdates.nt : Notes := ⟨[], [], [], [], []⟩
noncomputable def F_aqueductlaw02_SumUpdates.cal0 {T : Type} (k : Nat) : List (FuncId × Hd T) := [(14, pureH F_aqueductlaw02_fixed.as F_aqueductlaw02_fixed.rt (fun (_ : Unit) => F_aqueductlaw02_fixed.S k)), (20, pureH F_csum_Update.as F_csum_Update.rt (fun (x : Int × Int × Int) => F_csum_Update.S k x.1 x.2.1 x.2.2)), (21, pureH F_aqueductref02_Update.as F_aqueductref02_Update.rt (fun (x : Int × Int × Int) => F_aqueductref02_Update.S k x.1 x.2.1 x.2.2)), (22, pureH F_csum_Join.as F_csum_Join.rt (fun (x : Int × Int × Int) => F_csum_Join.S k x.1 x.2.1 x.2.2)), (23, pureH F_aqueductref02_Join.as F_aqueductref02_Join.rt (fun (x : Int × Int × Int) => F_aqueductref02_Join.S k x.1 x.2.1 x.2.2))]
theorem F_aqueductlaw02_SumUpdates.cal0_ok {T : Type} (k : Nat) : HdsOk Try.prog (F_aqueductlaw02_SumUpdates.cal0 (T := T) k) := ⟨F_aqueductlaw02_fixed.hd k, F_csum_Update.hd k, F_aqueductref02_Update.hd k, F_csum_Join.hd k, F_aqueductref02_Join.hd k, trivial⟩
noncomputable def F_aqueductlaw02_SumUpdates.cal {T : Type} (k : Nat) : List (FuncId × Hd T) := F_aqueductlaw02_SumUpdates.cal0 k
theorem F_aqueductlaw02_SumUpdates.cal_ok {T : Type} (k : Nat) : HdsOk Try.prog (F_aqueductlaw02_SumUpdates.cal (T := T) k) := F_aqueductlaw02_SumUpdates.cal0_ok k
noncomputable def F_aqueductlaw02_SumUpdates.S (k : Nat) (a0 : Int) (a1 : Int) (a2 : Int) : O Bool :=
  O.bind (F_aqueductlaw02_fixed.S k) fun r1 =>
  O.cond r1 (
   O.bind (F_csum_Update.S k a0 a1 a2) fun r3 =>
   O.bind (F_aqueductref02_Update.S k a0 a1 a2) fun r5 =>
   O.cond (decide (r3 = r5)) (
    O.bind (F_csum_Join.S k a0 a1 (IntKind.i64.wrap a2)) fun r7 =>
    O.bind (F_aqueductref02_Join.S k a0 a1 (IntKind.i64.wrap a2)) fun r9 =>
    O.cond (decide (r7 = r9)) (
     O.bind (F_csum_Join.S k a0 a2 (IntKind.i64.wrap (0 - (IntKind.i64.wrap a1)))) fun r11 =>
     O.bind (F_aqueductref02_Join.S k a0 a2 (IntKind.i64.wrap (0 - (IntKind.i64.wrap a1)))) fun r13 =>
     .ok (decide (r11 = r13))) (
     .ok false)) (
    .ok false)) (
   .ok false)
theorem F_aqueductlaw02_SumUpdates.eq (k : Nat) (a0 : Int) (a1 : Int) (a2 : Int) : evFn (T := Bool) tab (calOf (F_aqueductlaw02_SumUpdates.cal k)) Go.Proofs.Try.f4 F_aqueductlaw02_SumUpdates.nt k [.int .u16 a0, .int .u16 a1, .int .u16 a2] ⟨0, false, []⟩ (fun v st => takeR F_aqueductlaw02_SumUpdates.rt v st.H .ok) panK = F_aqueductlaw02_SumUpdates.S k a0 a1 a2 := by kernel_rfl
theorem F_aqueductlaw02_SumUpdates.ok (k : Nat) : FnOk Try.prog 4 F_aqueductlaw02_SumUpdates.as F_aqueductlaw02_SumUpdates.rt (fun (x : Int × Int × Int) => F_aqueductlaw02_SumUpdates.S k x.1 x.2.1 x.2.2) :=
  FnOk.of_ev tab_ok (calOf_ok (F_aqueductlaw02_SumUpdates.cal_ok k)) mixed Try.func4 F_aqueductlaw02_SumUpdates.nt k (fun _ => rfl) (fun (x : Int × Int × Int) => F_aqueductlaw02_SumUpdates.eq k x.1 x.2.1 x.2.2)
theorem F_aqueductlaw02_SumUpdates.hd {T : Type} (k : Nat) : HdOk Try.prog 4 (pureH (T := T) F_aqueductlaw02_SumUpdates.as F_aqueductlaw02_SumUpdates.rt (fun (x : Int × Int × Int) => F_aqueductlaw02_SumUpdates.S k x.1 x.2.1 x.2.2)) :=
  pureH_ok rfl rfl (F_aqueductlaw02_SumUpdates.ok k) Try.call4
/-! ### aqueduct/aqueductlaw02.SumOnes: function 8 -/
noncomputable def F_aqueductlaw02_SumOnes.as : As := .some (.cons (.leaf (.int .u16)) (.one (.leaf .str)))
noncomputable def F_aqueductlaw02_SumOnes.rt : Rt := .val (.leaf .bool)
noncomputable def F_aqueductlaw02_SumOnes.nt : Notes := ⟨[], [], [], [], []⟩
noncomputable def F_aqueductlaw02_SumOnes.cal0 {T : Type} (k : Nat) : List (FuncId × Hd T) := [(14, pureH F_aqueductlaw02_fixed.as F_aqueductlaw02_fixed.rt (fun (_ : Unit) => F_aqueductlaw02_fixed.S k)), (15, pureH F_csum_On.as F_csum_On.rt (fun (x : Int × ByteArray) => F_csum_On.S k x.1 x.2)), (22, pureH F_csum_Join.as F_csum_Join.rt (fun (x : Int × Int × Int) => F_csum_Join.S k x.1 x.2.1 x.2.2))]
theorem F_aqueductlaw02_SumOnes.cal0_ok {T : Type} (k : Nat) : HdsOk Try.prog (F_aqueductlaw02_SumOnes.cal0 (T := T) k) := ⟨F_aqueductlaw02_fixed.hd k, F_csum_On.hd k, F_csum_Join.hd k, trivial⟩
noncomputable def F_aqueductlaw02_SumOnes.cal {T : Type} (k : Nat) : List (FuncId × Hd T) := F_aqueductlaw02_SumOnes.cal0 k
theorem F_aqueductlaw02_SumOnes.cal_ok {T : Type} (k : Nat) : HdsOk Try.prog (F_aqueductlaw02_SumOnes.cal (T := T) k) := F_aqueductlaw02_SumOnes.cal0_ok k
noncomputable def F_aqueductlaw02_SumOnes.S (k : Nat) (a0 : Int) (a1 : ByteArray) : O Bool :=
  O.chk (decide (0 ≤ (min (ByteArray.size a1 : Int) (1000 : Int)) ∧ (min (ByteArray.size a1 : Int) (1000 : Int)) ≤ (ByteArray.size a1 : Int))) (
   O.bind (F_aqueductlaw02_fixed.S k) fun r1 =>
   O.cond r1 (
    O.bind (F_csum_On.S k a0 (ByteArray.extract a1 0 (min (ByteArray.size a1 : Int) (1000 : Int)).toNat)) fun r3 =>
    O.chk (decide (((ByteArray.size (strOf [(IntKind.u8.wrap (shR .u16 a0 (8 : Int))), (IntKind.u8.wrap a0)]) + ByteArray.size (ByteArray.extract a1 0 (min (ByteArray.size a1 : Int) (1000 : Int)).toNat) : Nat) : Int) ≤ 9223372036854775807)) (
     O.bind (F_csum_On.S k (0 : Int) ((strOf [(IntKind.u8.wrap (shR .u16 a0 (8 : Int))), (IntKind.u8.wrap a0)]) ++ (ByteArray.extract a1 0 (min (ByteArray.size a1 : Int) (1000 : Int)).toNat))) fun r5 =>
     O.cond (decide (r3 = r5)) (
      O.bind (F_csum_On.S k (IntKind.u16.wrap ((65535 : Int) - a0)) (strOf [(IntKind.u8.wrap (shR .u16 a0 (8 : Int))), (IntKind.u8.wrap a0)])) fun r7 =>
      O.cond (decide (r7 = (65535 : Int))) (
       O.bind (F_csum_Join.S k a0 (IntKind.u16.wrap ((65535 : Int) - a0)) (0 : Int)) fun r9 =>
       .ok (decide (r9 = (65535 : Int)))) (
       .ok false)) (
      .ok false))) (
    .ok false))
theorem F_aqueductlaw02_SumOnes.eq (k : Nat) (a0 : Int) (a1 : ByteArray) : evFn (T := Bool) tab (calOf (F_aqueductlaw02_SumOnes.cal k)) Go.Proofs.Try.f8 F_aqueductlaw02_SumOnes.nt k [.int .u16 a0, .str a1] ⟨0, false, []⟩ (fun v st => takeR F_aqueductlaw02_SumOnes.rt v st.H .ok) panK = F_aqueductlaw02_SumOnes.S k a0 a1 := by kernel_rfl
theorem F_aqueductlaw02_SumOnes.ok (k : Nat) : FnOk Try.prog 8 F_aqueductlaw02_SumOnes.as F_aqueductlaw02_SumOnes.rt (fun (x : Int × ByteArray) => F_aqueductlaw02_SumOnes.S k x.1 x.2) :=
  FnOk.of_ev tab_ok (calOf_ok (F_aqueductlaw02_SumOnes.cal_ok k)) mixed Try.func8 F_aqueductlaw02_SumOnes.nt k (fun _ => rfl) (fun (x : Int × ByteArray) => F_aqueductlaw02_SumOnes.eq k x.1 x.2)
theorem F_aqueductlaw02_SumOnes.hd {T : Type} (k : Nat) : HdOk Try.prog 8 (pureH (T := T) F_aqueductlaw02_SumOnes.as F_aqueductlaw02_SumOnes.rt (fun (x : Int × ByteArray) => F_aqueductlaw02_SumOnes.S k x.1 x.2)) :=
  pureH_ok rfl rfl (F_aqueductlaw02_SumOnes.ok k) Try.call8
/-! ### aqueduct/aqueductlaw02.SumAgain: function 9 -/
noncomputable def F_aqueductlaw02_SumAgain.as : As := .some (.cons (.leaf (.int .u16)) (.cons (.leaf (.int .u16)) (.one (.leaf (.int .u16)))))
noncomputable def F_aqueductlaw02_SumAgain.rt : Rt := .val (.leaf .bool)
noncomputable def F_aqueductlaw02_SumAgain.nt : Notes := ⟨[], [], [], [], []⟩
noncomputable def F_aqueductlaw02_SumAgain.cal0 {T : Type} (k : Nat) : List (FuncId × Hd T) := [(14, pureH F_aqueductlaw02_fixed.as F_aqueductlaw02_fixed.rt (fun (_ : Unit) => F_aqueductlaw02_fixed.S k)), (20, pureH F_csum_Update.as F_csum_Update.rt (fun (x : Int × Int × Int) => F_csum_Update.S k x.1 x.2.1 x.2.2))]
theorem F_aqueductlaw02_SumAgain.cal0_ok {T : Type} (k : Nat) : HdsOk Try.prog (F_aqueductlaw02_SumAgain.cal0 (T := T) k) := ⟨F_aqueductlaw02_fixed.hd k, F_csum_Update.hd k, trivial⟩
noncomputable def F_aqueductlaw02_SumAgain.cal {T : Type} (k : Nat) : List (FuncId × Hd T) := F_aqueductlaw02_SumAgain.cal0 k
theorem F_aqueductlaw02_SumAgain.cal_ok {T : Type} (k : Nat) : HdsOk Try.prog (F_aqueductlaw02_SumAgain.cal (T := T) k) := F_aqueductlaw02_SumAgain.cal0_ok k
noncomputable def F_aqueductlaw02_SumAgain.S (k : Nat) (a0 : Int) (a1 : Int) (a2 : Int) : O Bool :=
  O.bind (F_csum_Update.S k a0 a1 a2) fun r1 =>
  O.bind (F_csum_Update.S k r1 a2 a1) fun r3 =>
  O.bind (F_aqueductlaw02_fixed.S k) fun r5 =>
  O.cond r5 (
   O.cond (decide (r3 = a0)) (
    .ok true) (
    O.cond (decide ((Int.tmod r3 (65535 : Int)) = (0 : Int))) (
     .ok (decide ((Int.tmod a0 (65535 : Int)) = (0 : Int)))) (
     .ok false))) (
   .ok false)
theorem F_aqueductlaw02_SumAgain.eq (k : Nat) (a0 : Int) (a1 : Int) (a2 : Int) : evFn (T := Bool) tab (calOf (F_aqueductlaw02_SumAgain.cal k)) Go.Proofs.Try.f9 F_aqueductlaw02_SumAgain.nt k [.int .u16 a0, .int .u16 a1, .int .u16 a2] ⟨0, false, []⟩ (fun v st => takeR F_aqueductlaw02_SumAgain.rt v st.H .ok) panK = F_aqueductlaw02_SumAgain.S k a0 a1 a2 := by kernel_rfl
theorem F_aqueductlaw02_SumAgain.ok (k : Nat) : FnOk Try.prog 9 F_aqueductlaw02_SumAgain.as F_aqueductlaw02_SumAgain.rt (fun (x : Int × Int × Int) => F_aqueductlaw02_SumAgain.S k x.1 x.2.1 x.2.2) :=
  FnOk.of_ev tab_ok (calOf_ok (F_aqueductlaw02_SumAgain.cal_ok k)) mixed Try.func9 F_aqueductlaw02_SumAgain.nt k (fun _ => rfl) (fun (x : Int × Int × Int) => F_aqueductlaw02_SumAgain.eq k x.1 x.2.1 x.2.2)
theorem F_aqueductlaw02_SumAgain.hd {T : Type} (k : Nat) : HdOk Try.prog 9 (pureH (T := T) F_aqueductlaw02_SumAgain.as F_aqueductlaw02_SumAgain.rt (fun (x : Int × Int × Int) => F_aqueductlaw02_SumAgain.S k x.1 x.2.1 x.2.2)) :=
  pureH_ok rfl rfl (F_aqueductlaw02_SumAgain.ok k) Try.call9
/-! ### aqueduct/aqueductlaw02.SumParts: function 5 -/
noncomputable def F_aqueductlaw02_SumParts.as : As := .some (.cons (.leaf .str) (.one (.leaf .str)))
noncomputable def F_aqueductlaw02_SumParts.rt : Rt := .val (.leaf .bool)
noncomputable def F_aqueductlaw02_SumParts.nt : Notes := ⟨[], [], [], [], []⟩
noncomputable def F_aqueductlaw02_SumParts.cal0 {T : Type} (k : Nat) : List (FuncId × Hd T) := [(14, pureH F_aqueductlaw02_fixed.as F_aqueductlaw02_fixed.rt (fun (_ : Unit) => F_aqueductlaw02_fixed.S k)), (15, pureH F_csum_On.as F_csum_On.rt (fun (x : Int × ByteArray) => F_csum_On.S k x.1 x.2)), (17, pureH F_csum_Sum.as F_csum_Sum.rt (fun (x : ByteArray) => F_csum_Sum.S k x)), (19, pureH F_csum_Right.as F_csum_Right.rt (fun (x : ByteArray) => F_csum_Right.S k x)), (22, pureH F_csum_Join.as F_csum_Join.rt (fun (x : Int × Int × Int) => F_csum_Join.S k x.1 x.2.1 x.2.2))]
theorem F_aqueductlaw02_SumParts.cal0_ok {T : Type} (k : Nat) : HdsOk Try.prog (F_aqueductlaw02_SumParts.cal0 (T := T) k) := ⟨F_aqueductlaw02_fixed.hd k, F_csum_On.hd k, F_csum_Sum.hd k, F_csum_Right.hd k, F_csum_Join.hd k, trivial⟩
noncomputable def F_aqueductlaw02_SumParts.cal {T : Type} (k : Nat) : List (FuncId × Hd T) := F_aqueductlaw02_SumParts.cal0 k
theorem F_aqueductlaw02_SumParts.cal_ok {T : Type} (k : Nat) : HdsOk Try.prog (F_aqueductlaw02_SumParts.cal (T := T) k) := F_aqueductlaw02_SumParts.cal0_ok k
noncomputable def F_aqueductlaw02_SumParts.S (k : Nat) (a0 : ByteArray) (a1 : ByteArray) : O Bool :=
  O.chk (decide (0 ≤ (min (ByteArray.size a0 : Int) (2000 : Int)) ∧ (min (ByteArray.size a0 : Int) (2000 : Int)) ≤ (ByteArray.size a0 : Int))) (
   O.chk (decide (0 ≤ (min (ByteArray.size a1 : Int) (2000 : Int)) ∧ (min (ByteArray.size a1 : Int) (2000 : Int)) ≤ (ByteArray.size a1 : Int))) (
    O.chk (decide (((ByteArray.size (ByteArray.extract a0 0 (min (ByteArray.size a0 : Int) (2000 : Int)).toNat) + ByteArray.size (ByteArray.extract a1 0 (min (ByteArray.size a1 : Int) (2000 : Int)).toNat) : Nat) : Int) ≤ 9223372036854775807)) (
     O.bind (F_csum_On.S k (0 : Int) ((ByteArray.extract a0 0 (min (ByteArray.size a0 : Int) (2000 : Int)).toNat) ++ (ByteArray.extract a1 0 (min (ByteArray.size a1 : Int) (2000 : Int)).toNat))) fun r1 =>
     O.bind (F_csum_On.S k (0 : Int) (ByteArray.extract a0 0 (min (ByteArray.size a0 : Int) (2000 : Int)).toNat)) fun r3 =>
     O.bind (F_csum_On.S k (0 : Int) (ByteArray.extract a1 0 (min (ByteArray.size a1 : Int) (2000 : Int)).toNat)) fun r5 =>
     O.bind (F_csum_Join.S k r3 r5 (ByteArray.size (ByteArray.extract a0 0 (min (ByteArray.size a0 : Int) (2000 : Int)).toNat) : Int)) fun r7 =>
     O.cond (decide (r7 ≠ r1)) (
      .ok false) (
      O.cond (decide ((Int.tmod (ByteArray.size (ByteArray.extract a0 0 (min (ByteArray.size a0 : Int) (2000 : Int)).toNat) : Int) (2 : Int)) = (0 : Int))) (
       O.bind (F_csum_Sum.S k (ByteArray.extract a0 0 (min (ByteArray.size a0 : Int) (2000 : Int)).toNat)) fun r9 =>
       O.bind (F_csum_On.S k (0 : Int) (ByteArray.extract a0 0 (min (ByteArray.size a0 : Int) (2000 : Int)).toNat)) fun r11 =>
       O.bind (F_csum_On.S k r11 (ByteArray.extract a1 0 (min (ByteArray.size a1 : Int) (2000 : Int)).toNat)) fun r13 =>
       O.cond (decide (r13 ≠ r1)) (
        O.cond true (
         .ok false) (
         O.bind (F_aqueductlaw02_fixed.S k) fun r15 =>
         .ok r15)) (
        O.chk (decide (((ByteArray.size (ByteArray.extract a0 0 (min (ByteArray.size a0 : Int) (2000 : Int)).toNat) + ByteArray.size (strOf [(IntKind.u8.wrap (shR .u16 r9 (8 : Int))), (IntKind.u8.wrap r9)]) : Nat) : Int) ≤ 9223372036854775807)) (
         O.bind (F_csum_Right.S k ((ByteArray.extract a0 0 (min (ByteArray.size a0 : Int) (2000 : Int)).toNat) ++ (strOf [(IntKind.u8.wrap (shR .u16 r9 (8 : Int))), (IntKind.u8.wrap r9)]))) fun r17 =>
         O.cond (!r17) (
          .ok false) (
          O.bind (F_aqueductlaw02_fixed.S k) fun r19 =>
          .ok r19)))) (
       O.bind (F_aqueductlaw02_fixed.S k) fun r21 =>
       .ok r21)))))
theorem F_aqueductlaw02_SumParts.eq (k : Nat) (a0 : ByteArray) (a1 : ByteArray) : evFn (T := Bool) tab (calOf (F_aqueductlaw02_SumParts.cal k)) Go.Proofs.Try.f5 F_aqueductlaw02_SumParts.nt k [.str a0, .str a1] ⟨0, false, []⟩ (fun v st => takeR F_aqueductlaw02_SumParts.rt v st.H .ok) panK = F_aqueductlaw02_SumParts.S k a0 a1 := by kernel_rfl
theorem F_aqueductlaw02_SumParts.ok (k : Nat) : FnOk Try.prog 5 F_aqueductlaw02_SumParts.as F_aqueductlaw02_SumParts.rt (fun (x : ByteArray × ByteArray) => F_aqueductlaw02_SumParts.S k x.1 x.2) :=
  FnOk.of_ev tab_ok (calOf_ok (F_aqueductlaw02_SumParts.cal_ok k)) mixed Try.func5 F_aqueductlaw02_SumParts.nt k (fun _ => rfl) (fun (x : ByteArray × ByteArray) => F_aqueductlaw02_SumParts.eq k x.1 x.2)
theorem F_aqueductlaw02_SumParts.hd {T : Type} (k : Nat) : HdOk Try.prog 5 (pureH (T := T) F_aqueductlaw02_SumParts.as F_aqueductlaw02_SumParts.rt (fun (x : ByteArray × ByteArray) => F_aqueductlaw02_SumParts.S k x.1 x.2)) :=
  pureH_ok rfl rfl (F_aqueductlaw02_SumParts.ok k) Try.call5
/-! ### aqueduct/aqueductlaw02.SumTurns: function 6 -/
noncomputable def F_aqueductlaw02_SumTurns.as : As := .some (.cons (.leaf .str) (.one (.leaf (.int .i64))))
noncomputable def F_aqueductlaw02_SumTurns.rt : Rt := .val (.leaf .bool)
noncomputable def F_aqueductlaw02_SumTurns.nt : Notes := ⟨[(7, [0, 5, 6, 7])], [(5, [0, 5])], [(10, [0, 1, 2, 3, 4, 5, 6, 7, 8, 10, 9, 11, 12, 13, 14, 15, 17, 16, 18, 19, 20, 21, 22, 23, 25, 24, 26, 27, 28, 29])], [], []⟩
noncomputable def F_aqueductlaw02_SumTurns.cal0 {T : Type} (k : Nat) : List (FuncId × Hd T) := [(14, pureH F_aqueductlaw02_fixed.as F_aqueductlaw02_fixed.rt (fun (_ : Unit) => F_aqueductlaw02_fixed.S k)), (15, pureH F_csum_On.as F_csum_On.rt (fun (x : Int × ByteArray) => F_csum_On.S k x.1 x.2))]
theorem F_aqueductlaw02_SumTurns.cal0_ok {T : Type} (k : Nat) : HdsOk Try.prog (F_aqueductlaw02_SumTurns.cal0 (T := T) k) := ⟨F_aqueductlaw02_fixed.hd k, F_csum_On.hd k, trivial⟩
noncomputable def F_aqueductlaw02_SumTurns.cal {T : Type} (k : Nat) : List (FuncId × Hd T) := F_aqueductlaw02_SumTurns.cal0 k
theorem F_aqueductlaw02_SumTurns.cal_ok {T : Type} (k : Nat) : HdsOk Try.prog (F_aqueductlaw02_SumTurns.cal (T := T) k) := F_aqueductlaw02_SumTurns.cal0_ok k
noncomputable def F_aqueductlaw02_SumTurns.l1_b (k : Nat) (a0 : ByteArray) (v1 : Int) (R_l1 : ByteArray → Int → O Bool) (v2 : ByteArray) (v3 : Int) : O Bool :=
  O.cond (decide (v3 ≥ (0 : Int))) (
   O.chk (decide (0 ≤ v3 ∧ v3 ≤ (IntKind.i64.wrap (v3 + (2 : Int))) ∧ (IntKind.i64.wrap (v3 + (2 : Int))) ≤ (ByteArray.size (ByteArray.extract a0 0 (IntKind.i64.wrap ((IntKind.i64.wrap (Int.tdiv (min (ByteArray.size a0 : Int) (1000 : Int)) (2 : Int))) * (2 : Int))).toNat) : Int))) (
    O.chk (decide (((ByteArray.size v2 + ByteArray.size (ByteArray.extract (ByteArray.extract a0 0 (IntKind.i64.wrap ((IntKind.i64.wrap (Int.tdiv (min (ByteArray.size a0 : Int) (1000 : Int)) (2 : Int))) * (2 : Int))).toNat) v3.toNat (IntKind.i64.wrap (v3 + (2 : Int))).toNat) : Nat) : Int) ≤ 9223372036854775807)) (
     R_l1 (v2 ++ (ByteArray.extract (ByteArray.extract a0 0 (IntKind.i64.wrap ((IntKind.i64.wrap (Int.tdiv (min (ByteArray.size a0 : Int) (1000 : Int)) (2 : Int))) * (2 : Int))).toNat) v3.toNat (IntKind.i64.wrap (v3 + (2 : Int))).toNat)) (IntKind.i64.wrap (v3 - (2 : Int)))))) (
   O.bind (F_aqueductlaw02_fixed.S k) fun r4 =>
   O.cond r4 (
    O.chk (decide (0 ≤ v1 ∧ v1 ≤ (ByteArray.size (ByteArray.extract a0 0 (IntKind.i64.wrap ((IntKind.i64.wrap (Int.tdiv (min (ByteArray.size a0 : Int) (1000 : Int)) (2 : Int))) * (2 : Int))).toNat) : Int))) (
     O.chk (decide (0 ≤ v1 ∧ v1 ≤ (ByteArray.size (ByteArray.extract a0 0 (IntKind.i64.wrap ((IntKind.i64.wrap (Int.tdiv (min (ByteArray.size a0 : Int) (1000 : Int)) (2 : Int))) * (2 : Int))).toNat) : Int))) (
      O.chk (decide (((ByteArray.size (ByteArray.extract (ByteArray.extract a0 0 (IntKind.i64.wrap ((IntKind.i64.wrap (Int.tdiv (min (ByteArray.size a0 : Int) (1000 : Int)) (2 : Int))) * (2 : Int))).toNat) v1.toNat (ByteArray.size (ByteArray.extract a0 0 (IntKind.i64.wrap ((IntKind.i64.wrap (Int.tdiv (min (ByteArray.size a0 : Int) (1000 : Int)) (2 : Int))) * (2 : Int))).toNat))) + ByteArray.size (ByteArray.extract (ByteArray.extract a0 0 (IntKind.i64.wrap ((IntKind.i64.wrap (Int.tdiv (min (ByteArray.size a0 : Int) (1000 : Int)) (2 : Int))) * (2 : Int))).toNat) 0 v1.toNat) : Nat) : Int) ≤ 9223372036854775807)) (
       O.bind (F_csum_On.S k (0 : Int) ((ByteArray.extract (ByteArray.extract a0 0 (IntKind.i64.wrap ((IntKind.i64.wrap (Int.tdiv (min (ByteArray.size a0 : Int) (1000 : Int)) (2 : Int))) * (2 : Int))).toNat) v1.toNat (ByteArray.size (ByteArray.extract a0 0 (IntKind.i64.wrap ((IntKind.i64.wrap (Int.tdiv (min (ByteArray.size a0 : Int) (1000 : Int)) (2 : Int))) * (2 : Int))).toNat))) ++ (ByteArray.extract (ByteArray.extract a0 0 (IntKind.i64.wrap ((IntKind.i64.wrap (Int.tdiv (min (ByteArray.size a0 : Int) (1000 : Int)) (2 : Int))) * (2 : Int))).toNat) 0 v1.toNat))) fun r6 =>
       O.bind (F_csum_On.S k (0 : Int) (ByteArray.extract a0 0 (IntKind.i64.wrap ((IntKind.i64.wrap (Int.tdiv (min (ByteArray.size a0 : Int) (1000 : Int)) (2 : Int))) * (2 : Int))).toNat)) fun r8 =>
       O.cond (decide (r6 = r8)) (
        O.bind (F_csum_On.S k (0 : Int) v2) fun r10 =>
        O.bind (F_csum_On.S k (0 : Int) (ByteArray.extract a0 0 (IntKind.i64.wrap ((IntKind.i64.wrap (Int.tdiv (min (ByteArray.size a0 : Int) (1000 : Int)) (2 : Int))) * (2 : Int))).toNat)) fun r12 =>
        O.cond (decide (r10 = r12)) (
         O.chk (decide (((ByteArray.size (ByteArray.extract a0 0 (IntKind.i64.wrap ((IntKind.i64.wrap (Int.tdiv (min (ByteArray.size a0 : Int) (1000 : Int)) (2 : Int))) * (2 : Int))).toNat) + ByteArray.size (⟨#[0, 0, 0]⟩ : ByteArray) : Nat) : Int) ≤ 9223372036854775807)) (
          O.bind (F_csum_On.S k (0 : Int) ((ByteArray.extract a0 0 (IntKind.i64.wrap ((IntKind.i64.wrap (Int.tdiv (min (ByteArray.size a0 : Int) (1000 : Int)) (2 : Int))) * (2 : Int))).toNat) ++ (⟨#[0, 0, 0]⟩ : ByteArray))) fun r14 =>
          O.bind (F_csum_On.S k (0 : Int) (ByteArray.extract a0 0 (IntKind.i64.wrap ((IntKind.i64.wrap (Int.tdiv (min (ByteArray.size a0 : Int) (1000 : Int)) (2 : Int))) * (2 : Int))).toNat)) fun r16 =>
          .ok (decide (r14 = r16)))) (
         .ok false)) (
        .ok false))))) (
    .ok false))
noncomputable def F_aqueductlaw02_SumTurns.l1 (k : Nat) (a0 : ByteArray) (v1 : Int) : Nat → ByteArray → Int → O Bool
  | 0, _, _ => .no
  | j + 1, v2, v3 => F_aqueductlaw02_SumTurns.l1_b k a0 v1 (F_aqueductlaw02_SumTurns.l1 k a0 v1 j) v2 v3
theorem F_aqueductlaw02_SumTurns.l1_eq (k : Nat) (a0 : ByteArray) (v1 : Int) : ∀ (j : Nat) (v2 : ByteArray) (v3 : Int), loopAt (T := Bool) tab (calOf (F_aqueductlaw02_SumTurns.cal k)) Go.Proofs.Try.f6.ntmps F_aqueductlaw02_SumTurns.nt k [] [.r, .r, .r, .r, .r, .l, .r, .b] (bodyOf Go.Proofs.Try.f6) (finK tab Go.Proofs.Try.f6.results.toList (fun v st => takeR F_aqueductlaw02_SumTurns.rt v st.H .ok) panK) j ⟨[(0, .str (ByteArray.extract a0 0 (IntKind.i64.wrap ((IntKind.i64.wrap (Int.tdiv (min (ByteArray.size a0 : Int) (1000 : Int)) (2 : Int))) * (2 : Int))).toNat)), (5, .int .i64 v1), (6, .str v2), (7, .int .i64 v3)], [], 0⟩ ⟨0, true, []⟩ = F_aqueductlaw02_SumTurns.l1 k a0 v1 j v2 v3 := by
  intro j
  induction j with
  | zero => intro v2 v3; rfl
  | succ j ih =>
    intro v2 v3
    have rs : (fun v2' v3' => loopAt (T := Bool) tab (calOf (F_aqueductlaw02_SumTurns.cal k)) Go.Proofs.Try.f6.ntmps F_aqueductlaw02_SumTurns.nt k [] [.r, .r, .r, .r, .r, .l, .r, .b] (bodyOf Go.Proofs.Try.f6) (finK tab Go.Proofs.Try.f6.results.toList (fun v st => takeR F_aqueductlaw02_SumTurns.rt v st.H .ok) panK) j ⟨[(0, .str (ByteArray.extract a0 0 (IntKind.i64.wrap ((IntKind.i64.wrap (Int.tdiv (min (ByteArray.size a0 : Int) (1000 : Int)) (2 : Int))) * (2 : Int))).toNat)), (5, .int .i64 v1), (6, .str v2'), (7, .int .i64 v3')], [], 0⟩ ⟨0, true, []⟩) = F_aqueductlaw02_SumTurns.l1 k a0 v1 j := by funext v2' v3'; exact ih v2' v3'
    have h : loopAt (T := Bool) tab (calOf (F_aqueductlaw02_SumTurns.cal k)) Go.Proofs.Try.f6.ntmps F_aqueductlaw02_SumTurns.nt k [] [.r, .r, .r, .r, .r, .l, .r, .b] (bodyOf Go.Proofs.Try.f6) (finK tab Go.Proofs.Try.f6.results.toList (fun v st => takeR F_aqueductlaw02_SumTurns.rt v st.H .ok) panK) (j + 1) ⟨[(0, .str (ByteArray.extract a0 0 (IntKind.i64.wrap ((IntKind.i64.wrap (Int.tdiv (min (ByteArray.size a0 : Int) (1000 : Int)) (2 : Int))) * (2 : Int))).toNat)), (5, .int .i64 v1), (6, .str v2), (7, .int .i64 v3)], [], 0⟩ ⟨0, true, []⟩ = F_aqueductlaw02_SumTurns.l1_b k a0 v1 ((fun v2' v3' => loopAt (T := Bool) tab (calOf (F_aqueductlaw02_SumTurns.cal k)) Go.Proofs.Try.f6.ntmps F_aqueductlaw02_SumTurns.nt k [] [.r, .r, .r, .r, .r, .l, .r, .b] (bodyOf Go.Proofs.Try.f6) (finK tab Go.Proofs.Try.f6.results.toList (fun v st => takeR F_aqueductlaw02_SumTurns.rt v st.H .ok) panK) j ⟨[(0, .str (ByteArray.extract a0 0 (IntKind.i64.wrap ((IntKind.i64.wrap (Int.tdiv (min (ByteArray.size a0 : Int) (1000 : Int)) (2 : Int))) * (2 : Int))).toNat)), (5, .int .i64 v1), (6, .str v2'), (7, .int .i64 v3')], [], 0⟩ ⟨0, true, []⟩)) v2 v3 := by kernel_rfl
    exact h.trans (by rw [rs]; rfl)
noncomputable def F_aqueductlaw02_SumTurns.j4_b (k : Nat) (a0 : ByteArray) (D_l1 : ByteArray → Int → ByteArray → Int → O Bool) (v1 : Int) : O Bool :=
  D_l1 a0 v1 (⟨#[]⟩ : ByteArray) (IntKind.i64.wrap ((ByteArray.size (ByteArray.extract a0 0 (IntKind.i64.wrap ((IntKind.i64.wrap (Int.tdiv (min (ByteArray.size a0 : Int) (1000 : Int)) (2 : Int))) * (2 : Int))).toNat) : Int) - (2 : Int)))
noncomputable def F_aqueductlaw02_SumTurns.j4 (k : Nat) (a0 : ByteArray) (v1 : Int) : O Bool := F_aqueductlaw02_SumTurns.j4_b k a0 ((fun a0 v1 v2 v3 => F_aqueductlaw02_SumTurns.l1 k a0 v1 k v2 v3)) v1
theorem F_aqueductlaw02_SumTurns.j4_eq (k : Nat) (a0 : ByteArray) (v1 : Int) : codeAt (T := Bool) tab (calOf (F_aqueductlaw02_SumTurns.cal k)) Go.Proofs.Try.f6.ntmps F_aqueductlaw02_SumTurns.nt k [] [.r, .r, .r, .r] (bodyOf Go.Proofs.Try.f6) (finK tab Go.Proofs.Try.f6.results.toList (fun v st => takeR F_aqueductlaw02_SumTurns.rt v st.H .ok) panK) ⟨[(0, .str (ByteArray.extract a0 0 (IntKind.i64.wrap ((IntKind.i64.wrap (Int.tdiv (min (ByteArray.size a0 : Int) (1000 : Int)) (2 : Int))) * (2 : Int))).toNat)), (5, .int .i64 v1)], [], 0⟩ ⟨0, true, []⟩ = F_aqueductlaw02_SumTurns.j4 k a0 v1 := by
    have e0 : (fun a0 v1 v2 v3 => loopAt (T := Bool) tab (calOf (F_aqueductlaw02_SumTurns.cal k)) Go.Proofs.Try.f6.ntmps F_aqueductlaw02_SumTurns.nt k [] [.r, .r, .r, .r, .r, .l, .r, .b] (bodyOf Go.Proofs.Try.f6) (finK tab Go.Proofs.Try.f6.results.toList (fun v st => takeR F_aqueductlaw02_SumTurns.rt v st.H .ok) panK) k ⟨[(0, .str (ByteArray.extract a0 0 (IntKind.i64.wrap ((IntKind.i64.wrap (Int.tdiv (min (ByteArray.size a0 : Int) (1000 : Int)) (2 : Int))) * (2 : Int))).toNat)), (5, .int .i64 v1), (6, .str v2), (7, .int .i64 v3)], [], 0⟩ ⟨0, true, []⟩) = (fun a0 v1 v2 v3 => F_aqueductlaw02_SumTurns.l1 k a0 v1 k v2 v3) := by funext a0 v1 v2 v3; exact F_aqueductlaw02_SumTurns.l1_eq k a0 v1 k v2 v3
    have h : codeAt (T := Bool) tab (calOf (F_aqueductlaw02_SumTurns.cal k)) Go.Proofs.Try.f6.ntmps F_aqueductlaw02_SumTurns.nt k [] [.r, .r, .r, .r] (bodyOf Go.Proofs.Try.f6) (finK tab Go.Proofs.Try.f6.results.toList (fun v st => takeR F_aqueductlaw02_SumTurns.rt v st.H .ok) panK) ⟨[(0, .str (ByteArray.extract a0 0 (IntKind.i64.wrap ((IntKind.i64.wrap (Int.tdiv (min (ByteArray.size a0 : Int) (1000 : Int)) (2 : Int))) * (2 : Int))).toNat)), (5, .int .i64 v1)], [], 0⟩ ⟨0, true, []⟩ = F_aqueductlaw02_SumTurns.j4_b k a0 ((fun a0 v1 v2 v3 => loopAt (T := Bool) tab (calOf (F_aqueductlaw02_SumTurns.cal k)) Go.Proofs.Try.f6.ntmps F_aqueductlaw02_SumTurns.nt k [] [.r, .r, .r, .r, .r, .l, .r, .b] (bodyOf Go.Proofs.Try.f6) (finK tab Go.Proofs.Try.f6.results.toList (fun v st => takeR F_aqueductlaw02_SumTurns.rt v st.H .ok) panK) k ⟨[(0, .str (ByteArray.extract a0 0 (IntKind.i64.wrap ((IntKind.i64.wrap (Int.tdiv (min (ByteArray.size a0 : Int) (1000 : Int)) (2 : Int))) * (2 : Int))).toNat)), (5, .int .i64 v1), (6, .str v2), (7, .int .i64 v3)], [], 0⟩ ⟨0, true, []⟩)) v1 := by kernel_rfl
    exact h.trans (by rw [e0]; rfl)
noncomputable def F_aqueductlaw02_SumTurns.top (k : Nat) (a0 : ByteArray) (a1 : Int) (D_j4 : ByteArray → Int → O Bool) : O Bool :=
  O.chk (decide (0 ≤ (IntKind.i64.wrap ((IntKind.i64.wrap (Int.tdiv (min (ByteArray.size a0 : Int) (1000 : Int)) (2 : Int))) * (2 : Int))) ∧ (IntKind.i64.wrap ((IntKind.i64.wrap (Int.tdiv (min (ByteArray.size a0 : Int) (1000 : Int)) (2 : Int))) * (2 : Int))) ≤ (ByteArray.size a0 : Int))) (
   O.cond (decide ((ByteArray.size (ByteArray.extract a0 0 (IntKind.i64.wrap ((IntKind.i64.wrap (Int.tdiv (min (ByteArray.size a0 : Int) (1000 : Int)) (2 : Int))) * (2 : Int))).toNat) : Int) > (0 : Int))) (
    O.chk (decide ((IntKind.i64.wrap (Int.tdiv (ByteArray.size (ByteArray.extract a0 0 (IntKind.i64.wrap ((IntKind.i64.wrap (Int.tdiv (min (ByteArray.size a0 : Int) (1000 : Int)) (2 : Int))) * (2 : Int))).toNat) : Int) (2 : Int))) ≠ 0)) (
     D_j4 a0 (IntKind.i64.wrap ((Int.tmod (bAnd .i64 a1 (65535 : Int)) (IntKind.i64.wrap (Int.tdiv (ByteArray.size (ByteArray.extract a0 0 (IntKind.i64.wrap ((IntKind.i64.wrap (Int.tdiv (min (ByteArray.size a0 : Int) (1000 : Int)) (2 : Int))) * (2 : Int))).toNat) : Int) (2 : Int)))) * (2 : Int))))) (
    D_j4 a0 (0 : Int)))
noncomputable def F_aqueductlaw02_SumTurns.S (k : Nat) (a0 : ByteArray) (a1 : Int) : O Bool := F_aqueductlaw02_SumTurns.top k a0 a1 ((fun a0 v1 => F_aqueductlaw02_SumTurns.j4 k a0 v1))
theorem F_aqueductlaw02_SumTurns.eq (k : Nat) (a0 : ByteArray) (a1 : Int) : evFn (T := Bool) tab (calOf (F_aqueductlaw02_SumTurns.cal k)) Go.Proofs.Try.f6 F_aqueductlaw02_SumTurns.nt k [.str a0, .int .i64 a1] ⟨0, false, []⟩ (fun v st => takeR F_aqueductlaw02_SumTurns.rt v st.H .ok) panK = F_aqueductlaw02_SumTurns.S k a0 a1 := by
  have e0 : (fun a0 v1 => codeAt (T := Bool) tab (calOf (F_aqueductlaw02_SumTurns.cal k)) Go.Proofs.Try.f6.ntmps F_aqueductlaw02_SumTurns.nt k [] [.r, .r, .r, .r] (bodyOf Go.Proofs.Try.f6) (finK tab Go.Proofs.Try.f6.results.toList (fun v st => takeR F_aqueductlaw02_SumTurns.rt v st.H .ok) panK) ⟨[(0, .str (ByteArray.extract a0 0 (IntKind.i64.wrap ((IntKind.i64.wrap (Int.tdiv (min (ByteArray.size a0 : Int) (1000 : Int)) (2 : Int))) * (2 : Int))).toNat)), (5, .int .i64 v1)], [], 0⟩ ⟨0, true, []⟩) = (fun a0 v1 => F_aqueductlaw02_SumTurns.j4 k a0 v1) := by funext a0 v1; exact F_aqueductlaw02_SumTurns.j4_eq k a0 v1
  have h : evFn (T := Bool) tab (calOf (F_aqueductlaw02_SumTurns.cal k)) Go.Proofs.Try.f6 F_aqueductlaw02_SumTurns.nt k [.str a0, .int .i64 a1] ⟨0, false, []⟩ (fun v st => takeR F_aqueductlaw02_SumTurns.rt v st.H .ok) panK = F_aqueductlaw02_SumTurns.top k a0 a1 ((fun a0 v1 => codeAt (T := Bool) tab (calOf (F_aqueductlaw02_SumTurns.cal k)) Go.Proofs.Try.f6.ntmps F_aqueductlaw02_SumTurns.nt k [] [.r, .r, .r, .r] (bodyOf Go.Proofs.Try.f6) (finK tab Go.Proofs.Try.f6.results.toList (fun v st => takeR F_aqueductlaw02_SumTurns.rt v st.H .ok) panK) ⟨[(0, .str (ByteArray.extract a0 0 (IntKind.i64.wrap ((IntKind.i64.wrap (Int.tdiv (min (ByteArray.size a0 : Int) (1000 : Int)) (2 : Int))) * (2 : Int))).toNat)), (5, .int .i64 v1)], [], 0⟩ ⟨0, true, []⟩)) := by kernel_rfl
  exact h.trans (by rw [e0]; rfl)
theorem F_aqueductlaw02_SumTurns.ok (k : Nat) : FnOk Try.prog 6 F_aqueductlaw02_SumTurns.as F_aqueductlaw02_SumTurns.rt (fun (x : ByteArray × Int) => F_aqueductlaw02_SumTurns.S k x.1 x.2) :=
  FnOk.of_ev tab_ok (calOf_ok (F_aqueductlaw02_SumTurns.cal_ok k)) mixed Try.func6 F_aqueductlaw02_SumTurns.nt k (fun _ => rfl) (fun (x : ByteArray × Int) => F_aqueductlaw02_SumTurns.eq k x.1 x.2)
theorem F_aqueductlaw02_SumTurns.hd {T : Type} (k : Nat) : HdOk Try.prog 6 (pureH (T := T) F_aqueductlaw02_SumTurns.as F_aqueductlaw02_SumTurns.rt (fun (x : ByteArray × Int) => F_aqueductlaw02_SumTurns.S k x.1 x.2)) :=
  pureH_ok rfl rfl (F_aqueductlaw02_SumTurns.ok k) Try.call6
/-! ### aqueduct/aqueductlaw02.SumChanges: function 7 -/
noncomputable def F_aqueductlaw02_SumChanges.as : As := .some (.cons (.leaf .str) (.cons (.leaf (.int .i64)) (.one (.leaf (.int .u16)))))
noncomputable def F_aqueductlaw02_SumChanges.rt : Rt := .val (.leaf .bool)
noncomputable def F_aqueductlaw02_SumChanges.nt : Notes := ⟨[], [], [(5, [0, 1, 2, 3, 4, 5, 6, 7, 8, 9, 10, 11]), (6, [0, 1, 2, 3, 4, 5, 6, 7, 11, 12, 13, 14, 8, 9, 10, 15, 16])], [], []⟩
noncomputable def F_aqueductlaw02_SumChanges.cal0 {T : Type} (k : Nat) : List (FuncId × Hd T) := [(14, pureH F_aqueductlaw02_fixed.as F_aqueductlaw02_fixed.rt (fun (_ : Unit) => F_aqueductlaw02_fixed.S k)), (17, pureH F_csum_Sum.as F_csum_Sum.rt (fun (x : ByteArray) => F_csum_Sum.S k x)), (20, pureH F_csum_Update.as F_csum_Update.rt (fun (x : Int × Int × Int) => F_csum_Update.S k x.1 x.2.1 x.2.2))]
theorem F_aqueductlaw02_SumChanges.cal0_ok {T : Type} (k : Nat) : HdsOk Try.prog (F_aqueductlaw02_SumChanges.cal0 (T := T) k) := ⟨F_aqueductlaw02_fixed.hd k, F_csum_Sum.hd k, F_csum_Update.hd k, trivial⟩
noncomputable def F_aqueductlaw02_SumChanges.cal {T : Type} (k : Nat) : List (FuncId × Hd T) := F_aqueductlaw02_SumChanges.cal0 k
theorem F_aqueductlaw02_SumChanges.cal_ok {T : Type} (k : Nat) : HdsOk Try.prog (F_aqueductlaw02_SumChanges.cal (T := T) k) := F_aqueductlaw02_SumChanges.cal0_ok k
noncomputable def F_aqueductlaw02_SumChanges.S (k : Nat) (a0 : ByteArray) (a1 : Int) (a2 : Int) : O Bool :=
  O.chk (decide (0 ≤ (IntKind.i64.wrap ((IntKind.i64.wrap (Int.tdiv (min (ByteArray.size a0 : Int) (1000 : Int)) (2 : Int))) * (2 : Int))) ∧ (IntKind.i64.wrap ((IntKind.i64.wrap (Int.tdiv (min (ByteArray.size a0 : Int) (1000 : Int)) (2 : Int))) * (2 : Int))) ≤ (ByteArray.size a0 : Int))) (
   O.cond (decide ((ByteArray.size (ByteArray.extract a0 0 (IntKind.i64.wrap ((IntKind.i64.wrap (Int.tdiv (min (ByteArray.size a0 : Int) (1000 : Int)) (2 : Int))) * (2 : Int))).toNat) : Int) = (0 : Int))) (
    O.bind (F_aqueductlaw02_fixed.S k) fun r3 =>
    .ok r3) (
    O.chk (decide ((IntKind.i64.wrap (Int.tdiv (ByteArray.size (ByteArray.extract a0 0 (IntKind.i64.wrap ((IntKind.i64.wrap (Int.tdiv (min (ByteArray.size a0 : Int) (1000 : Int)) (2 : Int))) * (2 : Int))).toNat) : Int) (2 : Int))) ≠ 0)) (
     O.chk (decide (0 ≤ (IntKind.i64.wrap ((Int.tmod (bAnd .i64 a1 (65535 : Int)) (IntKind.i64.wrap (Int.tdiv (ByteArray.size (ByteArray.extract a0 0 (IntKind.i64.wrap ((IntKind.i64.wrap (Int.tdiv (min (ByteArray.size a0 : Int) (1000 : Int)) (2 : Int))) * (2 : Int))).toNat) : Int) (2 : Int)))) * (2 : Int))) ∧ (IntKind.i64.wrap ((Int.tmod (bAnd .i64 a1 (65535 : Int)) (IntKind.i64.wrap (Int.tdiv (ByteArray.size (ByteArray.extract a0 0 (IntKind.i64.wrap ((IntKind.i64.wrap (Int.tdiv (min (ByteArray.size a0 : Int) (1000 : Int)) (2 : Int))) * (2 : Int))).toNat) : Int) (2 : Int)))) * (2 : Int))) < (ByteArray.size (ByteArray.extract a0 0 (IntKind.i64.wrap ((IntKind.i64.wrap (Int.tdiv (min (ByteArray.size a0 : Int) (1000 : Int)) (2 : Int))) * (2 : Int))).toNat) : Int))) (
      O.chk (decide (0 ≤ (IntKind.i64.wrap ((IntKind.i64.wrap ((Int.tmod (bAnd .i64 a1 (65535 : Int)) (IntKind.i64.wrap (Int.tdiv (ByteArray.size (ByteArray.extract a0 0 (IntKind.i64.wrap ((IntKind.i64.wrap (Int.tdiv (min (ByteArray.size a0 : Int) (1000 : Int)) (2 : Int))) * (2 : Int))).toNat) : Int) (2 : Int)))) * (2 : Int))) + (1 : Int))) ∧ (IntKind.i64.wrap ((IntKind.i64.wrap ((Int.tmod (bAnd .i64 a1 (65535 : Int)) (IntKind.i64.wrap (Int.tdiv (ByteArray.size (ByteArray.extract a0 0 (IntKind.i64.wrap ((IntKind.i64.wrap (Int.tdiv (min (ByteArray.size a0 : Int) (1000 : Int)) (2 : Int))) * (2 : Int))).toNat) : Int) (2 : Int)))) * (2 : Int))) + (1 : Int))) < (ByteArray.size (ByteArray.extract a0 0 (IntKind.i64.wrap ((IntKind.i64.wrap (Int.tdiv (min (ByteArray.size a0 : Int) (1000 : Int)) (2 : Int))) * (2 : Int))).toNat) : Int))) (
       O.chk (decide (0 ≤ (IntKind.i64.wrap ((Int.tmod (bAnd .i64 a1 (65535 : Int)) (IntKind.i64.wrap (Int.tdiv (ByteArray.size (ByteArray.extract a0 0 (IntKind.i64.wrap ((IntKind.i64.wrap (Int.tdiv (min (ByteArray.size a0 : Int) (1000 : Int)) (2 : Int))) * (2 : Int))).toNat) : Int) (2 : Int)))) * (2 : Int))) ∧ (IntKind.i64.wrap ((Int.tmod (bAnd .i64 a1 (65535 : Int)) (IntKind.i64.wrap (Int.tdiv (ByteArray.size (ByteArray.extract a0 0 (IntKind.i64.wrap ((IntKind.i64.wrap (Int.tdiv (min (ByteArray.size a0 : Int) (1000 : Int)) (2 : Int))) * (2 : Int))).toNat) : Int) (2 : Int)))) * (2 : Int))) ≤ (ByteArray.size (ByteArray.extract a0 0 (IntKind.i64.wrap ((IntKind.i64.wrap (Int.tdiv (min (ByteArray.size a0 : Int) (1000 : Int)) (2 : Int))) * (2 : Int))).toNat) : Int))) (
        O.chk (decide (0 ≤ (IntKind.i64.wrap ((IntKind.i64.wrap ((Int.tmod (bAnd .i64 a1 (65535 : Int)) (IntKind.i64.wrap (Int.tdiv (ByteArray.size (ByteArray.extract a0 0 (IntKind.i64.wrap ((IntKind.i64.wrap (Int.tdiv (min (ByteArray.size a0 : Int) (1000 : Int)) (2 : Int))) * (2 : Int))).toNat) : Int) (2 : Int)))) * (2 : Int))) + (2 : Int))) ∧ (IntKind.i64.wrap ((IntKind.i64.wrap ((Int.tmod (bAnd .i64 a1 (65535 : Int)) (IntKind.i64.wrap (Int.tdiv (ByteArray.size (ByteArray.extract a0 0 (IntKind.i64.wrap ((IntKind.i64.wrap (Int.tdiv (min (ByteArray.size a0 : Int) (1000 : Int)) (2 : Int))) * (2 : Int))).toNat) : Int) (2 : Int)))) * (2 : Int))) + (2 : Int))) ≤ (ByteArray.size (ByteArray.extract a0 0 (IntKind.i64.wrap ((IntKind.i64.wrap (Int.tdiv (min (ByteArray.size a0 : Int) (1000 : Int)) (2 : Int))) * (2 : Int))).toNat) : Int))) (
         O.chk (decide (((ByteArray.size (ByteArray.extract (ByteArray.extract a0 0 (IntKind.i64.wrap ((IntKind.i64.wrap (Int.tdiv (min (ByteArray.size a0 : Int) (1000 : Int)) (2 : Int))) * (2 : Int))).toNat) 0 (IntKind.i64.wrap ((Int.tmod (bAnd .i64 a1 (65535 : Int)) (IntKind.i64.wrap (Int.tdiv (ByteArray.size (ByteArray.extract a0 0 (IntKind.i64.wrap ((IntKind.i64.wrap (Int.tdiv (min (ByteArray.size a0 : Int) (1000 : Int)) (2 : Int))) * (2 : Int))).toNat) : Int) (2 : Int)))) * (2 : Int))).toNat) + ByteArray.size (strOf [(IntKind.u8.wrap (shR .u16 a2 (8 : Int))), (IntKind.u8.wrap a2)]) : Nat) : Int) ≤ 9223372036854775807)) (
          O.chk (decide (((ByteArray.size ((ByteArray.extract (ByteArray.extract a0 0 (IntKind.i64.wrap ((IntKind.i64.wrap (Int.tdiv (min (ByteArray.size a0 : Int) (1000 : Int)) (2 : Int))) * (2 : Int))).toNat) 0 (IntKind.i64.wrap ((Int.tmod (bAnd .i64 a1 (65535 : Int)) (IntKind.i64.wrap (Int.tdiv (ByteArray.size (ByteArray.extract a0 0 (IntKind.i64.wrap ((IntKind.i64.wrap (Int.tdiv (min (ByteArray.size a0 : Int) (1000 : Int)) (2 : Int))) * (2 : Int))).toNat) : Int) (2 : Int)))) * (2 : Int))).toNat) ++ (strOf [(IntKind.u8.wrap (shR .u16 a2 (8 : Int))), (IntKind.u8.wrap a2)])) + ByteArray.size (ByteArray.extract (ByteArray.extract a0 0 (IntKind.i64.wrap ((IntKind.i64.wrap (Int.tdiv (min (ByteArray.size a0 : Int) (1000 : Int)) (2 : Int))) * (2 : Int))).toNat) (IntKind.i64.wrap ((IntKind.i64.wrap ((Int.tmod (bAnd .i64 a1 (65535 : Int)) (IntKind.i64.wrap (Int.tdiv (ByteArray.size (ByteArray.extract a0 0 (IntKind.i64.wrap ((IntKind.i64.wrap (Int.tdiv (min (ByteArray.size a0 : Int) (1000 : Int)) (2 : Int))) * (2 : Int))).toNat) : Int) (2 : Int)))) * (2 : Int))) + (2 : Int))).toNat (ByteArray.size (ByteArray.extract a0 0 (IntKind.i64.wrap ((IntKind.i64.wrap (Int.tdiv (min (ByteArray.size a0 : Int) (1000 : Int)) (2 : Int))) * (2 : Int))).toNat))) : Nat) : Int) ≤ 9223372036854775807)) (
           O.bind (F_csum_Sum.S k (ByteArray.extract a0 0 (IntKind.i64.wrap ((IntKind.i64.wrap (Int.tdiv (min (ByteArray.size a0 : Int) (1000 : Int)) (2 : Int))) * (2 : Int))).toNat)) fun r5 =>
           O.bind (F_csum_Update.S k r5 (bOr .u16 (shL .u16 (IntKind.u16.wrap (bt (ByteArray.extract a0 0 (IntKind.i64.wrap ((IntKind.i64.wrap (Int.tdiv (min (ByteArray.size a0 : Int) (1000 : Int)) (2 : Int))) * (2 : Int))).toNat) (IntKind.i64.wrap ((Int.tmod (bAnd .i64 a1 (65535 : Int)) (IntKind.i64.wrap (Int.tdiv (ByteArray.size (ByteArray.extract a0 0 (IntKind.i64.wrap ((IntKind.i64.wrap (Int.tdiv (min (ByteArray.size a0 : Int) (1000 : Int)) (2 : Int))) * (2 : Int))).toNat) : Int) (2 : Int)))) * (2 : Int))))) (8 : Int)) (IntKind.u16.wrap (bt (ByteArray.extract a0 0 (IntKind.i64.wrap ((IntKind.i64.wrap (Int.tdiv (min (ByteArray.size a0 : Int) (1000 : Int)) (2 : Int))) * (2 : Int))).toNat) (IntKind.i64.wrap ((IntKind.i64.wrap ((Int.tmod (bAnd .i64 a1 (65535 : Int)) (IntKind.i64.wrap (Int.tdiv (ByteArray.size (ByteArray.extract a0 0 (IntKind.i64.wrap ((IntKind.i64.wrap (Int.tdiv (min (ByteArray.size a0 : Int) (1000 : Int)) (2 : Int))) * (2 : Int))).toNat) : Int) (2 : Int)))) * (2 : Int))) + (1 : Int)))))) a2) fun r7 =>
           O.bind (F_csum_Sum.S k (((ByteArray.extract (ByteArray.extract a0 0 (IntKind.i64.wrap ((IntKind.i64.wrap (Int.tdiv (min (ByteArray.size a0 : Int) (1000 : Int)) (2 : Int))) * (2 : Int))).toNat) 0 (IntKind.i64.wrap ((Int.tmod (bAnd .i64 a1 (65535 : Int)) (IntKind.i64.wrap (Int.tdiv (ByteArray.size (ByteArray.extract a0 0 (IntKind.i64.wrap ((IntKind.i64.wrap (Int.tdiv (min (ByteArray.size a0 : Int) (1000 : Int)) (2 : Int))) * (2 : Int))).toNat) : Int) (2 : Int)))) * (2 : Int))).toNat) ++ (strOf [(IntKind.u8.wrap (shR .u16 a2 (8 : Int))), (IntKind.u8.wrap a2)])) ++ (ByteArray.extract (ByteArray.extract a0 0 (IntKind.i64.wrap ((IntKind.i64.wrap (Int.tdiv (min (ByteArray.size a0 : Int) (1000 : Int)) (2 : Int))) * (2 : Int))).toNat) (IntKind.i64.wrap ((IntKind.i64.wrap ((Int.tmod (bAnd .i64 a1 (65535 : Int)) (IntKind.i64.wrap (Int.tdiv (ByteArray.size (ByteArray.extract a0 0 (IntKind.i64.wrap ((IntKind.i64.wrap (Int.tdiv (min (ByteArray.size a0 : Int) (1000 : Int)) (2 : Int))) * (2 : Int))).toNat) : Int) (2 : Int)))) * (2 : Int))) + (2 : Int))).toNat (ByteArray.size (ByteArray.extract a0 0 (IntKind.i64.wrap ((IntKind.i64.wrap (Int.tdiv (min (ByteArray.size a0 : Int) (1000 : Int)) (2 : Int))) * (2 : Int))).toNat))))) fun r9 =>
           O.bind (F_aqueductlaw02_fixed.S k) fun r11 =>
           O.cond r11 (
            O.cond (decide (r7 = r9)) (
             .ok true) (
             O.cond (decide ((Int.tmod r7 (65535 : Int)) = (0 : Int))) (
              .ok (decide ((Int.tmod r9 (65535 : Int)) = (0 : Int)))) (
              .ok false))) (
            .ok false))))))))))
theorem F_aqueductlaw02_SumChanges.eq (k : Nat) (a0 : ByteArray) (a1 : Int) (a2 : Int) : evFn (T := Bool) tab (calOf (F_aqueductlaw02_SumChanges.cal k)) Go.Proofs.Try.f7 F_aqueductlaw02_SumChanges.nt k [.str a0, .int .i64 a1, .int .u16 a2] ⟨0, false, []⟩ (fun v st => takeR F_aqueductlaw02_SumChanges.rt v st.H .ok) panK = F_aqueductlaw02_SumChanges.S k a0 a1 a2 := by kernel_rfl
theorem F_aqueductlaw02_SumChanges.ok (k : Nat) : FnOk Try.prog 7 F_aqueductlaw02_SumChanges.as F_aqueductlaw02_SumChanges.rt (fun (x : ByteArray × Int × Int) => F_aqueductlaw02_SumChanges.S k x.1 x.2.1 x.2.2) :=
  FnOk.of_ev tab_ok (calOf_ok (F_aqueductlaw02_SumChanges.cal_ok k)) mixed Try.func7 F_aqueductlaw02_SumChanges.nt k (fun _ => rfl) (fun (x : ByteArray × Int × Int) => F_aqueductlaw02_SumChanges.eq k x.1 x.2.1 x.2.2)
theorem F_aqueductlaw02_SumChanges.hd {T : Type} (k : Nat) : HdOk Try.prog 7 (pureH (T := T) F_aqueductlaw02_SumChanges.as F_aqueductlaw02_SumChanges.rt (fun (x : ByteArray × Int × Int) => F_aqueductlaw02_SumChanges.S k x.1 x.2.1 x.2.2)) :=
  pureH_ok rfl rfl (F_aqueductlaw02_SumChanges.ok k) Try.call7
end Go.Proofs.Ytmpmdfgjejkaiaa
