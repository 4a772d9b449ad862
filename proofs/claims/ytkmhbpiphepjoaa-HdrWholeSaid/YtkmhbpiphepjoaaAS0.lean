/- What this seat's functions come to, as plain functions, each with the proof that the code does just that. Printed by a program of this repo (wip/gen2/gen.py). -/
import Derived.Test.YtkmhbpiphepjoaaATab
namespace Go.Proofs.Ytkmhbpiphepjoaa
open Go.Aq
set_option linter.unusedVariables false
set_option maxRecDepth 100000
/-! ### aqueduct/csum.fold: function 65 -/
noncomputable def F_csum_fold.as : As := .some (.one (.leaf (.int .u32)))
noncomputable def F_csum_fold.rt : Rt := .val (.leaf (.int .u16))
noncomputable def F_csum_fold.nt : Notes := ⟨[(1, [0])], [], [], [], []⟩
noncomputable def F_csum_fold.cal0 {T : Type} (k : Nat) : List (FuncId × Hd T) := []
theorem F_csum_fold.cal0_ok {T : Type} (k : Nat) : HdsOk Try.prog (F_csum_fold.cal0 (T := T) k) := trivial
noncomputable def F_csum_fold.cal {T : Type} (k : Nat) : List (FuncId × Hd T) := F_csum_fold.cal0 k
theorem F_csum_fold.cal_ok {T : Type} (k : Nat) : HdsOk Try.prog (F_csum_fold.cal (T := T) k) := F_csum_fold.cal0_ok k
noncomputable def F_csum_fold.l0_b (k : Nat) (R_l0 : Int → O Int) (v1 : Int) : O Int :=
  O.cond (decide (v1 > (65535 : Int))) (
   R_l0 (IntKind.u32.wrap ((bAnd .u32 v1 (65535 : Int)) + (shR .u32 v1 (16 : Int))))) (
   .ok (IntKind.u16.wrap v1))
noncomputable def F_csum_fold.l0 (k : Nat) : Nat → Int → O Int
  | 0, _ => .no
  | j + 1, v1 => F_csum_fold.l0_b k (F_csum_fold.l0 k j) v1
theorem F_csum_fold.l0_eq (k : Nat) : ∀ (j : Nat) (v1 : Int), loopAt (T := Int) tab (calOf (F_csum_fold.cal k)) Go.Proofs.Try.f65.ntmps F_csum_fold.nt k [] [.r, .l, .b] (bodyOf Go.Proofs.Try.f65) (finK tab Go.Proofs.Try.f65.results.toList (fun v st => takeR F_csum_fold.rt v st.H .ok) panK) j ⟨[(0, .int .u32 v1)], [], 0, []⟩ ⟨0, true, []⟩ = F_csum_fold.l0 k j v1 := by
  intro j
  induction j with
  | zero => intro v1; rfl
  | succ j ih =>
    intro v1
    have rs : (fun (v1' : Int) => loopAt (T := Int) tab (calOf (F_csum_fold.cal k)) Go.Proofs.Try.f65.ntmps F_csum_fold.nt k [] [.r, .l, .b] (bodyOf Go.Proofs.Try.f65) (finK tab Go.Proofs.Try.f65.results.toList (fun v st => takeR F_csum_fold.rt v st.H .ok) panK) j ⟨[(0, .int .u32 v1')], [], 0, []⟩ ⟨0, true, []⟩) = F_csum_fold.l0 k j := by funext v1'; exact ih v1'
    have h : loopAt (T := Int) tab (calOf (F_csum_fold.cal k)) Go.Proofs.Try.f65.ntmps F_csum_fold.nt k [] [.r, .l, .b] (bodyOf Go.Proofs.Try.f65) (finK tab Go.Proofs.Try.f65.results.toList (fun v st => takeR F_csum_fold.rt v st.H .ok) panK) (j + 1) ⟨[(0, .int .u32 v1)], [], 0, []⟩ ⟨0, true, []⟩ = F_csum_fold.l0_b k ((fun (v1' : Int) => loopAt (T := Int) tab (calOf (F_csum_fold.cal k)) Go.Proofs.Try.f65.ntmps F_csum_fold.nt k [] [.r, .l, .b] (bodyOf Go.Proofs.Try.f65) (finK tab Go.Proofs.Try.f65.results.toList (fun v st => takeR F_csum_fold.rt v st.H .ok) panK) j ⟨[(0, .int .u32 v1')], [], 0, []⟩ ⟨0, true, []⟩)) v1 := by kernel_rfl
    exact h.trans (by rw [rs]; rfl)
noncomputable def F_csum_fold.top (k : Nat) (a0 : Int) (D_l0 : Int → O Int) : O Int :=
  D_l0 a0
noncomputable def F_csum_fold.S (k : Nat) (a0 : Int) : O Int := F_csum_fold.top k a0 ((fun (v1 : Int) => F_csum_fold.l0 k k v1))
theorem F_csum_fold.eq (k : Nat) (a0 : Int) : evFn (T := Int) tab (calOf (F_csum_fold.cal k)) Go.Proofs.Try.f65 F_csum_fold.nt k [.int .u32 a0] [] ⟨0, false, []⟩ (fun v st => takeR F_csum_fold.rt v st.H .ok) panK = F_csum_fold.S k a0 := by
  have e0 : (fun (v1 : Int) => loopAt (T := Int) tab (calOf (F_csum_fold.cal k)) Go.Proofs.Try.f65.ntmps F_csum_fold.nt k [] [.r, .l, .b] (bodyOf Go.Proofs.Try.f65) (finK tab Go.Proofs.Try.f65.results.toList (fun v st => takeR F_csum_fold.rt v st.H .ok) panK) k ⟨[(0, .int .u32 v1)], [], 0, []⟩ ⟨0, true, []⟩) = (fun (v1 : Int) => F_csum_fold.l0 k k v1) := by funext v1; exact F_csum_fold.l0_eq k k v1
  have h : evFn (T := Int) tab (calOf (F_csum_fold.cal k)) Go.Proofs.Try.f65 F_csum_fold.nt k [.int .u32 a0] [] ⟨0, false, []⟩ (fun v st => takeR F_csum_fold.rt v st.H .ok) panK = F_csum_fold.top k a0 ((fun (v1 : Int) => loopAt (T := Int) tab (calOf (F_csum_fold.cal k)) Go.Proofs.Try.f65.ntmps F_csum_fold.nt k [] [.r, .l, .b] (bodyOf Go.Proofs.Try.f65) (finK tab Go.Proofs.Try.f65.results.toList (fun v st => takeR F_csum_fold.rt v st.H .ok) panK) k ⟨[(0, .int .u32 v1)], [], 0, []⟩ ⟨0, true, []⟩)) := by kernel_rfl
  exact h.trans (by rw [e0]; rfl)
theorem F_csum_fold.ok (k : Nat) : FnOk Try.prog 65 F_csum_fold.as F_csum_fold.rt (fun (x : Int) => F_csum_fold.S k x) :=
  FnOk.of_ev tab_ok (calOf_ok (F_csum_fold.cal_ok k)) mixed Try.func65 F_csum_fold.nt k (fun _ => rfl) (fun (x : Int) => F_csum_fold.eq k x)
theorem F_csum_fold.hd {T : Type} (k : Nat) : HdOk Try.prog 65 (pureN (T := T) F_csum_fold.as F_csum_fold.rt (fun (x : Int) => F_csum_fold.S k x)) :=
  pureN_ok rfl rfl (F_csum_fold.ok k) Try.call65
/-! ### aqueduct/csum.On: function 30 -/
noncomputable def F_csum_On.as : As := .some (.cons (.leaf (.int .u16)) (.one (.leaf .str)))
noncomputable def F_csum_On.rt : Rt := .val (.leaf (.int .u16))
noncomputable def F_csum_On.nt : Notes := ⟨[(4, [1, 5, 6, 12, 13])], [], [(6, [0, 1, 2, 3, 4, 5, 6, 7, 8, 9, 10, 11, 12, 13, 14])], [], []⟩
noncomputable def F_csum_On.cal0 {T : Type} (k : Nat) : List (FuncId × Hd T) := [(65, pureN F_csum_fold.as F_csum_fold.rt (fun (x : Int) => F_csum_fold.S k x))]
theorem F_csum_On.cal0_ok {T : Type} (k : Nat) : HdsOk Try.prog (F_csum_On.cal0 (T := T) k) := ⟨F_csum_fold.hd k, trivial⟩
noncomputable def F_csum_On.nt64 : Notes := ⟨[], [], [], [], []⟩
noncomputable def F_csum_On.cal1 {T : Type} (k : Nat) : List (FuncId × Hd T) := (64, inlH tab (calOf (F_csum_On.cal0 k)) Go.Proofs.Try.f64 F_csum_On.nt64 k) :: F_csum_On.cal0 k
theorem F_csum_On.cal1_ok {T : Type} (k : Nat) : HdsOk Try.prog (F_csum_On.cal1 (T := T) k) := ⟨inlH_ok tab_ok (calOf_ok (F_csum_On.cal0_ok k)) mixed Try.func64 F_csum_On.nt64 k Try.call64, F_csum_On.cal0_ok k⟩
noncomputable def F_csum_On.cal {T : Type} (k : Nat) : List (FuncId × Hd T) := F_csum_On.cal1 k
theorem F_csum_On.cal_ok {T : Type} (k : Nat) : HdsOk Try.prog (F_csum_On.cal (T := T) k) := F_csum_On.cal1_ok k
noncomputable def F_csum_On.l0_b (k : Nat) (a1 : ByteArray) (R_l0 : Int → Int → O Int) (v3 : Int) (v4 : Int) : O Int :=
  O.cond (decide (v3 < (IntKind.i64.wrap (Int.tdiv (ByteArray.size a1 : Int) (2 : Int))))) (
   O.chk (decide (0 ≤ (IntKind.i64.wrap ((2 : Int) * v3)) ∧ (IntKind.i64.wrap ((2 : Int) * v3)) < (ByteArray.size a1 : Int))) (
    O.chk (decide (0 ≤ (IntKind.i64.wrap ((IntKind.i64.wrap ((2 : Int) * v3)) + (1 : Int))) ∧ (IntKind.i64.wrap ((IntKind.i64.wrap ((2 : Int) * v3)) + (1 : Int))) < (ByteArray.size a1 : Int))) (
     O.bind (F_csum_fold.S k (IntKind.u32.wrap ((IntKind.u32.wrap v4) + (bOr .u32 (shL .u32 (IntKind.u32.wrap (bt a1 (IntKind.i64.wrap ((2 : Int) * v3)))) (8 : Int)) (IntKind.u32.wrap (bt a1 (IntKind.i64.wrap ((IntKind.i64.wrap ((2 : Int) * v3)) + (1 : Int))))))))) fun r7 =>
     R_l0 (IntKind.i64.wrap (v3 + (1 : Int))) r7))) (
   O.cond (decide ((Int.tmod (ByteArray.size a1 : Int) (2 : Int)) = (1 : Int))) (
    O.chk (decide (0 ≤ (IntKind.i64.wrap ((ByteArray.size a1 : Int) - (1 : Int))) ∧ (IntKind.i64.wrap ((ByteArray.size a1 : Int) - (1 : Int))) < (ByteArray.size a1 : Int))) (
     O.bind (F_csum_fold.S k (IntKind.u32.wrap ((IntKind.u32.wrap v4) + (shL .u32 (IntKind.u32.wrap (bt a1 (IntKind.i64.wrap ((ByteArray.size a1 : Int) - (1 : Int))))) (8 : Int))))) fun r9 =>
     .ok r9)) (
    .ok v4))
noncomputable def F_csum_On.l0 (k : Nat) (a1 : ByteArray) : Nat → Int → Int → O Int
  | 0, _, _ => .no
  | j + 1, v3, v4 => F_csum_On.l0_b k a1 (F_csum_On.l0 k a1 j) v3 v4
theorem F_csum_On.l0_eq (k : Nat) (a1 : ByteArray) : ∀ (j : Nat) (v3 : Int) (v4 : Int), loopAt (T := Int) tab (calOf (F_csum_On.cal k)) Go.Proofs.Try.f30.ntmps F_csum_On.nt k [] [.r, .r, .r, .l, .r, .b] (bodyOf Go.Proofs.Try.f30) (finK tab Go.Proofs.Try.f30.results.toList (fun v st => takeR F_csum_On.rt v st.H .ok) panK) j ⟨[(1, .str a1), (5, .ptr 0 0), (6, .clo 64 [.ptr 0 0]), (12, .int .i64 (IntKind.i64.wrap (Int.tdiv (ByteArray.size a1 : Int) (2 : Int)))), (13, .int .i64 v3)], [], 0, []⟩ ⟨1, true, [(0, .cells 62 [.int .u16 v4])]⟩ = F_csum_On.l0 k a1 j v3 v4 := by
  intro j
  induction j with
  | zero => intro v3 v4; rfl
  | succ j ih =>
    intro v3 v4
    have rs : (fun (v3' : Int) (v4' : Int) => loopAt (T := Int) tab (calOf (F_csum_On.cal k)) Go.Proofs.Try.f30.ntmps F_csum_On.nt k [] [.r, .r, .r, .l, .r, .b] (bodyOf Go.Proofs.Try.f30) (finK tab Go.Proofs.Try.f30.results.toList (fun v st => takeR F_csum_On.rt v st.H .ok) panK) j ⟨[(1, .str a1), (5, .ptr 0 0), (6, .clo 64 [.ptr 0 0]), (12, .int .i64 (IntKind.i64.wrap (Int.tdiv (ByteArray.size a1 : Int) (2 : Int)))), (13, .int .i64 v3')], [], 0, []⟩ ⟨1, true, [(0, .cells 62 [.int .u16 v4'])]⟩) = F_csum_On.l0 k a1 j := by funext v3' v4'; exact ih v3' v4'
    have h : loopAt (T := Int) tab (calOf (F_csum_On.cal k)) Go.Proofs.Try.f30.ntmps F_csum_On.nt k [] [.r, .r, .r, .l, .r, .b] (bodyOf Go.Proofs.Try.f30) (finK tab Go.Proofs.Try.f30.results.toList (fun v st => takeR F_csum_On.rt v st.H .ok) panK) (j + 1) ⟨[(1, .str a1), (5, .ptr 0 0), (6, .clo 64 [.ptr 0 0]), (12, .int .i64 (IntKind.i64.wrap (Int.tdiv (ByteArray.size a1 : Int) (2 : Int)))), (13, .int .i64 v3)], [], 0, []⟩ ⟨1, true, [(0, .cells 62 [.int .u16 v4])]⟩ = F_csum_On.l0_b k a1 ((fun (v3' : Int) (v4' : Int) => loopAt (T := Int) tab (calOf (F_csum_On.cal k)) Go.Proofs.Try.f30.ntmps F_csum_On.nt k [] [.r, .r, .r, .l, .r, .b] (bodyOf Go.Proofs.Try.f30) (finK tab Go.Proofs.Try.f30.results.toList (fun v st => takeR F_csum_On.rt v st.H .ok) panK) j ⟨[(1, .str a1), (5, .ptr 0 0), (6, .clo 64 [.ptr 0 0]), (12, .int .i64 (IntKind.i64.wrap (Int.tdiv (ByteArray.size a1 : Int) (2 : Int)))), (13, .int .i64 v3')], [], 0, []⟩ ⟨1, true, [(0, .cells 62 [.int .u16 v4'])]⟩)) v3 v4 := by kernel_rfl
    exact h.trans (by rw [rs]; rfl)
noncomputable def F_csum_On.top (k : Nat) (a0 : Int) (a1 : ByteArray) (D_l0 : Int → Int → O Int) : O Int :=
  D_l0 (0 : Int) a0
noncomputable def F_csum_On.S (k : Nat) (a0 : Int) (a1 : ByteArray) : O Int := F_csum_On.top k a0 a1 ((fun (v3 : Int) (v4 : Int) => F_csum_On.l0 k a1 k v3 v4))
theorem F_csum_On.eq (k : Nat) (a0 : Int) (a1 : ByteArray) : evFn (T := Int) tab (calOf (F_csum_On.cal k)) Go.Proofs.Try.f30 F_csum_On.nt k [.int .u16 a0, .str a1] [] ⟨0, false, []⟩ (fun v st => takeR F_csum_On.rt v st.H .ok) panK = F_csum_On.S k a0 a1 := by
  have e0 : (fun (v3 : Int) (v4 : Int) => loopAt (T := Int) tab (calOf (F_csum_On.cal k)) Go.Proofs.Try.f30.ntmps F_csum_On.nt k [] [.r, .r, .r, .l, .r, .b] (bodyOf Go.Proofs.Try.f30) (finK tab Go.Proofs.Try.f30.results.toList (fun v st => takeR F_csum_On.rt v st.H .ok) panK) k ⟨[(1, .str a1), (5, .ptr 0 0), (6, .clo 64 [.ptr 0 0]), (12, .int .i64 (IntKind.i64.wrap (Int.tdiv (ByteArray.size a1 : Int) (2 : Int)))), (13, .int .i64 v3)], [], 0, []⟩ ⟨1, true, [(0, .cells 62 [.int .u16 v4])]⟩) = (fun (v3 : Int) (v4 : Int) => F_csum_On.l0 k a1 k v3 v4) := by funext v3 v4; exact F_csum_On.l0_eq k a1 k v3 v4
  have h : evFn (T := Int) tab (calOf (F_csum_On.cal k)) Go.Proofs.Try.f30 F_csum_On.nt k [.int .u16 a0, .str a1] [] ⟨0, false, []⟩ (fun v st => takeR F_csum_On.rt v st.H .ok) panK = F_csum_On.top k a0 a1 ((fun (v3 : Int) (v4 : Int) => loopAt (T := Int) tab (calOf (F_csum_On.cal k)) Go.Proofs.Try.f30.ntmps F_csum_On.nt k [] [.r, .r, .r, .l, .r, .b] (bodyOf Go.Proofs.Try.f30) (finK tab Go.Proofs.Try.f30.results.toList (fun v st => takeR F_csum_On.rt v st.H .ok) panK) k ⟨[(1, .str a1), (5, .ptr 0 0), (6, .clo 64 [.ptr 0 0]), (12, .int .i64 (IntKind.i64.wrap (Int.tdiv (ByteArray.size a1 : Int) (2 : Int)))), (13, .int .i64 v3)], [], 0, []⟩ ⟨1, true, [(0, .cells 62 [.int .u16 v4])]⟩)) := by kernel_rfl
  exact h.trans (by rw [e0]; rfl)
theorem F_csum_On.ok (k : Nat) : FnOk Try.prog 30 F_csum_On.as F_csum_On.rt (fun (x : Int × ByteArray) => F_csum_On.S k x.1 x.2) :=
  FnOk.of_ev tab_ok (calOf_ok (F_csum_On.cal_ok k)) mixed Try.func30 F_csum_On.nt k (fun _ => rfl) (fun (x : Int × ByteArray) => F_csum_On.eq k x.1 x.2)
theorem F_csum_On.hd {T : Type} (k : Nat) : HdOk Try.prog 30 (pureN (T := T) F_csum_On.as F_csum_On.rt (fun (x : Int × ByteArray) => F_csum_On.S k x.1 x.2)) :=
  pureN_ok rfl rfl (F_csum_On.ok k) Try.call30
/-! ### aqueduct/csum.Sum: function 55 -/
noncomputable def F_csum_Sum.as : As := .some (.one (.leaf .str))
noncomputable def F_csum_Sum.rt : Rt := .val (.leaf (.int .u16))
noncomputable def F_csum_Sum.nt : Notes := ⟨[], [], [], [], []⟩
noncomputable def F_csum_Sum.cal0 {T : Type} (k : Nat) : List (FuncId × Hd T) := [(30, pureN F_csum_On.as F_csum_On.rt (fun (x : Int × ByteArray) => F_csum_On.S k x.1 x.2))]
theorem F_csum_Sum.cal0_ok {T : Type} (k : Nat) : HdsOk Try.prog (F_csum_Sum.cal0 (T := T) k) := ⟨F_csum_On.hd k, trivial⟩
noncomputable def F_csum_Sum.cal {T : Type} (k : Nat) : List (FuncId × Hd T) := F_csum_Sum.cal0 k
theorem F_csum_Sum.cal_ok {T : Type} (k : Nat) : HdsOk Try.prog (F_csum_Sum.cal (T := T) k) := F_csum_Sum.cal0_ok k
noncomputable def F_csum_Sum.S (k : Nat) (a0 : ByteArray) : O Int :=
  O.bind (F_csum_On.S k (0 : Int) a0) fun r1 =>
  .ok (IntKind.u16.wrap ((65535 : Int) - r1))
theorem F_csum_Sum.eq (k : Nat) (a0 : ByteArray) : evFn (T := Int) tab (calOf (F_csum_Sum.cal k)) Go.Proofs.Try.f55 F_csum_Sum.nt k [.str a0] [] ⟨0, false, []⟩ (fun v st => takeR F_csum_Sum.rt v st.H .ok) panK = F_csum_Sum.S k a0 := by kernel_rfl
theorem F_csum_Sum.ok (k : Nat) : FnOk Try.prog 55 F_csum_Sum.as F_csum_Sum.rt (fun (x : ByteArray) => F_csum_Sum.S k x) :=
  FnOk.of_ev tab_ok (calOf_ok (F_csum_Sum.cal_ok k)) mixed Try.func55 F_csum_Sum.nt k (fun _ => rfl) (fun (x : ByteArray) => F_csum_Sum.eq k x)
theorem F_csum_Sum.hd {T : Type} (k : Nat) : HdOk Try.prog 55 (pureN (T := T) F_csum_Sum.as F_csum_Sum.rt (fun (x : ByteArray) => F_csum_Sum.S k x)) :=
  pureN_ok rfl rfl (F_csum_Sum.ok k) Try.call55
end Go.Proofs.Ytkmhbpiphepjoaa
