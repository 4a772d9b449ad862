/- What this seat's functions come to, as plain functions, each with the proof that the code does just that. Printed by a program of this repo (wip/gen2/gen.py). -/
import Derived.Test.YtojomdlccjlioaaATab
namespace Go.Proofs.Ytojomdlccjlioaa
open Go.Aq
set_option linter.unusedVariables false
set_option maxRecDepth 100000
/-! ### aqueduct/toeplitz.bit: function 70 -/
noncomputable def F_toeplitz_bit.as : As := .some (.cons (.leaf .str) (.one (.leaf (.int .i64))))
noncomputable def F_toeplitz_bit.rt : Rt := .val (.leaf (.int .u32))
noncomputable def F_toeplitz_bit.nt : Notes := ⟨[], [], [], [], []⟩
noncomputable def F_toeplitz_bit.cal0 {T : Type} (k : Nat) : List (FuncId × Hd T) := []
theorem F_toeplitz_bit.cal0_ok {T : Type} (k : Nat) : HdsOk Try.prog (F_toeplitz_bit.cal0 (T := T) k) := trivial
noncomputable def F_toeplitz_bit.cal {T : Type} (k : Nat) : List (FuncId × Hd T) := F_toeplitz_bit.cal0 k
theorem F_toeplitz_bit.cal_ok {T : Type} (k : Nat) : HdsOk Try.prog (F_toeplitz_bit.cal (T := T) k) := F_toeplitz_bit.cal0_ok k
noncomputable def F_toeplitz_bit.S (k : Nat) (a0 : ByteArray) (a1 : Int) : O Int :=
  O.cond (decide (a1 < (0 : Int))) (
   .ok (0 : Int)) (
   O.cond (decide (a1 ≥ (IntKind.i64.wrap ((8 : Int) * (ByteArray.size a0 : Int))))) (
    .ok (0 : Int)) (
    O.chk (decide (0 ≤ (IntKind.i64.wrap (Int.tdiv a1 (8 : Int))) ∧ (IntKind.i64.wrap (Int.tdiv a1 (8 : Int))) < (ByteArray.size a0 : Int))) (
     O.chk (decide (0 ≤ (IntKind.i64.wrap ((7 : Int) - (Int.tmod a1 (8 : Int)))))) (
      .ok (bAnd .u32 (IntKind.u32.wrap (shR .u8 (bt a0 (IntKind.i64.wrap (Int.tdiv a1 (8 : Int)))) (IntKind.i64.wrap ((7 : Int) - (Int.tmod a1 (8 : Int)))))) (1 : Int))))))
theorem F_toeplitz_bit.eq (k : Nat) (a0 : ByteArray) (a1 : Int) : evFn (T := Int) tab (calOf (F_toeplitz_bit.cal k)) Go.Proofs.Try.f70 F_toeplitz_bit.nt k [.str a0, .int .i64 a1] [] ⟨0, false, []⟩ (fun v st => takeR F_toeplitz_bit.rt v st.H .ok) panK = F_toeplitz_bit.S k a0 a1 := by kernel_rfl
theorem F_toeplitz_bit.ok (k : Nat) : FnOk Try.prog 70 F_toeplitz_bit.as F_toeplitz_bit.rt (fun (x : ByteArray × Int) => F_toeplitz_bit.S k x.1 x.2) :=
  FnOk.of_ev tab_ok (calOf_ok (F_toeplitz_bit.cal_ok k)) mixed Try.func70 F_toeplitz_bit.nt k (fun _ => rfl) (fun (x : ByteArray × Int) => F_toeplitz_bit.eq k x.1 x.2)
theorem F_toeplitz_bit.hd {T : Type} (k : Nat) : HdOk Try.prog 70 (pureN (T := T) F_toeplitz_bit.as F_toeplitz_bit.rt (fun (x : ByteArray × Int) => F_toeplitz_bit.S k x.1 x.2)) :=
  pureN_ok rfl rfl (F_toeplitz_bit.ok k) Try.call70
/-! ### aqueduct/toeplitz.Window: function 61 -/
noncomputable def F_toeplitz_Window.as : As := .some (.cons (.leaf .str) (.one (.leaf (.int .i64))))
noncomputable def F_toeplitz_Window.rt : Rt := .val (.leaf (.int .u32))
noncomputable def F_toeplitz_Window.nt : Notes := ⟨[(5, [0, 1, 5, 16])], [], [], [], []⟩
noncomputable def F_toeplitz_Window.cal0 {T : Type} (k : Nat) : List (FuncId × Hd T) := [(70, pureN F_toeplitz_bit.as F_toeplitz_bit.rt (fun (x : ByteArray × Int) => F_toeplitz_bit.S k x.1 x.2))]
theorem F_toeplitz_Window.cal0_ok {T : Type} (k : Nat) : HdsOk Try.prog (F_toeplitz_Window.cal0 (T := T) k) := ⟨F_toeplitz_bit.hd k, trivial⟩
noncomputable def F_toeplitz_Window.cal {T : Type} (k : Nat) : List (FuncId × Hd T) := F_toeplitz_Window.cal0 k
theorem F_toeplitz_Window.cal_ok {T : Type} (k : Nat) : HdsOk Try.prog (F_toeplitz_Window.cal (T := T) k) := F_toeplitz_Window.cal0_ok k
noncomputable def F_toeplitz_Window.l0_b (k : Nat) (a0 : ByteArray) (a1 : Int) (R_l0 : Int → Int → O Int) (v3 : Int) (v4 : Int) : O Int :=
  O.cond (decide (v4 < (32 : Int))) (
   O.bind (F_toeplitz_bit.S k a0 (IntKind.i64.wrap (a1 + v4))) fun r7 =>
   R_l0 (bOr .u32 (shL .u32 v3 (1 : Int)) r7) (IntKind.i64.wrap (v4 + (1 : Int)))) (
   .ok v3)
noncomputable def F_toeplitz_Window.l0 (k : Nat) (a0 : ByteArray) (a1 : Int) : Nat → Int → Int → O Int
  | 0, _, _ => .no
  | j + 1, v3, v4 => F_toeplitz_Window.l0_b k a0 a1 (F_toeplitz_Window.l0 k a0 a1 j) v3 v4
theorem F_toeplitz_Window.l0_eq (k : Nat) (a0 : ByteArray) (a1 : Int) : ∀ (j : Nat) (v3 : Int) (v4 : Int), loopAt (T := Int) tab (calOf (F_toeplitz_Window.cal k)) Go.Proofs.Try.f61.ntmps F_toeplitz_Window.nt k [] [.r, .r, .r, .l, .r, .b] (bodyOf Go.Proofs.Try.f61) (finK tab Go.Proofs.Try.f61.results.toList (fun v st => takeR F_toeplitz_Window.rt v st.H .ok) panK) j ⟨[(0, .str a0), (1, .int .i64 a1), (5, .int .u32 v3), (16, .int .i64 v4)], [], 0, []⟩ ⟨0, true, []⟩ = F_toeplitz_Window.l0 k a0 a1 j v3 v4 := by
  intro j
  induction j with
  | zero => intro v3 v4; rfl
  | succ j ih =>
    intro v3 v4
    have rs : (fun (v3' : Int) (v4' : Int) => loopAt (T := Int) tab (calOf (F_toeplitz_Window.cal k)) Go.Proofs.Try.f61.ntmps F_toeplitz_Window.nt k [] [.r, .r, .r, .l, .r, .b] (bodyOf Go.Proofs.Try.f61) (finK tab Go.Proofs.Try.f61.results.toList (fun v st => takeR F_toeplitz_Window.rt v st.H .ok) panK) j ⟨[(0, .str a0), (1, .int .i64 a1), (5, .int .u32 v3'), (16, .int .i64 v4')], [], 0, []⟩ ⟨0, true, []⟩) = F_toeplitz_Window.l0 k a0 a1 j := by funext v3' v4'; exact ih v3' v4'
    have h : loopAt (T := Int) tab (calOf (F_toeplitz_Window.cal k)) Go.Proofs.Try.f61.ntmps F_toeplitz_Window.nt k [] [.r, .r, .r, .l, .r, .b] (bodyOf Go.Proofs.Try.f61) (finK tab Go.Proofs.Try.f61.results.toList (fun v st => takeR F_toeplitz_Window.rt v st.H .ok) panK) (j + 1) ⟨[(0, .str a0), (1, .int .i64 a1), (5, .int .u32 v3), (16, .int .i64 v4)], [], 0, []⟩ ⟨0, true, []⟩ = F_toeplitz_Window.l0_b k a0 a1 ((fun (v3' : Int) (v4' : Int) => loopAt (T := Int) tab (calOf (F_toeplitz_Window.cal k)) Go.Proofs.Try.f61.ntmps F_toeplitz_Window.nt k [] [.r, .r, .r, .l, .r, .b] (bodyOf Go.Proofs.Try.f61) (finK tab Go.Proofs.Try.f61.results.toList (fun v st => takeR F_toeplitz_Window.rt v st.H .ok) panK) j ⟨[(0, .str a0), (1, .int .i64 a1), (5, .int .u32 v3'), (16, .int .i64 v4')], [], 0, []⟩ ⟨0, true, []⟩)) v3 v4 := by kernel_rfl
    exact h.trans (by rw [rs]; rfl)
noncomputable def F_toeplitz_Window.top (k : Nat) (a0 : ByteArray) (a1 : Int) (D_l0 : Int → Int → O Int) : O Int :=
  O.cond (decide (a1 < (-32 : Int))) (
   .ok (0 : Int)) (
   O.cond (decide (a1 > (IntKind.i64.wrap ((8 : Int) * (ByteArray.size a0 : Int))))) (
    .ok (0 : Int)) (
    D_l0 (0 : Int) (0 : Int)))
noncomputable def F_toeplitz_Window.S (k : Nat) (a0 : ByteArray) (a1 : Int) : O Int := F_toeplitz_Window.top k a0 a1 ((fun (v3 : Int) (v4 : Int) => F_toeplitz_Window.l0 k a0 a1 k v3 v4))
theorem F_toeplitz_Window.eq (k : Nat) (a0 : ByteArray) (a1 : Int) : evFn (T := Int) tab (calOf (F_toeplitz_Window.cal k)) Go.Proofs.Try.f61 F_toeplitz_Window.nt k [.str a0, .int .i64 a1] [] ⟨0, false, []⟩ (fun v st => takeR F_toeplitz_Window.rt v st.H .ok) panK = F_toeplitz_Window.S k a0 a1 := by
  have e0 : (fun (v3 : Int) (v4 : Int) => loopAt (T := Int) tab (calOf (F_toeplitz_Window.cal k)) Go.Proofs.Try.f61.ntmps F_toeplitz_Window.nt k [] [.r, .r, .r, .l, .r, .b] (bodyOf Go.Proofs.Try.f61) (finK tab Go.Proofs.Try.f61.results.toList (fun v st => takeR F_toeplitz_Window.rt v st.H .ok) panK) k ⟨[(0, .str a0), (1, .int .i64 a1), (5, .int .u32 v3), (16, .int .i64 v4)], [], 0, []⟩ ⟨0, true, []⟩) = (fun (v3 : Int) (v4 : Int) => F_toeplitz_Window.l0 k a0 a1 k v3 v4) := by funext v3 v4; exact F_toeplitz_Window.l0_eq k a0 a1 k v3 v4
  have h : evFn (T := Int) tab (calOf (F_toeplitz_Window.cal k)) Go.Proofs.Try.f61 F_toeplitz_Window.nt k [.str a0, .int .i64 a1] [] ⟨0, false, []⟩ (fun v st => takeR F_toeplitz_Window.rt v st.H .ok) panK = F_toeplitz_Window.top k a0 a1 ((fun (v3 : Int) (v4 : Int) => loopAt (T := Int) tab (calOf (F_toeplitz_Window.cal k)) Go.Proofs.Try.f61.ntmps F_toeplitz_Window.nt k [] [.r, .r, .r, .l, .r, .b] (bodyOf Go.Proofs.Try.f61) (finK tab Go.Proofs.Try.f61.results.toList (fun v st => takeR F_toeplitz_Window.rt v st.H .ok) panK) k ⟨[(0, .str a0), (1, .int .i64 a1), (5, .int .u32 v3), (16, .int .i64 v4)], [], 0, []⟩ ⟨0, true, []⟩)) := by kernel_rfl
  exact h.trans (by rw [e0]; rfl)
theorem F_toeplitz_Window.ok (k : Nat) : FnOk Try.prog 61 F_toeplitz_Window.as F_toeplitz_Window.rt (fun (x : ByteArray × Int) => F_toeplitz_Window.S k x.1 x.2) :=
  FnOk.of_ev tab_ok (calOf_ok (F_toeplitz_Window.cal_ok k)) mixed Try.func61 F_toeplitz_Window.nt k (fun _ => rfl) (fun (x : ByteArray × Int) => F_toeplitz_Window.eq k x.1 x.2)
theorem F_toeplitz_Window.hd {T : Type} (k : Nat) : HdOk Try.prog 61 (pureN (T := T) F_toeplitz_Window.as F_toeplitz_Window.rt (fun (x : ByteArray × Int) => F_toeplitz_Window.S k x.1 x.2)) :=
  pureN_ok rfl rfl (F_toeplitz_Window.ok k) Try.call61
/-! ### aqueduct/aqueductref03.Bit: function 39 -/
noncomputable def F_aqueductref03_Bit.as : As := .some (.cons (.leaf .str) (.one (.leaf (.int .i64))))
noncomputable def F_aqueductref03_Bit.rt : Rt := .val (.leaf (.int .i64))
noncomputable def F_aqueductref03_Bit.nt : Notes := ⟨[(5, [5, 6])], [], [], [], []⟩
noncomputable def F_aqueductref03_Bit.cal0 {T : Type} (k : Nat) : List (FuncId × Hd T) := []
theorem F_aqueductref03_Bit.cal0_ok {T : Type} (k : Nat) : HdsOk Try.prog (F_aqueductref03_Bit.cal0 (T := T) k) := trivial
noncomputable def F_aqueductref03_Bit.cal {T : Type} (k : Nat) : List (FuncId × Hd T) := F_aqueductref03_Bit.cal0 k
theorem F_aqueductref03_Bit.cal_ok {T : Type} (k : Nat) : HdsOk Try.prog (F_aqueductref03_Bit.cal (T := T) k) := F_aqueductref03_Bit.cal0_ok k
noncomputable def F_aqueductref03_Bit.l0_b (k : Nat) (R_l0 : Int → Int → O Int) (v1 : Int) (v2 : Int) : O Int :=
  O.cond (decide (v2 < (7 : Int))) (
   R_l0 (IntKind.i64.wrap (Int.tdiv v1 (2 : Int))) (IntKind.i64.wrap (v2 + (1 : Int)))) (
   .ok (Int.tmod v1 (2 : Int)))
noncomputable def F_aqueductref03_Bit.l0 (k : Nat) : Nat → Int → Int → O Int
  | 0, _, _ => .no
  | j + 1, v1, v2 => F_aqueductref03_Bit.l0_b k (F_aqueductref03_Bit.l0 k j) v1 v2
theorem F_aqueductref03_Bit.l0_eq (k : Nat) : ∀ (j : Nat) (v1 : Int) (v2 : Int), loopAt (T := Int) tab (calOf (F_aqueductref03_Bit.cal k)) Go.Proofs.Try.f39.ntmps F_aqueductref03_Bit.nt k [] [.r, .r, .r, .l, .r, .b] (bodyOf Go.Proofs.Try.f39) (finK tab Go.Proofs.Try.f39.results.toList (fun v st => takeR F_aqueductref03_Bit.rt v st.H .ok) panK) j ⟨[(5, .int .i64 v1), (6, .int .i64 v2)], [], 0, []⟩ ⟨0, true, []⟩ = F_aqueductref03_Bit.l0 k j v1 v2 := by
  intro j
  induction j with
  | zero => intro v1 v2; rfl
  | succ j ih =>
    intro v1 v2
    have rs : (fun (v1' : Int) (v2' : Int) => loopAt (T := Int) tab (calOf (F_aqueductref03_Bit.cal k)) Go.Proofs.Try.f39.ntmps F_aqueductref03_Bit.nt k [] [.r, .r, .r, .l, .r, .b] (bodyOf Go.Proofs.Try.f39) (finK tab Go.Proofs.Try.f39.results.toList (fun v st => takeR F_aqueductref03_Bit.rt v st.H .ok) panK) j ⟨[(5, .int .i64 v1'), (6, .int .i64 v2')], [], 0, []⟩ ⟨0, true, []⟩) = F_aqueductref03_Bit.l0 k j := by funext v1' v2'; exact ih v1' v2'
    have h : loopAt (T := Int) tab (calOf (F_aqueductref03_Bit.cal k)) Go.Proofs.Try.f39.ntmps F_aqueductref03_Bit.nt k [] [.r, .r, .r, .l, .r, .b] (bodyOf Go.Proofs.Try.f39) (finK tab Go.Proofs.Try.f39.results.toList (fun v st => takeR F_aqueductref03_Bit.rt v st.H .ok) panK) (j + 1) ⟨[(5, .int .i64 v1), (6, .int .i64 v2)], [], 0, []⟩ ⟨0, true, []⟩ = F_aqueductref03_Bit.l0_b k ((fun (v1' : Int) (v2' : Int) => loopAt (T := Int) tab (calOf (F_aqueductref03_Bit.cal k)) Go.Proofs.Try.f39.ntmps F_aqueductref03_Bit.nt k [] [.r, .r, .r, .l, .r, .b] (bodyOf Go.Proofs.Try.f39) (finK tab Go.Proofs.Try.f39.results.toList (fun v st => takeR F_aqueductref03_Bit.rt v st.H .ok) panK) j ⟨[(5, .int .i64 v1'), (6, .int .i64 v2')], [], 0, []⟩ ⟨0, true, []⟩)) v1 v2 := by kernel_rfl
    exact h.trans (by rw [rs]; rfl)
noncomputable def F_aqueductref03_Bit.top (k : Nat) (a0 : ByteArray) (a1 : Int) (D_l0 : Int → Int → O Int) : O Int :=
  O.cond (decide (a1 < (0 : Int))) (
   .ok (0 : Int)) (
   O.cond (decide (a1 ≥ (IntKind.i64.wrap ((8 : Int) * (ByteArray.size a0 : Int))))) (
    .ok (0 : Int)) (
    O.chk (decide (0 ≤ (IntKind.i64.wrap (Int.tdiv a1 (8 : Int))) ∧ (IntKind.i64.wrap (Int.tdiv a1 (8 : Int))) < (ByteArray.size a0 : Int))) (
     D_l0 (IntKind.i64.wrap (bt a0 (IntKind.i64.wrap (Int.tdiv a1 (8 : Int))))) (Int.tmod a1 (8 : Int)))))
noncomputable def F_aqueductref03_Bit.S (k : Nat) (a0 : ByteArray) (a1 : Int) : O Int := F_aqueductref03_Bit.top k a0 a1 ((fun (v1 : Int) (v2 : Int) => F_aqueductref03_Bit.l0 k k v1 v2))
theorem F_aqueductref03_Bit.eq (k : Nat) (a0 : ByteArray) (a1 : Int) : evFn (T := Int) tab (calOf (F_aqueductref03_Bit.cal k)) Go.Proofs.Try.f39 F_aqueductref03_Bit.nt k [.str a0, .int .i64 a1] [] ⟨0, false, []⟩ (fun v st => takeR F_aqueductref03_Bit.rt v st.H .ok) panK = F_aqueductref03_Bit.S k a0 a1 := by
  have e0 : (fun (v1 : Int) (v2 : Int) => loopAt (T := Int) tab (calOf (F_aqueductref03_Bit.cal k)) Go.Proofs.Try.f39.ntmps F_aqueductref03_Bit.nt k [] [.r, .r, .r, .l, .r, .b] (bodyOf Go.Proofs.Try.f39) (finK tab Go.Proofs.Try.f39.results.toList (fun v st => takeR F_aqueductref03_Bit.rt v st.H .ok) panK) k ⟨[(5, .int .i64 v1), (6, .int .i64 v2)], [], 0, []⟩ ⟨0, true, []⟩) = (fun (v1 : Int) (v2 : Int) => F_aqueductref03_Bit.l0 k k v1 v2) := by funext v1 v2; exact F_aqueductref03_Bit.l0_eq k k v1 v2
  have h : evFn (T := Int) tab (calOf (F_aqueductref03_Bit.cal k)) Go.Proofs.Try.f39 F_aqueductref03_Bit.nt k [.str a0, .int .i64 a1] [] ⟨0, false, []⟩ (fun v st => takeR F_aqueductref03_Bit.rt v st.H .ok) panK = F_aqueductref03_Bit.top k a0 a1 ((fun (v1 : Int) (v2 : Int) => loopAt (T := Int) tab (calOf (F_aqueductref03_Bit.cal k)) Go.Proofs.Try.f39.ntmps F_aqueductref03_Bit.nt k [] [.r, .r, .r, .l, .r, .b] (bodyOf Go.Proofs.Try.f39) (finK tab Go.Proofs.Try.f39.results.toList (fun v st => takeR F_aqueductref03_Bit.rt v st.H .ok) panK) k ⟨[(5, .int .i64 v1), (6, .int .i64 v2)], [], 0, []⟩ ⟨0, true, []⟩)) := by kernel_rfl
  exact h.trans (by rw [e0]; rfl)
theorem F_aqueductref03_Bit.ok (k : Nat) : FnOk Try.prog 39 F_aqueductref03_Bit.as F_aqueductref03_Bit.rt (fun (x : ByteArray × Int) => F_aqueductref03_Bit.S k x.1 x.2) :=
  FnOk.of_ev tab_ok (calOf_ok (F_aqueductref03_Bit.cal_ok k)) mixed Try.func39 F_aqueductref03_Bit.nt k (fun _ => rfl) (fun (x : ByteArray × Int) => F_aqueductref03_Bit.eq k x.1 x.2)
theorem F_aqueductref03_Bit.hd {T : Type} (k : Nat) : HdOk Try.prog 39 (pureN (T := T) F_aqueductref03_Bit.as F_aqueductref03_Bit.rt (fun (x : ByteArray × Int) => F_aqueductref03_Bit.S k x.1 x.2)) :=
  pureN_ok rfl rfl (F_aqueductref03_Bit.ok k) Try.call39
/-! ### aqueduct/aqueductref03.Window: function 40 -/
noncomputable def F_aqueductref03_Window.as : As := .some (.cons (.leaf .str) (.one (.leaf (.int .i64))))
noncomputable def F_aqueductref03_Window.rt : Rt := .val (.leaf (.int .u32))
noncomputable def F_aqueductref03_Window.nt : Notes := ⟨[(5, [0, 1, 5, 6])], [], [], [], []⟩
noncomputable def F_aqueductref03_Window.cal0 {T : Type} (k : Nat) : List (FuncId × Hd T) := [(39, pureN F_aqueductref03_Bit.as F_aqueductref03_Bit.rt (fun (x : ByteArray × Int) => F_aqueductref03_Bit.S k x.1 x.2))]
theorem F_aqueductref03_Window.cal0_ok {T : Type} (k : Nat) : HdsOk Try.prog (F_aqueductref03_Window.cal0 (T := T) k) := ⟨F_aqueductref03_Bit.hd k, trivial⟩
noncomputable def F_aqueductref03_Window.cal {T : Type} (k : Nat) : List (FuncId × Hd T) := F_aqueductref03_Window.cal0 k
theorem F_aqueductref03_Window.cal_ok {T : Type} (k : Nat) : HdsOk Try.prog (F_aqueductref03_Window.cal (T := T) k) := F_aqueductref03_Window.cal0_ok k
noncomputable def F_aqueductref03_Window.l0_b (k : Nat) (a0 : ByteArray) (a1 : Int) (R_l0 : Int → Int → O Int) (v3 : Int) (v4 : Int) : O Int :=
  O.cond (decide (v4 < (32 : Int))) (
   O.bind (F_aqueductref03_Bit.S k a0 (IntKind.i64.wrap (a1 + v4))) fun r7 =>
   R_l0 (IntKind.i64.wrap ((IntKind.i64.wrap ((2 : Int) * v3)) + r7)) (IntKind.i64.wrap (v4 + (1 : Int)))) (
   .ok (IntKind.u32.wrap v3))
noncomputable def F_aqueductref03_Window.l0 (k : Nat) (a0 : ByteArray) (a1 : Int) : Nat → Int → Int → O Int
  | 0, _, _ => .no
  | j + 1, v3, v4 => F_aqueductref03_Window.l0_b k a0 a1 (F_aqueductref03_Window.l0 k a0 a1 j) v3 v4
theorem F_aqueductref03_Window.l0_eq (k : Nat) (a0 : ByteArray) (a1 : Int) : ∀ (j : Nat) (v3 : Int) (v4 : Int), loopAt (T := Int) tab (calOf (F_aqueductref03_Window.cal k)) Go.Proofs.Try.f40.ntmps F_aqueductref03_Window.nt k [] [.r, .r, .r, .l, .r, .b] (bodyOf Go.Proofs.Try.f40) (finK tab Go.Proofs.Try.f40.results.toList (fun v st => takeR F_aqueductref03_Window.rt v st.H .ok) panK) j ⟨[(0, .str a0), (1, .int .i64 a1), (5, .int .i64 v3), (6, .int .i64 v4)], [], 0, []⟩ ⟨0, true, []⟩ = F_aqueductref03_Window.l0 k a0 a1 j v3 v4 := by
  intro j
  induction j with
  | zero => intro v3 v4; rfl
  | succ j ih =>
    intro v3 v4
    have rs : (fun (v3' : Int) (v4' : Int) => loopAt (T := Int) tab (calOf (F_aqueductref03_Window.cal k)) Go.Proofs.Try.f40.ntmps F_aqueductref03_Window.nt k [] [.r, .r, .r, .l, .r, .b] (bodyOf Go.Proofs.Try.f40) (finK tab Go.Proofs.Try.f40.results.toList (fun v st => takeR F_aqueductref03_Window.rt v st.H .ok) panK) j ⟨[(0, .str a0), (1, .int .i64 a1), (5, .int .i64 v3'), (6, .int .i64 v4')], [], 0, []⟩ ⟨0, true, []⟩) = F_aqueductref03_Window.l0 k a0 a1 j := by funext v3' v4'; exact ih v3' v4'
    have h : loopAt (T := Int) tab (calOf (F_aqueductref03_Window.cal k)) Go.Proofs.Try.f40.ntmps F_aqueductref03_Window.nt k [] [.r, .r, .r, .l, .r, .b] (bodyOf Go.Proofs.Try.f40) (finK tab Go.Proofs.Try.f40.results.toList (fun v st => takeR F_aqueductref03_Window.rt v st.H .ok) panK) (j + 1) ⟨[(0, .str a0), (1, .int .i64 a1), (5, .int .i64 v3), (6, .int .i64 v4)], [], 0, []⟩ ⟨0, true, []⟩ = F_aqueductref03_Window.l0_b k a0 a1 ((fun (v3' : Int) (v4' : Int) => loopAt (T := Int) tab (calOf (F_aqueductref03_Window.cal k)) Go.Proofs.Try.f40.ntmps F_aqueductref03_Window.nt k [] [.r, .r, .r, .l, .r, .b] (bodyOf Go.Proofs.Try.f40) (finK tab Go.Proofs.Try.f40.results.toList (fun v st => takeR F_aqueductref03_Window.rt v st.H .ok) panK) j ⟨[(0, .str a0), (1, .int .i64 a1), (5, .int .i64 v3'), (6, .int .i64 v4')], [], 0, []⟩ ⟨0, true, []⟩)) v3 v4 := by kernel_rfl
    exact h.trans (by rw [rs]; rfl)
noncomputable def F_aqueductref03_Window.top (k : Nat) (a0 : ByteArray) (a1 : Int) (D_l0 : Int → Int → O Int) : O Int :=
  O.cond (decide (a1 < (-40 : Int))) (
   .ok (0 : Int)) (
   O.cond (decide (a1 > (IntKind.i64.wrap ((8 : Int) * (ByteArray.size a0 : Int))))) (
    .ok (0 : Int)) (
    D_l0 (0 : Int) (0 : Int)))
noncomputable def F_aqueductref03_Window.S (k : Nat) (a0 : ByteArray) (a1 : Int) : O Int := F_aqueductref03_Window.top k a0 a1 ((fun (v3 : Int) (v4 : Int) => F_aqueductref03_Window.l0 k a0 a1 k v3 v4))
theorem F_aqueductref03_Window.eq (k : Nat) (a0 : ByteArray) (a1 : Int) : evFn (T := Int) tab (calOf (F_aqueductref03_Window.cal k)) Go.Proofs.Try.f40 F_aqueductref03_Window.nt k [.str a0, .int .i64 a1] [] ⟨0, false, []⟩ (fun v st => takeR F_aqueductref03_Window.rt v st.H .ok) panK = F_aqueductref03_Window.S k a0 a1 := by
  have e0 : (fun (v3 : Int) (v4 : Int) => loopAt (T := Int) tab (calOf (F_aqueductref03_Window.cal k)) Go.Proofs.Try.f40.ntmps F_aqueductref03_Window.nt k [] [.r, .r, .r, .l, .r, .b] (bodyOf Go.Proofs.Try.f40) (finK tab Go.Proofs.Try.f40.results.toList (fun v st => takeR F_aqueductref03_Window.rt v st.H .ok) panK) k ⟨[(0, .str a0), (1, .int .i64 a1), (5, .int .i64 v3), (6, .int .i64 v4)], [], 0, []⟩ ⟨0, true, []⟩) = (fun (v3 : Int) (v4 : Int) => F_aqueductref03_Window.l0 k a0 a1 k v3 v4) := by funext v3 v4; exact F_aqueductref03_Window.l0_eq k a0 a1 k v3 v4
  have h : evFn (T := Int) tab (calOf (F_aqueductref03_Window.cal k)) Go.Proofs.Try.f40 F_aqueductref03_Window.nt k [.str a0, .int .i64 a1] [] ⟨0, false, []⟩ (fun v st => takeR F_aqueductref03_Window.rt v st.H .ok) panK = F_aqueductref03_Window.top k a0 a1 ((fun (v3 : Int) (v4 : Int) => loopAt (T := Int) tab (calOf (F_aqueductref03_Window.cal k)) Go.Proofs.Try.f40.ntmps F_aqueductref03_Window.nt k [] [.r, .r, .r, .l, .r, .b] (bodyOf Go.Proofs.Try.f40) (finK tab Go.Proofs.Try.f40.results.toList (fun v st => takeR F_aqueductref03_Window.rt v st.H .ok) panK) k ⟨[(0, .str a0), (1, .int .i64 a1), (5, .int .i64 v3), (6, .int .i64 v4)], [], 0, []⟩ ⟨0, true, []⟩)) := by kernel_rfl
  exact h.trans (by rw [e0]; rfl)
theorem F_aqueductref03_Window.ok (k : Nat) : FnOk Try.prog 40 F_aqueductref03_Window.as F_aqueductref03_Window.rt (fun (x : ByteArray × Int) => F_aqueductref03_Window.S k x.1 x.2) :=
  FnOk.of_ev tab_ok (calOf_ok (F_aqueductref03_Window.cal_ok k)) mixed Try.func40 F_aqueductref03_Window.nt k (fun _ => rfl) (fun (x : ByteArray × Int) => F_aqueductref03_Window.eq k x.1 x.2)
theorem F_aqueductref03_Window.hd {T : Type} (k : Nat) : HdOk Try.prog 40 (pureN (T := T) F_aqueductref03_Window.as F_aqueductref03_Window.rt (fun (x : ByteArray × Int) => F_aqueductref03_Window.S k x.1 x.2)) :=
  pureN_ok rfl rfl (F_aqueductref03_Window.ok k) Try.call40
/-! ### aqueduct/aqueductref03.Hash: function 18 -/
noncomputable def F_aqueductref03_Hash.as : As := .some (.cons (.leaf .str) (.one (.leaf .str)))
noncomputable def F_aqueductref03_Hash.rt : Rt := .tup (.cons (.leaf (.int .u32)) (.one (.leaf (.int .i64))))
noncomputable def F_aqueductref03_Hash.nt : Notes := ⟨[(5, [0, 1, 6, 7])], [], [], [], []⟩
noncomputable def F_aqueductref03_Hash.cal0 {T : Type} (k : Nat) : List (FuncId × Hd T) := [(39, pureN F_aqueductref03_Bit.as F_aqueductref03_Bit.rt (fun (x : ByteArray × Int) => F_aqueductref03_Bit.S k x.1 x.2)), (40, pureN F_aqueductref03_Window.as F_aqueductref03_Window.rt (fun (x : ByteArray × Int) => F_aqueductref03_Window.S k x.1 x.2))]
theorem F_aqueductref03_Hash.cal0_ok {T : Type} (k : Nat) : HdsOk Try.prog (F_aqueductref03_Hash.cal0 (T := T) k) := ⟨F_aqueductref03_Bit.hd k, F_aqueductref03_Window.hd k, trivial⟩
noncomputable def F_aqueductref03_Hash.cal {T : Type} (k : Nat) : List (FuncId × Hd T) := F_aqueductref03_Hash.cal0 k
theorem F_aqueductref03_Hash.cal_ok {T : Type} (k : Nat) : HdsOk Try.prog (F_aqueductref03_Hash.cal (T := T) k) := F_aqueductref03_Hash.cal0_ok k
noncomputable def F_aqueductref03_Hash.l0_b (k : Nat) (a0 : ByteArray) (a1 : ByteArray) (R_l0 : Int → Int → O (Int × Int)) (v5 : Int) (v6 : Int) : O (Int × Int) :=
  O.cond (decide (v6 < (IntKind.i64.wrap ((8 : Int) * (ByteArray.size a1 : Int))))) (
   O.bind (F_aqueductref03_Bit.S k a1 v6) fun r11 =>
   O.cond (decide (r11 = (1 : Int))) (
    O.bind (F_aqueductref03_Window.S k a0 v6) fun r13 =>
    R_l0 (bXor .u32 v5 r13) (IntKind.i64.wrap (v6 + (1 : Int)))) (
    R_l0 v5 (IntKind.i64.wrap (v6 + (1 : Int))))) (
   .ok (v5, (0 : Int)))
noncomputable def F_aqueductref03_Hash.l0 (k : Nat) (a0 : ByteArray) (a1 : ByteArray) : Nat → Int → Int → O (Int × Int)
  | 0, _, _ => .no
  | j + 1, v5, v6 => F_aqueductref03_Hash.l0_b k a0 a1 (F_aqueductref03_Hash.l0 k a0 a1 j) v5 v6
theorem F_aqueductref03_Hash.l0_eq (k : Nat) (a0 : ByteArray) (a1 : ByteArray) : ∀ (j : Nat) (v5 : Int) (v6 : Int), loopAt (T := Int × Int) tab (calOf (F_aqueductref03_Hash.cal k)) Go.Proofs.Try.f18.ntmps F_aqueductref03_Hash.nt k [] [.r, .r, .r, .l, .r, .b] (bodyOf Go.Proofs.Try.f18) (finK tab Go.Proofs.Try.f18.results.toList (fun v st => takeR F_aqueductref03_Hash.rt v st.H .ok) panK) j ⟨[(0, .str a0), (1, .str a1), (6, .int .u32 v5), (7, .int .i64 v6)], [], 0, []⟩ ⟨0, true, []⟩ = F_aqueductref03_Hash.l0 k a0 a1 j v5 v6 := by
  intro j
  induction j with
  | zero => intro v5 v6; rfl
  | succ j ih =>
    intro v5 v6
    have rs : (fun (v5' : Int) (v6' : Int) => loopAt (T := Int × Int) tab (calOf (F_aqueductref03_Hash.cal k)) Go.Proofs.Try.f18.ntmps F_aqueductref03_Hash.nt k [] [.r, .r, .r, .l, .r, .b] (bodyOf Go.Proofs.Try.f18) (finK tab Go.Proofs.Try.f18.results.toList (fun v st => takeR F_aqueductref03_Hash.rt v st.H .ok) panK) j ⟨[(0, .str a0), (1, .str a1), (6, .int .u32 v5'), (7, .int .i64 v6')], [], 0, []⟩ ⟨0, true, []⟩) = F_aqueductref03_Hash.l0 k a0 a1 j := by funext v5' v6'; exact ih v5' v6'
    have h : loopAt (T := Int × Int) tab (calOf (F_aqueductref03_Hash.cal k)) Go.Proofs.Try.f18.ntmps F_aqueductref03_Hash.nt k [] [.r, .r, .r, .l, .r, .b] (bodyOf Go.Proofs.Try.f18) (finK tab Go.Proofs.Try.f18.results.toList (fun v st => takeR F_aqueductref03_Hash.rt v st.H .ok) panK) (j + 1) ⟨[(0, .str a0), (1, .str a1), (6, .int .u32 v5), (7, .int .i64 v6)], [], 0, []⟩ ⟨0, true, []⟩ = F_aqueductref03_Hash.l0_b k a0 a1 ((fun (v5' : Int) (v6' : Int) => loopAt (T := Int × Int) tab (calOf (F_aqueductref03_Hash.cal k)) Go.Proofs.Try.f18.ntmps F_aqueductref03_Hash.nt k [] [.r, .r, .r, .l, .r, .b] (bodyOf Go.Proofs.Try.f18) (finK tab Go.Proofs.Try.f18.results.toList (fun v st => takeR F_aqueductref03_Hash.rt v st.H .ok) panK) j ⟨[(0, .str a0), (1, .str a1), (6, .int .u32 v5'), (7, .int .i64 v6')], [], 0, []⟩ ⟨0, true, []⟩)) v5 v6 := by kernel_rfl
    exact h.trans (by rw [rs]; rfl)
noncomputable def F_aqueductref03_Hash.top (k : Nat) (a0 : ByteArray) (a1 : ByteArray) (D_l0 : Int → Int → O (Int × Int)) : O (Int × Int) :=
  O.cond (decide ((ByteArray.size a0 : Int) < (4 : Int))) (
   .ok ((0 : Int), (30 : Int))) (
   O.cond (decide ((ByteArray.size a0 : Int) > (52 : Int))) (
    .ok ((0 : Int), (30 : Int))) (
    D_l0 (0 : Int) (0 : Int)))
noncomputable def F_aqueductref03_Hash.S (k : Nat) (a0 : ByteArray) (a1 : ByteArray) : O (Int × Int) := F_aqueductref03_Hash.top k a0 a1 ((fun (v5 : Int) (v6 : Int) => F_aqueductref03_Hash.l0 k a0 a1 k v5 v6))
theorem F_aqueductref03_Hash.eq (k : Nat) (a0 : ByteArray) (a1 : ByteArray) : evFn (T := Int × Int) tab (calOf (F_aqueductref03_Hash.cal k)) Go.Proofs.Try.f18 F_aqueductref03_Hash.nt k [.str a0, .str a1] [] ⟨0, false, []⟩ (fun v st => takeR F_aqueductref03_Hash.rt v st.H .ok) panK = F_aqueductref03_Hash.S k a0 a1 := by
  have e0 : (fun (v5 : Int) (v6 : Int) => loopAt (T := Int × Int) tab (calOf (F_aqueductref03_Hash.cal k)) Go.Proofs.Try.f18.ntmps F_aqueductref03_Hash.nt k [] [.r, .r, .r, .l, .r, .b] (bodyOf Go.Proofs.Try.f18) (finK tab Go.Proofs.Try.f18.results.toList (fun v st => takeR F_aqueductref03_Hash.rt v st.H .ok) panK) k ⟨[(0, .str a0), (1, .str a1), (6, .int .u32 v5), (7, .int .i64 v6)], [], 0, []⟩ ⟨0, true, []⟩) = (fun (v5 : Int) (v6 : Int) => F_aqueductref03_Hash.l0 k a0 a1 k v5 v6) := by funext v5 v6; exact F_aqueductref03_Hash.l0_eq k a0 a1 k v5 v6
  have h : evFn (T := Int × Int) tab (calOf (F_aqueductref03_Hash.cal k)) Go.Proofs.Try.f18 F_aqueductref03_Hash.nt k [.str a0, .str a1] [] ⟨0, false, []⟩ (fun v st => takeR F_aqueductref03_Hash.rt v st.H .ok) panK = F_aqueductref03_Hash.top k a0 a1 ((fun (v5 : Int) (v6 : Int) => loopAt (T := Int × Int) tab (calOf (F_aqueductref03_Hash.cal k)) Go.Proofs.Try.f18.ntmps F_aqueductref03_Hash.nt k [] [.r, .r, .r, .l, .r, .b] (bodyOf Go.Proofs.Try.f18) (finK tab Go.Proofs.Try.f18.results.toList (fun v st => takeR F_aqueductref03_Hash.rt v st.H .ok) panK) k ⟨[(0, .str a0), (1, .str a1), (6, .int .u32 v5), (7, .int .i64 v6)], [], 0, []⟩ ⟨0, true, []⟩)) := by kernel_rfl
  exact h.trans (by rw [e0]; rfl)
theorem F_aqueductref03_Hash.ok (k : Nat) : FnOk Try.prog 18 F_aqueductref03_Hash.as F_aqueductref03_Hash.rt (fun (x : ByteArray × ByteArray) => F_aqueductref03_Hash.S k x.1 x.2) :=
  FnOk.of_ev tab_ok (calOf_ok (F_aqueductref03_Hash.cal_ok k)) mixed Try.func18 F_aqueductref03_Hash.nt k (fun _ => rfl) (fun (x : ByteArray × ByteArray) => F_aqueductref03_Hash.eq k x.1 x.2)
theorem F_aqueductref03_Hash.hd {T : Type} (k : Nat) : HdOk Try.prog 18 (pureN (T := T) F_aqueductref03_Hash.as F_aqueductref03_Hash.rt (fun (x : ByteArray × ByteArray) => F_aqueductref03_Hash.S k x.1 x.2)) :=
  pureN_ok rfl rfl (F_aqueductref03_Hash.ok k) Try.call18
end Go.Proofs.Ytojomdlccjlioaa
