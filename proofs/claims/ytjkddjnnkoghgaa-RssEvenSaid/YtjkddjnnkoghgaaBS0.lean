/- What this seat's functions come to, as plain functions, each with the proof that the code does just that. Printed by a program of this repo (wip/gen2/gen.py). -/
import Derived.Test.YtjkddjnnkoghgaaBTab
namespace Go.Proofs.Ytjkddjnnkoghgaa
open Go.Aq
set_option linter.unusedVariables false
set_option maxRecDepth 100000
/-! ### aqueduct/toeplitz.bit: function 59 -/
noncomputable def F_toeplitz_bit.as : As := .some (.cons (.leaf .str) (.one (.leaf (.int .i64))))
noncomputable def F_toeplitz_bit.rt : Rt := .val (.leaf (.int .u32))
noncomputable def F_toeplitz_bit.nt : Notes := ⟨[], [], [], [], []⟩
noncomputable def F_toeplitz_bit.cal0 {T : Type} (k : Nat) : List (FuncId × Hd T) := []
theorem F_toeplitz_bit.cal0_ok {T : Type} (k : Nat) : HdsOk Try.prog (F_toeplitz_bit.cal0 (T := T) k) := trivial
noncomputable def F_toeplitz_bit.cal {T : Type} (k : Nat) : List (FuncId × Hd T) := F_toeplitz_bit.cal0 k
theorem F_toeplitz_bit.cal_ok {T : Type} (k : Nat) : HdsOk Try.prog (F_toeplitz_bit.cal (T := T) k) := F_toeplitz_bit.cal0_ok k
noncomputable def F_toeplitz_bit.S (k : Nat) (a0 : ByteArray) (a1 : Int) : O Int :=
  O.cond (decide (a1 < (0 : Int))) (
   .ok (0 : Int)) (
   O.cond (decide (a1 ≥ (IntKind.i64.wrap ((8 : Int) * (ByteArray.size a0 : Int))))) (
    .ok (0 : Int)) (
    O.chk (decide (0 ≤ (IntKind.i64.wrap (Int.tdiv a1 (8 : Int))) ∧ (IntKind.i64.wrap (Int.tdiv a1 (8 : Int))) < (ByteArray.size a0 : Int))) (
     O.chk (decide (0 ≤ (IntKind.i64.wrap ((7 : Int) - (Int.tmod a1 (8 : Int)))))) (
      .ok (bAnd .u32 (IntKind.u32.wrap (shR .u8 (bt a0 (IntKind.i64.wrap (Int.tdiv a1 (8 : Int)))) (IntKind.i64.wrap ((7 : Int) - (Int.tmod a1 (8 : Int)))))) (1 : Int))))))
theorem F_toeplitz_bit.eq (k : Nat) (a0 : ByteArray) (a1 : Int) : evFn (T := Int) tab (calOf (F_toeplitz_bit.cal k)) Go.Proofs.Try.f59 F_toeplitz_bit.nt k [.str a0, .int .i64 a1] ⟨0, false, []⟩ (fun v st => takeR F_toeplitz_bit.rt v st.H .ok) panK = F_toeplitz_bit.S k a0 a1 := by kernel_rfl
theorem F_toeplitz_bit.ok (k : Nat) : FnOk Try.prog 59 F_toeplitz_bit.as F_toeplitz_bit.rt (fun (x : ByteArray × Int) => F_toeplitz_bit.S k x.1 x.2) :=
  FnOk.of_ev tab_ok (calOf_ok (F_toeplitz_bit.cal_ok k)) mixed Try.func59 F_toeplitz_bit.nt k (fun _ => rfl) (fun (x : ByteArray × Int) => F_toeplitz_bit.eq k x.1 x.2)
theorem F_toeplitz_bit.hd {T : Type} (k : Nat) : HdOk Try.prog 59 (pureN (T := T) F_toeplitz_bit.as F_toeplitz_bit.rt (fun (x : ByteArray × Int) => F_toeplitz_bit.S k x.1 x.2)) :=
  pureN_ok rfl rfl (F_toeplitz_bit.ok k) Try.call59
/-! ### aqueduct/toeplitz.Window: function 48 -/
noncomputable def F_toeplitz_Window.as : As := .some (.cons (.leaf .str) (.one (.leaf (.int .i64))))
noncomputable def F_toeplitz_Window.rt : Rt := .val (.leaf (.int .u32))
noncomputable def F_toeplitz_Window.nt : Notes := ⟨[(5, [0, 1, 5, 16])], [], [], [], []⟩
noncomputable def F_toeplitz_Window.cal0 {T : Type} (k : Nat) : List (FuncId × Hd T) := [(59, pureN F_toeplitz_bit.as F_toeplitz_bit.rt (fun (x : ByteArray × Int) => F_toeplitz_bit.S k x.1 x.2))]
theorem F_toeplitz_Window.cal0_ok {T : Type} (k : Nat) : HdsOk Try.prog (F_toeplitz_Window.cal0 (T := T) k) := ⟨F_toeplitz_bit.hd k, trivial⟩
noncomputable def F_toeplitz_Window.cal {T : Type} (k : Nat) : List (FuncId × Hd T) := F_toeplitz_Window.cal0 k
theorem F_toeplitz_Window.cal_ok {T : Type} (k : Nat) : HdsOk Try.prog (F_toeplitz_Window.cal (T := T) k) := F_toeplitz_Window.cal0_ok k
noncomputable def F_toeplitz_Window.l0_b (k : Nat) (a0 : ByteArray) (a1 : Int) (R_l0 : Int → Int → O Int) (v3 : Int) (v4 : Int) : O Int :=
  O.cond (decide (v4 < (32 : Int))) (
   O.bind (F_toeplitz_bit.S k a0 (IntKind.i64.wrap (a1 + v4))) fun r7 =>
   R_l0 (bOr .u32 (shL .u32 v3 (1 : Int)) r7) (IntKind.i64.wrap (v4 + (1 : Int)))) (
   .ok v3)
noncomputable def F_toeplitz_Window.l0 (k : Nat) (a0 : ByteArray) (a1 : Int) : Nat → Int → Int → O Int
  | 0, _, _ => .no
  | j + 1, v3, v4 => F_toeplitz_Window.l0_b k a0 a1 (F_toeplitz_Window.l0 k a0 a1 j) v3 v4
theorem F_toeplitz_Window.l0_eq (k : Nat) (a0 : ByteArray) (a1 : Int) : ∀ (j : Nat) (v3 : Int) (v4 : Int), loopAt (T := Int) tab (calOf (F_toeplitz_Window.cal k)) Go.Proofs.Try.f48.ntmps F_toeplitz_Window.nt k [] [.r, .r, .r, .l, .r, .b] (bodyOf Go.Proofs.Try.f48) (finK tab Go.Proofs.Try.f48.results.toList (fun v st => takeR F_toeplitz_Window.rt v st.H .ok) panK) j ⟨[(0, .str a0), (1, .int .i64 a1), (5, .int .u32 v3), (16, .int .i64 v4)], [], 0, []⟩ ⟨0, true, []⟩ = F_toeplitz_Window.l0 k a0 a1 j v3 v4 := by
  intro j
  induction j with
  | zero => intro v3 v4; rfl
  | succ j ih =>
    intro v3 v4
    have rs : (fun (v3' : Int) (v4' : Int) => loopAt (T := Int) tab (calOf (F_toeplitz_Window.cal k)) Go.Proofs.Try.f48.ntmps F_toeplitz_Window.nt k [] [.r, .r, .r, .l, .r, .b] (bodyOf Go.Proofs.Try.f48) (finK tab Go.Proofs.Try.f48.results.toList (fun v st => takeR F_toeplitz_Window.rt v st.H .ok) panK) j ⟨[(0, .str a0), (1, .int .i64 a1), (5, .int .u32 v3'), (16, .int .i64 v4')], [], 0, []⟩ ⟨0, true, []⟩) = F_toeplitz_Window.l0 k a0 a1 j := by funext v3' v4'; exact ih v3' v4'
    have h : loopAt (T := Int) tab (calOf (F_toeplitz_Window.cal k)) Go.Proofs.Try.f48.ntmps F_toeplitz_Window.nt k [] [.r, .r, .r, .l, .r, .b] (bodyOf Go.Proofs.Try.f48) (finK tab Go.Proofs.Try.f48.results.toList (fun v st => takeR F_toeplitz_Window.rt v st.H .ok) panK) (j + 1) ⟨[(0, .str a0), (1, .int .i64 a1), (5, .int .u32 v3), (16, .int .i64 v4)], [], 0, []⟩ ⟨0, true, []⟩ = F_toeplitz_Window.l0_b k a0 a1 ((fun (v3' : Int) (v4' : Int) => loopAt (T := Int) tab (calOf (F_toeplitz_Window.cal k)) Go.Proofs.Try.f48.ntmps F_toeplitz_Window.nt k [] [.r, .r, .r, .l, .r, .b] (bodyOf Go.Proofs.Try.f48) (finK tab Go.Proofs.Try.f48.results.toList (fun v st => takeR F_toeplitz_Window.rt v st.H .ok) panK) j ⟨[(0, .str a0), (1, .int .i64 a1), (5, .int .u32 v3'), (16, .int .i64 v4')], [], 0, []⟩ ⟨0, true, []⟩)) v3 v4 := by kernel_rfl
    exact h.trans (by rw [rs]; rfl)
noncomputable def F_toeplitz_Window.top (k : Nat) (a0 : ByteArray) (a1 : Int) (D_l0 : Int → Int → O Int) : O Int :=
  O.cond (decide (a1 < (-32 : Int))) (
   .ok (0 : Int)) (
   O.cond (decide (a1 > (IntKind.i64.wrap ((8 : Int) * (ByteArray.size a0 : Int))))) (
    .ok (0 : Int)) (
    D_l0 (0 : Int) (0 : Int)))
noncomputable def F_toeplitz_Window.S (k : Nat) (a0 : ByteArray) (a1 : Int) : O Int := F_toeplitz_Window.top k a0 a1 ((fun (v3 : Int) (v4 : Int) => F_toeplitz_Window.l0 k a0 a1 k v3 v4))
theorem F_toeplitz_Window.eq (k : Nat) (a0 : ByteArray) (a1 : Int) : evFn (T := Int) tab (calOf (F_toeplitz_Window.cal k)) Go.Proofs.Try.f48 F_toeplitz_Window.nt k [.str a0, .int .i64 a1] ⟨0, false, []⟩ (fun v st => takeR F_toeplitz_Window.rt v st.H .ok) panK = F_toeplitz_Window.S k a0 a1 := by
  have e0 : (fun (v3 : Int) (v4 : Int) => loopAt (T := Int) tab (calOf (F_toeplitz_Window.cal k)) Go.Proofs.Try.f48.ntmps F_toeplitz_Window.nt k [] [.r, .r, .r, .l, .r, .b] (bodyOf Go.Proofs.Try.f48) (finK tab Go.Proofs.Try.f48.results.toList (fun v st => takeR F_toeplitz_Window.rt v st.H .ok) panK) k ⟨[(0, .str a0), (1, .int .i64 a1), (5, .int .u32 v3), (16, .int .i64 v4)], [], 0, []⟩ ⟨0, true, []⟩) = (fun (v3 : Int) (v4 : Int) => F_toeplitz_Window.l0 k a0 a1 k v3 v4) := by funext v3 v4; exact F_toeplitz_Window.l0_eq k a0 a1 k v3 v4
  have h : evFn (T := Int) tab (calOf (F_toeplitz_Window.cal k)) Go.Proofs.Try.f48 F_toeplitz_Window.nt k [.str a0, .int .i64 a1] ⟨0, false, []⟩ (fun v st => takeR F_toeplitz_Window.rt v st.H .ok) panK = F_toeplitz_Window.top k a0 a1 ((fun (v3 : Int) (v4 : Int) => loopAt (T := Int) tab (calOf (F_toeplitz_Window.cal k)) Go.Proofs.Try.f48.ntmps F_toeplitz_Window.nt k [] [.r, .r, .r, .l, .r, .b] (bodyOf Go.Proofs.Try.f48) (finK tab Go.Proofs.Try.f48.results.toList (fun v st => takeR F_toeplitz_Window.rt v st.H .ok) panK) k ⟨[(0, .str a0), (1, .int .i64 a1), (5, .int .u32 v3), (16, .int .i64 v4)], [], 0, []⟩ ⟨0, true, []⟩)) := by kernel_rfl
  exact h.trans (by rw [e0]; rfl)
theorem F_toeplitz_Window.ok (k : Nat) : FnOk Try.prog 48 F_toeplitz_Window.as F_toeplitz_Window.rt (fun (x : ByteArray × Int) => F_toeplitz_Window.S k x.1 x.2) :=
  FnOk.of_ev tab_ok (calOf_ok (F_toeplitz_Window.cal_ok k)) mixed Try.func48 F_toeplitz_Window.nt k (fun _ => rfl) (fun (x : ByteArray × Int) => F_toeplitz_Window.eq k x.1 x.2)
theorem F_toeplitz_Window.hd {T : Type} (k : Nat) : HdOk Try.prog 48 (pureN (T := T) F_toeplitz_Window.as F_toeplitz_Window.rt (fun (x : ByteArray × Int) => F_toeplitz_Window.S k x.1 x.2)) :=
  pureN_ok rfl rfl (F_toeplitz_Window.ok k) Try.call48
end Go.Proofs.Ytjkddjnnkoghgaa
