/- What this seat's functions come to, as plain functions, each with the proof that the code does just that. Printed by a program of this repo (wip/gen2/gen.py). -/
import Derived.Test.YtmpmdfgjejkaiaaCH03
namespace Go.Proofs.Ytmpmdfgjejkaiaa
open Go.Aq
set_option linter.unusedVariables false
set_option maxRecDepth 100000
/-! ### aqueduct/aqueductlaw03.fixed: function 26 -/
noncomputable def F_aqueductlaw03_fixed.as : As := .none
noncomputable def F_aqueductlaw03_fixed.rt : Rt := .val (.leaf .bool)
noncomputable def F_aqueductlaw03_fixed.nt : Notes := ⟨[], [], [], []⟩
noncomputable def F_aqueductlaw03_fixed.cal0 {T : Type} (k : Nat) : List (FuncId × Hd T) := [(24, pureH F_toeplitz_Hash.as F_toeplitz_Hash.rt (fun (x : ByteArray × ByteArray) => F_toeplitz_Hash.S k x.1 x.2)), (27, pureH F_toeplitz_Window.as F_toeplitz_Window.rt (fun (x : ByteArray × Int) => F_toeplitz_Window.S k x.1 x.2))]
theorem F_aqueductlaw03_fixed.cal0_ok {T : Type} (k : Nat) : HdsOk Try.prog (F_aqueductlaw03_fixed.cal0 (T := T) k) := ⟨F_toeplitz_Hash.hd k, F_toeplitz_Window.hd k, trivial⟩
noncomputable def F_aqueductlaw03_fixed.cal {T : Type} (k : Nat) : List (FuncId × Hd T) := F_aqueductlaw03_fixed.cal0 k
theorem F_aqueductlaw03_fixed.cal_ok {T : Type} (k : Nat) : HdsOk Try.prog (F_aqueductlaw03_fixed.cal (T := T) k) := F_aqueductlaw03_fixed.cal0_ok k
noncomputable def F_aqueductlaw03_fixed.S (k : Nat) : O Bool :=
  O.bind (F_toeplitz_Hash.S k (⟨#[109, 90, 86, 218, 37, 91, 14, 194, 65, 103, 37, 61, 67, 163, 143, 176, 208, 202, 43, 203, 174, 123, 48, 180, 119, 203, 45, 163, 128, 48, 242, 12, 106, 66, 183, 59, 190, 172, 1, 250]⟩ : ByteArray) (⟨#[66, 9, 149, 187, 161, 142, 100, 80]⟩ : ByteArray)) fun r3 =>
  O.chk (decide (((ByteArray.size (⟨#[66, 9, 149, 187, 161, 142, 100, 80]⟩ : ByteArray) + ByteArray.size (⟨#[10, 234, 6, 230]⟩ : ByteArray) : Nat) : Int) ≤ 9223372036854775807)) (
   O.bind (F_toeplitz_Hash.S k (⟨#[109, 90, 86, 218, 37, 91, 14, 194, 65, 103, 37, 61, 67, 163, 143, 176, 208, 202, 43, 203, 174, 123, 48, 180, 119, 203, 45, 163, 128, 48, 242, 12, 106, 66, 183, 59, 190, 172, 1, 250]⟩ : ByteArray) ((⟨#[66, 9, 149, 187, 161, 142, 100, 80]⟩ : ByteArray) ++ (⟨#[10, 234, 6, 230]⟩ : ByteArray))) fun r5 =>
   O.bind (F_toeplitz_Hash.S k (⟨#[97, 98, 99]⟩ : ByteArray) (⟨#[66, 9, 149, 187, 161, 142, 100, 80]⟩ : ByteArray)) fun r7 =>
   O.cond (decide (r3.1 = (842960834 : Int))) (
    O.cond (decide (r3.2 = (0 : Int))) (
     O.cond (decide (r5.1 = (1372373368 : Int))) (
      O.cond (decide (r5.2 = (0 : Int))) (
       O.cond (decide (r7.2 = (30 : Int))) (
        O.bind (F_toeplitz_Window.S k (⟨#[109, 90, 86, 218, 37, 91, 14, 194, 65, 103, 37, 61, 67, 163, 143, 176, 208, 202, 43, 203, 174, 123, 48, 180, 119, 203, 45, 163, 128, 48, 242, 12, 106, 66, 183, 59, 190, 172, 1, 250]⟩ : ByteArray) (4 : Int)) fun r9 =>
        O.cond (decide (r9 = (3584388514 : Int))) (
         O.bind (F_toeplitz_Window.S k (⟨#[109, 90, 86, 218, 37, 91, 14, 194, 65, 103, 37, 61, 67, 163, 143, 176, 208, 202, 43, 203, 174, 123, 48, 180, 119, 203, 45, 163, 128, 48, 242, 12, 106, 66, 183, 59, 190, 172, 1, 250]⟩ : ByteArray) (-8 : Int)) fun r11 =>
         .ok (decide (r11 = (7166550 : Int)))) (
         .ok false)) (
        .ok false)) (
       .ok false)) (
      .ok false)) (
     .ok false)) (
    .ok false))
theorem F_aqueductlaw03_fixed.eq (k : Nat) : evFn (T := Bool) tab (calOf (F_aqueductlaw03_fixed.cal k)) Go.Proofs.Try.f26 F_aqueductlaw03_fixed.nt k [] ⟨0, false, []⟩ (fun v st => takeR F_aqueductlaw03_fixed.rt v st.H .ok) panK = F_aqueductlaw03_fixed.S k := by kernel_rfl
theorem F_aqueductlaw03_fixed.ok (k : Nat) : FnOk Try.prog 26 F_aqueductlaw03_fixed.as F_aqueductlaw03_fixed.rt (fun (_ : Unit) => F_aqueductlaw03_fixed.S k) :=
  FnOk.of_ev tab_ok (calOf_ok (F_aqueductlaw03_fixed.cal_ok k)) mixed Try.func26 F_aqueductlaw03_fixed.nt k (fun _ => rfl) (fun (_ : Unit) => F_aqueductlaw03_fixed.eq k)
theorem F_aqueductlaw03_fixed.hd {T : Type} (k : Nat) : HdOk Try.prog 26 (pureH (T := T) F_aqueductlaw03_fixed.as F_aqueductlaw03_fixed.rt (fun (_ : Unit) => F_aqueductlaw03_fixed.S k)) :=
  pureH_ok rfl rfl (F_aqueductlaw03_fixed.ok k) Try.call26
/-! ### aqueduct/aqueductlaw03.HashOf: function 10 -/
noncomputable def F_aqueductlaw03_HashOf.as : As := .some (.cons (.leaf .str) (.cons (.leaf .str) (.one (.leaf (.int .i64)))))
noncomputable def F_aqueductlaw03_HashOf.rt : Rt := .val (.leaf .bool)
noncomputable def F_aqueductlaw03_HashOf.nt : Notes := ⟨[], [], [], []⟩
noncomputable def F_aqueductlaw03_HashOf.cal0 {T : Type} (k : Nat) : List (FuncId × Hd T) := [(24, pureH F_toeplitz_Hash.as F_toeplitz_Hash.rt (fun (x : ByteArray × ByteArray) => F_toeplitz_Hash.S k x.1 x.2)), (25, pureH F_aqueductref03_Hash.as F_aqueductref03_Hash.rt (fun (x : ByteArray × ByteArray) => F_aqueductref03_Hash.S k x.1 x.2)), (26, pureH F_aqueductlaw03_fixed.as F_aqueductlaw03_fixed.rt (fun (_ : Unit) => F_aqueductlaw03_fixed.S k)), (27, pureH F_toeplitz_Window.as F_toeplitz_Window.rt (fun (x : ByteArray × Int) => F_toeplitz_Window.S k x.1 x.2)), (28, pureH F_aqueductref03_Window.as F_aqueductref03_Window.rt (fun (x : ByteArray × Int) => F_aqueductref03_Window.S k x.1 x.2))]
theorem F_aqueductlaw03_HashOf.cal0_ok {T : Type} (k : Nat) : HdsOk Try.prog (F_aqueductlaw03_HashOf.cal0 (T := T) k) := ⟨F_toeplitz_Hash.hd k, F_aqueductref03_Hash.hd k, F_aqueductlaw03_fixed.hd k, F_toeplitz_Window.hd k, F_aqueductref03_Window.hd k, trivial⟩
noncomputable def F_aqueductlaw03_HashOf.cal {T : Type} (k : Nat) : List (FuncId × Hd T) := F_aqueductlaw03_HashOf.cal0 k
theorem F_aqueductlaw03_HashOf.cal_ok {T : Type} (k : Nat) : HdsOk Try.prog (F_aqueductlaw03_HashOf.cal (T := T) k) := F_aqueductlaw03_HashOf.cal0_ok k
noncomputable def F_aqueductlaw03_HashOf.S (k : Nat) (a0 : ByteArray) (a1 : ByteArray) (a2 : Int) : O Bool :=
  O.chk (decide (0 ≤ (min (ByteArray.size a1 : Int) (200 : Int)) ∧ (min (ByteArray.size a1 : Int) (200 : Int)) ≤ (ByteArray.size a1 : Int))) (
   O.bind (F_toeplitz_Hash.S k a0 (ByteArray.extract a1 0 (min (ByteArray.size a1 : Int) (200 : Int)).toNat)) fun r1 =>
   O.bind (F_aqueductref03_Hash.S k a0 (ByteArray.extract a1 0 (min (ByteArray.size a1 : Int) (200 : Int)).toNat)) fun r3 =>
   O.bind (F_aqueductlaw03_fixed.S k) fun r5 =>
   O.cond r5 (
    O.cond (decide (r1.1 = r3.1)) (
     O.cond (decide (r1.2 = r3.2)) (
      O.bind (F_toeplitz_Window.S k a0 a2) fun r7 =>
      O.bind (F_aqueductref03_Window.S k a0 a2) fun r9 =>
      .ok (decide (r7 = r9))) (
      .ok false)) (
     .ok false)) (
    .ok false))
theorem F_aqueductlaw03_HashOf.eq (k : Nat) (a0 : ByteArray) (a1 : ByteArray) (a2 : Int) : evFn (T := Bool) tab (calOf (F_aqueductlaw03_HashOf.cal k)) Go.Proofs.Try.f10 F_aqueductlaw03_HashOf.nt k [.str a0, .str a1, .int .i64 a2] ⟨0, false, []⟩ (fun v st => takeR F_aqueductlaw03_HashOf.rt v st.H .ok) panK = F_aqueductlaw03_HashOf.S k a0 a1 a2 := by kernel_rfl
theorem F_aqueductlaw03_HashOf.ok (k : Nat) : FnOk Try.prog 10 F_aqueductlaw03_HashOf.as F_aqueductlaw03_HashOf.rt (fun (x : ByteArray × ByteArray × Int) => F_aqueductlaw03_HashOf.S k x.1 x.2.1 x.2.2) :=
  FnOk.of_ev tab_ok (calOf_ok (F_aqueductlaw03_HashOf.cal_ok k)) mixed Try.func10 F_aqueductlaw03_HashOf.nt k (fun _ => rfl) (fun (x : ByteArray × ByteArray × Int) => F_aqueductlaw03_HashOf.eq k x.1 x.2.1 x.2.2)
theorem F_aqueductlaw03_HashOf.hd {T : Type} (k : Nat) : HdOk Try.prog 10 (pureH (T := T) F_aqueductlaw03_HashOf.as F_aqueductlaw03_HashOf.rt (fun (x : ByteArray × ByteArray × Int) => F_aqueductlaw03_HashOf.S k x.1 x.2.1 x.2.2)) :=
  pureH_ok rfl rfl (F_aqueductlaw03_HashOf.ok k) Try.call10
/-! ### aqueduct/aqueductlaw03.HashLinear: function 11 -/
noncomputable def F_aqueductlaw03_HashLinear.as : As := .some (.cons (.leaf .str) (.cons (.leaf .str) (.one (.leaf .str))))
noncomputable def F_aqueductlaw03_HashLinear.rt : Rt := .val (.leaf .bool)
noncomputable def F_aqueductlaw03_HashLinear.nt : Notes := ⟨[(4, [0, 1, 2, 7, 8, 9])], [], [(6, [0, 1, 2, 3, 4, 5, 6, 7, 8, 9])], []⟩
noncomputable def F_aqueductlaw03_HashLinear.cal0 {T : Type} (k : Nat) : List (FuncId × Hd T) := [(24, pureH F_toeplitz_Hash.as F_toeplitz_Hash.rt (fun (x : ByteArray × ByteArray) => F_toeplitz_Hash.S k x.1 x.2)), (26, pureH F_aqueductlaw03_fixed.as F_aqueductlaw03_fixed.rt (fun (_ : Unit) => F_aqueductlaw03_fixed.S k))]
theorem F_aqueductlaw03_HashLinear.cal0_ok {T : Type} (k : Nat) : HdsOk Try.prog (F_aqueductlaw03_HashLinear.cal0 (T := T) k) := ⟨F_toeplitz_Hash.hd k, F_aqueductlaw03_fixed.hd k, trivial⟩
noncomputable def F_aqueductlaw03_HashLinear.cal {T : Type} (k : Nat) : List (FuncId × Hd T) := F_aqueductlaw03_HashLinear.cal0 k
theorem F_aqueductlaw03_HashLinear.cal_ok {T : Type} (k : Nat) : HdsOk Try.prog (F_aqueductlaw03_HashLinear.cal (T := T) k) := F_aqueductlaw03_HashLinear.cal0_ok k
noncomputable def F_aqueductlaw03_HashLinear.l0_b (k : Nat) (a0 : ByteArray) (a1 : ByteArray) (a2 : ByteArray) (R_l0 : Int → (List Int) → O Bool) (v3 : Int) (v4 : List Int) : O Bool :=
  O.cond (decide (v3 < (min (min (ByteArray.size a1 : Int) (ByteArray.size a2 : Int)) (100 : Int)))) (
   O.chk (decide (0 ≤ v3 ∧ v3 < (List.length v4 : Int) ∧ (List.length v4 : Int) ≤ (List.length v4 : Int))) (
    O.chk (decide (0 ≤ v3 ∧ v3 < (List.length v4 : Int))) (
     O.chk (decide (0 ≤ v3 ∧ v3 < (ByteArray.size a2 : Int))) (
      O.chk (decide (0 ≤ v3 ∧ v3 < (List.length v4 : Int) ∧ (List.length v4 : Int) ≤ (List.length v4 : Int))) (
       O.chk (decide (0 ≤ v3 ∧ v3 < (List.length v4 : Int))) (
        R_l0 (IntKind.i64.wrap (v3 + (1 : Int))) (su v4 v3 (bXor .u8 (gt (0 : Int) v4 v3) (bt a2 v3))))))))) (
   O.chk (decide (0 ≤ (min (min (ByteArray.size a1 : Int) (ByteArray.size a2 : Int)) (100 : Int)) ∧ (min (min (ByteArray.size a1 : Int) (ByteArray.size a2 : Int)) (100 : Int)) ≤ (ByteArray.size a1 : Int))) (
    O.bind (F_toeplitz_Hash.S k a0 (ByteArray.extract a1 0 (min (min (ByteArray.size a1 : Int) (ByteArray.size a2 : Int)) (100 : Int)).toNat)) fun r7 =>
    O.chk (decide (0 ≤ (min (min (ByteArray.size a1 : Int) (ByteArray.size a2 : Int)) (100 : Int)) ∧ (min (min (ByteArray.size a1 : Int) (ByteArray.size a2 : Int)) (100 : Int)) ≤ (ByteArray.size a2 : Int))) (
     O.bind (F_toeplitz_Hash.S k a0 (ByteArray.extract a2 0 (min (min (ByteArray.size a1 : Int) (ByteArray.size a2 : Int)) (100 : Int)).toNat)) fun r11 =>
     O.bind (F_toeplitz_Hash.S k a0 (strOf v4)) fun r15 =>
     O.chk (decide (0 ≤ (min (min (ByteArray.size a1 : Int) (ByteArray.size a2 : Int)) (100 : Int)) ∧ (min (min (ByteArray.size a1 : Int) (ByteArray.size a2 : Int)) (100 : Int)) = (min (min (ByteArray.size a1 : Int) (ByteArray.size a2 : Int)) (100 : Int)) ∧ (min (min (ByteArray.size a1 : Int) (ByteArray.size a2 : Int)) (100 : Int)) ≤ 1073741824)) (
      O.bind (F_toeplitz_Hash.S k a0 (strOf (List.replicate (min (min (ByteArray.size a1 : Int) (ByteArray.size a2 : Int)) (100 : Int)).toNat (0 : Int)))) fun r19 =>
      O.bind (F_aqueductlaw03_fixed.S k) fun r21 =>
      O.cond r21 (
       O.cond (decide (r7.2 = r11.2)) (
        O.cond (decide (r11.2 = r15.2)) (
         O.cond (decide (r15.2 = r19.2)) (
          O.cond (decide (r15.1 = (bXor .u32 r7.1 r11.1))) (
           O.cond (decide (r19.1 = (0 : Int))) (
            O.cond (decide ((ByteArray.size a0 : Int) ≥ (4 : Int))) (
             .ok (decide ((decide (r7.2 = (0 : Int))) = (decide ((ByteArray.size a0 : Int) ≤ (52 : Int)))))) (
             .ok (decide ((decide (r7.2 = (0 : Int))) = false)))) (
            .ok false)) (
           .ok false)) (
          .ok false)) (
         .ok false)) (
        .ok false)) (
       .ok false)))))
noncomputable def F_aqueductlaw03_HashLinear.l0 (k : Nat) (a0 : ByteArray) (a1 : ByteArray) (a2 : ByteArray) : Nat → Int → (List Int) → O Bool
  | 0, _, _ => .no
  | j + 1, v3, v4 => F_aqueductlaw03_HashLinear.l0_b k a0 a1 a2 (F_aqueductlaw03_HashLinear.l0 k a0 a1 a2 j) v3 v4
theorem F_aqueductlaw03_HashLinear.l0_eq (k : Nat) (a0 : ByteArray) (a1 : ByteArray) (a2 : ByteArray) : ∀ (j : Nat) (v3 : Int) (v4 : List Int), loopAt (T := Bool) tab (calOf (F_aqueductlaw03_HashLinear.cal k)) Go.Proofs.Try.f11.ntmps F_aqueductlaw03_HashLinear.nt k [] [.r, .r, .r, .l, .r, .b] (bodyOf Go.Proofs.Try.f11) (finK tab Go.Proofs.Try.f11.results.toList (fun v st => takeR F_aqueductlaw03_HashLinear.rt v st.H .ok) panK) j ⟨[(0, .str a0), (1, .str a1), (2, .str a2), (7, .int .i64 (min (min (ByteArray.size a1 : Int) (ByteArray.size a2 : Int)) (100 : Int))), (8, .osl 0), (9, .int .i64 v3)], [], 0, []⟩ ⟨1, true, [(0, .row true 5 [.int .u8] v4)]⟩ = F_aqueductlaw03_HashLinear.l0 k a0 a1 a2 j v3 v4 := by
  intro j
  induction j with
  | zero => intro v3 v4; rfl
  | succ j ih =>
    intro v3 v4
    have rs : (fun (v3' : Int) (v4' : List Int) => loopAt (T := Bool) tab (calOf (F_aqueductlaw03_HashLinear.cal k)) Go.Proofs.Try.f11.ntmps F_aqueductlaw03_HashLinear.nt k [] [.r, .r, .r, .l, .r, .b] (bodyOf Go.Proofs.Try.f11) (finK tab Go.Proofs.Try.f11.results.toList (fun v st => takeR F_aqueductlaw03_HashLinear.rt v st.H .ok) panK) j ⟨[(0, .str a0), (1, .str a1), (2, .str a2), (7, .int .i64 (min (min (ByteArray.size a1 : Int) (ByteArray.size a2 : Int)) (100 : Int))), (8, .osl 0), (9, .int .i64 v3')], [], 0, []⟩ ⟨1, true, [(0, .row true 5 [.int .u8] v4')]⟩) = F_aqueductlaw03_HashLinear.l0 k a0 a1 a2 j := by funext v3' v4'; exact ih v3' v4'
    have h : loopAt (T := Bool) tab (calOf (F_aqueductlaw03_HashLinear.cal k)) Go.Proofs.Try.f11.ntmps F_aqueductlaw03_HashLinear.nt k [] [.r, .r, .r, .l, .r, .b] (bodyOf Go.Proofs.Try.f11) (finK tab Go.Proofs.Try.f11.results.toList (fun v st => takeR F_aqueductlaw03_HashLinear.rt v st.H .ok) panK) (j + 1) ⟨[(0, .str a0), (1, .str a1), (2, .str a2), (7, .int .i64 (min (min (ByteArray.size a1 : Int) (ByteArray.size a2 : Int)) (100 : Int))), (8, .osl 0), (9, .int .i64 v3)], [], 0, []⟩ ⟨1, true, [(0, .row true 5 [.int .u8] v4)]⟩ = F_aqueductlaw03_HashLinear.l0_b k a0 a1 a2 ((fun (v3' : Int) (v4' : List Int) => loopAt (T := Bool) tab (calOf (F_aqueductlaw03_HashLinear.cal k)) Go.Proofs.Try.f11.ntmps F_aqueductlaw03_HashLinear.nt k [] [.r, .r, .r, .l, .r, .b] (bodyOf Go.Proofs.Try.f11) (finK tab Go.Proofs.Try.f11.results.toList (fun v st => takeR F_aqueductlaw03_HashLinear.rt v st.H .ok) panK) j ⟨[(0, .str a0), (1, .str a1), (2, .str a2), (7, .int .i64 (min (min (ByteArray.size a1 : Int) (ByteArray.size a2 : Int)) (100 : Int))), (8, .osl 0), (9, .int .i64 v3')], [], 0, []⟩ ⟨1, true, [(0, .row true 5 [.int .u8] v4')]⟩)) v3 v4 := by kernel_rfl
    exact h.trans (by rw [rs]; rfl)
noncomputable def F_aqueductlaw03_HashLinear.top (k : Nat) (a0 : ByteArray) (a1 : ByteArray) (a2 : ByteArray) (D_l0 : ByteArray → ByteArray → ByteArray → Int → (List Int) → O Bool) : O Bool :=
  O.chk (decide (0 ≤ (min (min (ByteArray.size a1 : Int) (ByteArray.size a2 : Int)) (100 : Int)) ∧ (min (min (ByteArray.size a1 : Int) (ByteArray.size a2 : Int)) (100 : Int)) ≤ (ByteArray.size a1 : Int))) (
   O.chk (decide (ByteArray.size (ByteArray.extract a1 0 (min (min (ByteArray.size a1 : Int) (ByteArray.size a2 : Int)) (100 : Int)).toNat) ≤ 140737488351232)) (
    D_l0 a0 a1 a2 (0 : Int) (bytesOf (ByteArray.extract a1 0 (min (min (ByteArray.size a1 : Int) (ByteArray.size a2 : Int)) (100 : Int)).toNat))))
noncomputable def F_aqueductlaw03_HashLinear.S (k : Nat) (a0 : ByteArray) (a1 : ByteArray) (a2 : ByteArray) : O Bool := F_aqueductlaw03_HashLinear.top k a0 a1 a2 ((fun (a0 : ByteArray) (a1 : ByteArray) (a2 : ByteArray) (v3 : Int) (v4 : List Int) => F_aqueductlaw03_HashLinear.l0 k a0 a1 a2 k v3 v4))
theorem F_aqueductlaw03_HashLinear.eq (k : Nat) (a0 : ByteArray) (a1 : ByteArray) (a2 : ByteArray) : evFn (T := Bool) tab (calOf (F_aqueductlaw03_HashLinear.cal k)) Go.Proofs.Try.f11 F_aqueductlaw03_HashLinear.nt k [.str a0, .str a1, .str a2] ⟨0, false, []⟩ (fun v st => takeR F_aqueductlaw03_HashLinear.rt v st.H .ok) panK = F_aqueductlaw03_HashLinear.S k a0 a1 a2 := by
  have e0 : (fun (a0 : ByteArray) (a1 : ByteArray) (a2 : ByteArray) (v3 : Int) (v4 : List Int) => loopAt (T := Bool) tab (calOf (F_aqueductlaw03_HashLinear.cal k)) Go.Proofs.Try.f11.ntmps F_aqueductlaw03_HashLinear.nt k [] [.r, .r, .r, .l, .r, .b] (bodyOf Go.Proofs.Try.f11) (finK tab Go.Proofs.Try.f11.results.toList (fun v st => takeR F_aqueductlaw03_HashLinear.rt v st.H .ok) panK) k ⟨[(0, .str a0), (1, .str a1), (2, .str a2), (7, .int .i64 (min (min (ByteArray.size a1 : Int) (ByteArray.size a2 : Int)) (100 : Int))), (8, .osl 0), (9, .int .i64 v3)], [], 0, []⟩ ⟨1, true, [(0, .row true 5 [.int .u8] v4)]⟩) = (fun (a0 : ByteArray) (a1 : ByteArray) (a2 : ByteArray) (v3 : Int) (v4 : List Int) => F_aqueductlaw03_HashLinear.l0 k a0 a1 a2 k v3 v4) := by funext a0 a1 a2 v3 v4; exact F_aqueductlaw03_HashLinear.l0_eq k a0 a1 a2 k v3 v4
  have h : evFn (T := Bool) tab (calOf (F_aqueductlaw03_HashLinear.cal k)) Go.Proofs.Try.f11 F_aqueductlaw03_HashLinear.nt k [.str a0, .str a1, .str a2] ⟨0, false, []⟩ (fun v st => takeR F_aqueductlaw03_HashLinear.rt v st.H .ok) panK = F_aqueductlaw03_HashLinear.top k a0 a1 a2 ((fun (a0 : ByteArray) (a1 : ByteArray) (a2 : ByteArray) (v3 : Int) (v4 : List Int) => loopAt (T := Bool) tab (calOf (F_aqueductlaw03_HashLinear.cal k)) Go.Proofs.Try.f11.ntmps F_aqueductlaw03_HashLinear.nt k [] [.r, .r, .r, .l, .r, .b] (bodyOf Go.Proofs.Try.f11) (finK tab Go.Proofs.Try.f11.results.toList (fun v st => takeR F_aqueductlaw03_HashLinear.rt v st.H .ok) panK) k ⟨[(0, .str a0), (1, .str a1), (2, .str a2), (7, .int .i64 (min (min (ByteArray.size a1 : Int) (ByteArray.size a2 : Int)) (100 : Int))), (8, .osl 0), (9, .int .i64 v3)], [], 0, []⟩ ⟨1, true, [(0, .row true 5 [.int .u8] v4)]⟩)) := by kernel_rfl
  exact h.trans (by rw [e0]; rfl)
theorem F_aqueductlaw03_HashLinear.ok (k : Nat) : FnOk Try.prog 11 F_aqueductlaw03_HashLinear.as F_aqueductlaw03_HashLinear.rt (fun (x : ByteArray × ByteArray × ByteArray) => F_aqueductlaw03_HashLinear.S k x.1 x.2.1 x.2.2) :=
  FnOk.of_ev tab_ok (calOf_ok (F_aqueductlaw03_HashLinear.cal_ok k)) mixed Try.func11 F_aqueductlaw03_HashLinear.nt k (fun _ => rfl) (fun (x : ByteArray × ByteArray × ByteArray) => F_aqueductlaw03_HashLinear.eq k x.1 x.2.1 x.2.2)
theorem F_aqueductlaw03_HashLinear.hd {T : Type} (k : Nat) : HdOk Try.prog 11 (pureH (T := T) F_aqueductlaw03_HashLinear.as F_aqueductlaw03_HashLinear.rt (fun (x : ByteArray × ByteArray × ByteArray) => F_aqueductlaw03_HashLinear.S k x.1 x.2.1 x.2.2)) :=
  pureH_ok rfl rfl (F_aqueductlaw03_HashLinear.ok k) Try.call11
/-! ### aqueduct/aqueductlaw03.HashParts: function 12 -/
noncomputable def F_aqueductlaw03_HashParts.as : As := .some (.cons (.leaf .str) (.cons (.leaf .str) (.one (.leaf (.int .i64)))))
noncomputable def F_aqueductlaw03_HashParts.rt : Rt := .val (.leaf .bool)
noncomputable def F_aqueductlaw03_HashParts.nt : Notes := ⟨[], [], [(5, [0, 1, 4, 5, 6, 2, 3, 7, 8, 9, 10, 11, 12, 13])], []⟩
noncomputable def F_aqueductlaw03_HashParts.cal0 {T : Type} (k : Nat) : List (FuncId × Hd T) := [(24, pureH F_toeplitz_Hash.as F_toeplitz_Hash.rt (fun (x : ByteArray × ByteArray) => F_toeplitz_Hash.S k x.1 x.2)), (26, pureH F_aqueductlaw03_fixed.as F_aqueductlaw03_fixed.rt (fun (_ : Unit) => F_aqueductlaw03_fixed.S k)), (27, pureH F_toeplitz_Window.as F_toeplitz_Window.rt (fun (x : ByteArray × Int) => F_toeplitz_Window.S k x.1 x.2))]
theorem F_aqueductlaw03_HashParts.cal0_ok {T : Type} (k : Nat) : HdsOk Try.prog (F_aqueductlaw03_HashParts.cal0 (T := T) k) := ⟨F_toeplitz_Hash.hd k, F_aqueductlaw03_fixed.hd k, F_toeplitz_Window.hd k, trivial⟩
noncomputable def F_aqueductlaw03_HashParts.cal {T : Type} (k : Nat) : List (FuncId × Hd T) := F_aqueductlaw03_HashParts.cal0 k
theorem F_aqueductlaw03_HashParts.cal_ok {T : Type} (k : Nat) : HdsOk Try.prog (F_aqueductlaw03_HashParts.cal (T := T) k) := F_aqueductlaw03_HashParts.cal0_ok k
noncomputable def F_aqueductlaw03_HashParts.S (k : Nat) (a0 : ByteArray) (a1 : ByteArray) (a2 : Int) : O Bool :=
  O.chk (decide (0 ≤ (min (ByteArray.size a1 : Int) (100 : Int)) ∧ (min (ByteArray.size a1 : Int) (100 : Int)) ≤ (ByteArray.size a1 : Int))) (
   O.chk (decide ((IntKind.i64.wrap ((ByteArray.size (ByteArray.extract a1 0 (min (ByteArray.size a1 : Int) (100 : Int)).toNat) : Int) + (1 : Int))) ≠ 0)) (
    O.bind (F_toeplitz_Hash.S k a0 (ByteArray.extract a1 0 (min (ByteArray.size a1 : Int) (100 : Int)).toNat)) fun r3 =>
    O.chk (decide (0 ≤ (Int.tmod (bAnd .i64 a2 (65535 : Int)) (IntKind.i64.wrap ((ByteArray.size (ByteArray.extract a1 0 (min (ByteArray.size a1 : Int) (100 : Int)).toNat) : Int) + (1 : Int)))) ∧ (Int.tmod (bAnd .i64 a2 (65535 : Int)) (IntKind.i64.wrap ((ByteArray.size (ByteArray.extract a1 0 (min (ByteArray.size a1 : Int) (100 : Int)).toNat) : Int) + (1 : Int)))) ≤ (ByteArray.size (ByteArray.extract a1 0 (min (ByteArray.size a1 : Int) (100 : Int)).toNat) : Int))) (
     O.bind (F_toeplitz_Hash.S k a0 (ByteArray.extract (ByteArray.extract a1 0 (min (ByteArray.size a1 : Int) (100 : Int)).toNat) 0 (Int.tmod (bAnd .i64 a2 (65535 : Int)) (IntKind.i64.wrap ((ByteArray.size (ByteArray.extract a1 0 (min (ByteArray.size a1 : Int) (100 : Int)).toNat) : Int) + (1 : Int)))).toNat)) fun r7 =>
     O.chk (decide (0 ≤ (Int.tmod (bAnd .i64 a2 (65535 : Int)) (IntKind.i64.wrap ((ByteArray.size (ByteArray.extract a1 0 (min (ByteArray.size a1 : Int) (100 : Int)).toNat) : Int) + (1 : Int)))) ∧ (Int.tmod (bAnd .i64 a2 (65535 : Int)) (IntKind.i64.wrap ((ByteArray.size (ByteArray.extract a1 0 (min (ByteArray.size a1 : Int) (100 : Int)).toNat) : Int) + (1 : Int)))) ≤ (ByteArray.size (ByteArray.extract a1 0 (min (ByteArray.size a1 : Int) (100 : Int)).toNat) : Int))) (
      O.chk (decide (0 ≤ (Int.tmod (bAnd .i64 a2 (65535 : Int)) (IntKind.i64.wrap ((ByteArray.size (ByteArray.extract a1 0 (min (ByteArray.size a1 : Int) (100 : Int)).toNat) : Int) + (1 : Int)))) ∧ (Int.tmod (bAnd .i64 a2 (65535 : Int)) (IntKind.i64.wrap ((ByteArray.size (ByteArray.extract a1 0 (min (ByteArray.size a1 : Int) (100 : Int)).toNat) : Int) + (1 : Int)))) = (Int.tmod (bAnd .i64 a2 (65535 : Int)) (IntKind.i64.wrap ((ByteArray.size (ByteArray.extract a1 0 (min (ByteArray.size a1 : Int) (100 : Int)).toNat) : Int) + (1 : Int)))) ∧ (Int.tmod (bAnd .i64 a2 (65535 : Int)) (IntKind.i64.wrap ((ByteArray.size (ByteArray.extract a1 0 (min (ByteArray.size a1 : Int) (100 : Int)).toNat) : Int) + (1 : Int)))) ≤ 1073741824)) (
       O.chk (decide (((ByteArray.size (strOf (List.replicate (Int.tmod (bAnd .i64 a2 (65535 : Int)) (IntKind.i64.wrap ((ByteArray.size (ByteArray.extract a1 0 (min (ByteArray.size a1 : Int) (100 : Int)).toNat) : Int) + (1 : Int)))).toNat (0 : Int))) + ByteArray.size (ByteArray.extract (ByteArray.extract a1 0 (min (ByteArray.size a1 : Int) (100 : Int)).toNat) (Int.tmod (bAnd .i64 a2 (65535 : Int)) (IntKind.i64.wrap ((ByteArray.size (ByteArray.extract a1 0 (min (ByteArray.size a1 : Int) (100 : Int)).toNat) : Int) + (1 : Int)))).toNat (ByteArray.size (ByteArray.extract a1 0 (min (ByteArray.size a1 : Int) (100 : Int)).toNat))) : Nat) : Int) ≤ 9223372036854775807)) (
        O.bind (F_toeplitz_Hash.S k a0 ((strOf (List.replicate (Int.tmod (bAnd .i64 a2 (65535 : Int)) (IntKind.i64.wrap ((ByteArray.size (ByteArray.extract a1 0 (min (ByteArray.size a1 : Int) (100 : Int)).toNat) : Int) + (1 : Int)))).toNat (0 : Int))) ++ (ByteArray.extract (ByteArray.extract a1 0 (min (ByteArray.size a1 : Int) (100 : Int)).toNat) (Int.tmod (bAnd .i64 a2 (65535 : Int)) (IntKind.i64.wrap ((ByteArray.size (ByteArray.extract a1 0 (min (ByteArray.size a1 : Int) (100 : Int)).toNat) : Int) + (1 : Int)))).toNat (ByteArray.size (ByteArray.extract a1 0 (min (ByteArray.size a1 : Int) (100 : Int)).toNat))))) fun r11 =>
        O.chk (decide (((ByteArray.size (ByteArray.extract a1 0 (min (ByteArray.size a1 : Int) (100 : Int)).toNat) + ByteArray.size (⟨#[0, 0]⟩ : ByteArray) : Nat) : Int) ≤ 9223372036854775807)) (
         O.bind (F_toeplitz_Hash.S k a0 ((ByteArray.extract a1 0 (min (ByteArray.size a1 : Int) (100 : Int)).toNat) ++ (⟨#[0, 0]⟩ : ByteArray))) fun r13 =>
         O.bind (F_toeplitz_Window.S k a0 (bAnd .i64 a2 (511 : Int))) fun r15 =>
         O.bind (F_toeplitz_Window.S k a0 (IntKind.i64.wrap ((bAnd .i64 a2 (511 : Int)) + (1 : Int)))) fun r17 =>
         O.bind (F_aqueductlaw03_fixed.S k) fun r19 =>
         O.cond r19 (
          O.cond (decide (r3.2 ≠ (0 : Int))) (
           .ok (decide ((shR .u32 r17 (1 : Int)) = (bAnd .u32 r15 (2147483647 : Int))))) (
           O.cond (decide (r3.1 = (bXor .u32 r7.1 r11.1))) (
            O.cond (decide (r13.1 = r3.1)) (
             .ok (decide ((shR .u32 r17 (1 : Int)) = (bAnd .u32 r15 (2147483647 : Int))))) (
             .ok false)) (
            .ok false))) (
          .ok false))))))))
theorem F_aqueductlaw03_HashParts.eq (k : Nat) (a0 : ByteArray) (a1 : ByteArray) (a2 : Int) : evFn (T := Bool) tab (calOf (F_aqueductlaw03_HashParts.cal k)) Go.Proofs.Try.f12 F_aqueductlaw03_HashParts.nt k [.str a0, .str a1, .int .i64 a2] ⟨0, false, []⟩ (fun v st => takeR F_aqueductlaw03_HashParts.rt v st.H .ok) panK = F_aqueductlaw03_HashParts.S k a0 a1 a2 := by kernel_rfl
theorem F_aqueductlaw03_HashParts.ok (k : Nat) : FnOk Try.prog 12 F_aqueductlaw03_HashParts.as F_aqueductlaw03_HashParts.rt (fun (x : ByteArray × ByteArray × Int) => F_aqueductlaw03_HashParts.S k x.1 x.2.1 x.2.2) :=
  FnOk.of_ev tab_ok (calOf_ok (F_aqueductlaw03_HashParts.cal_ok k)) mixed Try.func12 F_aqueductlaw03_HashParts.nt k (fun _ => rfl) (fun (x : ByteArray × ByteArray × Int) => F_aqueductlaw03_HashParts.eq k x.1 x.2.1 x.2.2)
theorem F_aqueductlaw03_HashParts.hd {T : Type} (k : Nat) : HdOk Try.prog 12 (pureH (T := T) F_aqueductlaw03_HashParts.as F_aqueductlaw03_HashParts.rt (fun (x : ByteArray × ByteArray × Int) => F_aqueductlaw03_HashParts.S k x.1 x.2.1 x.2.2)) :=
  pureH_ok rfl rfl (F_aqueductlaw03_HashParts.ok k) Try.call12
/-! ### aqueduct/aqueductlaw03.HashBits: function 13 -/
noncomputable def F_aqueductlaw03_HashBits.as : As := .some (.cons (.leaf .str) (.cons (.leaf (.int .i64)) (.one (.leaf .str))))
noncomputable def F_aqueductlaw03_HashBits.rt : Rt := .val (.leaf .bool)
noncomputable def F_aqueductlaw03_HashBits.nt : Notes := ⟨[], [], [], []⟩
noncomputable def F_aqueductlaw03_HashBits.cal0 {T : Type} (k : Nat) : List (FuncId × Hd T) := [(24, pureH F_toeplitz_Hash.as F_toeplitz_Hash.rt (fun (x : ByteArray × ByteArray) => F_toeplitz_Hash.S k x.1 x.2)), (26, pureH F_aqueductlaw03_fixed.as F_aqueductlaw03_fixed.rt (fun (_ : Unit) => F_aqueductlaw03_fixed.S k)), (27, pureH F_toeplitz_Window.as F_toeplitz_Window.rt (fun (x : ByteArray × Int) => F_toeplitz_Window.S k x.1 x.2))]
theorem F_aqueductlaw03_HashBits.cal0_ok {T : Type} (k : Nat) : HdsOk Try.prog (F_aqueductlaw03_HashBits.cal0 (T := T) k) := ⟨F_toeplitz_Hash.hd k, F_aqueductlaw03_fixed.hd k, F_toeplitz_Window.hd k, trivial⟩
noncomputable def F_aqueductlaw03_HashBits.cal {T : Type} (k : Nat) : List (FuncId × Hd T) := F_aqueductlaw03_HashBits.cal0 k
theorem F_aqueductlaw03_HashBits.cal_ok {T : Type} (k : Nat) : HdsOk Try.prog (F_aqueductlaw03_HashBits.cal (T := T) k) := F_aqueductlaw03_HashBits.cal0_ok k
noncomputable def F_aqueductlaw03_HashBits.S (k : Nat) (a0 : ByteArray) (a1 : Int) (a2 : ByteArray) : O Bool :=
  O.chk (decide (0 ≤ (16 : Int) ∧ (16 : Int) = (16 : Int) ∧ (16 : Int) ≤ 1073741824)) (
   O.chk (decide (0 ≤ (Int.tmod (bAnd .i64 a1 (127 : Int)) (8 : Int)))) (
    O.chk (decide (0 ≤ (IntKind.i64.wrap (Int.tdiv (bAnd .i64 a1 (127 : Int)) (8 : Int))) ∧ (IntKind.i64.wrap (Int.tdiv (bAnd .i64 a1 (127 : Int)) (8 : Int))) < (List.length (List.replicate (16 : Int).toNat (0 : Int)) : Int) ∧ (List.length (List.replicate (16 : Int).toNat (0 : Int)) : Int) ≤ (List.length (List.replicate (16 : Int).toNat (0 : Int)) : Int))) (
     O.chk (decide (0 ≤ (IntKind.i64.wrap (Int.tdiv (bAnd .i64 a1 (127 : Int)) (8 : Int))) ∧ (IntKind.i64.wrap (Int.tdiv (bAnd .i64 a1 (127 : Int)) (8 : Int))) < (List.length (List.replicate (16 : Int).toNat (0 : Int)) : Int))) (
      O.bind (F_toeplitz_Hash.S k a0 (strOf (su (List.replicate (16 : Int).toNat (0 : Int)) (IntKind.i64.wrap (Int.tdiv (bAnd .i64 a1 (127 : Int)) (8 : Int))) (shR .u8 (128 : Int) (Int.tmod (bAnd .i64 a1 (127 : Int)) (8 : Int)))))) fun r3 =>
      O.cond (decide (r3.2 ≠ (0 : Int))) (
       O.cond (decide (r3.1 = (0 : Int))) (
        O.bind (F_aqueductlaw03_fixed.S k) fun r5 =>
        .ok r5) (
        .ok false)) (
       O.cond (decide ((ByteArray.size a0 : Int) ≥ (20 : Int))) (
        O.cond (decide ((IntKind.i64.wrap ((ByteArray.size a0 : Int) + (ByteArray.size a2 : Int))) ≤ (52 : Int))) (
         O.chk (decide (((ByteArray.size a0 + ByteArray.size a2 : Nat) : Int) ≤ 9223372036854775807)) (
          O.bind (F_toeplitz_Hash.S k (a0 ++ a2) (strOf (su (List.replicate (16 : Int).toNat (0 : Int)) (IntKind.i64.wrap (Int.tdiv (bAnd .i64 a1 (127 : Int)) (8 : Int))) (shR .u8 (128 : Int) (Int.tmod (bAnd .i64 a1 (127 : Int)) (8 : Int)))))) fun r7 =>
          O.cond (decide (r7.2 ≠ (0 : Int))) (
           .ok false) (
           O.cond (decide (r7.1 ≠ r3.1)) (
            .ok false) (
            O.bind (F_toeplitz_Window.S k a0 (bAnd .i64 a1 (127 : Int))) fun r9 =>
            O.cond (decide (r3.1 = r9)) (
             O.bind (F_aqueductlaw03_fixed.S k) fun r11 =>
             .ok r11) (
             .ok false))))) (
         O.bind (F_toeplitz_Window.S k a0 (bAnd .i64 a1 (127 : Int))) fun r13 =>
         O.cond (decide (r3.1 = r13)) (
          O.bind (F_aqueductlaw03_fixed.S k) fun r15 =>
          .ok r15) (
          .ok false))) (
        O.bind (F_toeplitz_Window.S k a0 (bAnd .i64 a1 (127 : Int))) fun r17 =>
        O.cond (decide (r3.1 = r17)) (
         O.bind (F_aqueductlaw03_fixed.S k) fun r19 =>
         .ok r19) (
         .ok false)))))))
theorem F_aqueductlaw03_HashBits.eq (k : Nat) (a0 : ByteArray) (a1 : Int) (a2 : ByteArray) : evFn (T := Bool) tab (calOf (F_aqueductlaw03_HashBits.cal k)) Go.Proofs.Try.f13 F_aqueductlaw03_HashBits.nt k [.str a0, .int .i64 a1, .str a2] ⟨0, false, []⟩ (fun v st => takeR F_aqueductlaw03_HashBits.rt v st.H .ok) panK = F_aqueductlaw03_HashBits.S k a0 a1 a2 := by kernel_rfl
theorem F_aqueductlaw03_HashBits.ok (k : Nat) : FnOk Try.prog 13 F_aqueductlaw03_HashBits.as F_aqueductlaw03_HashBits.rt (fun (x : ByteArray × Int × ByteArray) => F_aqueductlaw03_HashBits.S k x.1 x.2.1 x.2.2) :=
  FnOk.of_ev tab_ok (calOf_ok (F_aqueductlaw03_HashBits.cal_ok k)) mixed Try.func13 F_aqueductlaw03_HashBits.nt k (fun _ => rfl) (fun (x : ByteArray × Int × ByteArray) => F_aqueductlaw03_HashBits.eq k x.1 x.2.1 x.2.2)
theorem F_aqueductlaw03_HashBits.hd {T : Type} (k : Nat) : HdOk Try.prog 13 (pureH (T := T) F_aqueductlaw03_HashBits.as F_aqueductlaw03_HashBits.rt (fun (x : ByteArray × Int × ByteArray) => F_aqueductlaw03_HashBits.S k x.1 x.2.1 x.2.2)) :=
  pureH_ok rfl rfl (F_aqueductlaw03_HashBits.ok k) Try.call13
end Go.Proofs.Ytmpmdfgjejkaiaa
