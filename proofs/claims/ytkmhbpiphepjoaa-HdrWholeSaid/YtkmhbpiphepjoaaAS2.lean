/- What this seat's functions come to, as plain functions, each with the proof that the code does just that. Printed by a program of this repo (wip/gen2/gen.py). -/
import Derived.Test.YtkmhbpiphepjoaaAS1
namespace Go.Proofs.Ytkmhbpiphepjoaa
open Go.Aq
set_option linter.unusedVariables false
set_option maxRecDepth 100000
/-! ### aqueduct/segment.may: function 77 -/
noncomputable def F_segment_may.as : As := .some (.one (.agg (.cons (.leaf (.int .i64)) (.cons (.leaf .str) (.cons (.leaf .str) (.cons (.leaf (.int .i64)) (.cons (.leaf (.int .i64)) (.cons (.leaf (.int .i64)) (.cons (.leaf (.int .i64)) (.cons (.leaf (.int .i64)) (.cons (.leaf (.int .i64)) (.cons (.leaf (.int .i64)) (.cons (.leaf .str) (.one (.leaf .str)))))))))))))))
noncomputable def F_segment_may.rt : Rt := .unit
noncomputable def F_segment_may.nt : Notes := ⟨[], [(4, [1, 2])], [], [], []⟩
noncomputable def F_segment_may.cal0 {T : Type} (k : Nat) : List (FuncId × Hd T) := []
theorem F_segment_may.cal0_ok {T : Type} (k : Nat) : HdsOk Try.prog (F_segment_may.cal0 (T := T) k) := trivial
noncomputable def F_segment_may.nt79 : Notes := ⟨[], [], [], [], []⟩
noncomputable def F_segment_may.cal1 {T : Type} (k : Nat) : List (FuncId × Hd T) := (79, inlH tab (calOf (F_segment_may.cal0 k)) Go.Proofs.Try.f79 F_segment_may.nt79 k) :: F_segment_may.cal0 k
theorem F_segment_may.cal1_ok {T : Type} (k : Nat) : HdsOk Try.prog (F_segment_may.cal1 (T := T) k) := ⟨inlH_ok tab_ok (calOf_ok (F_segment_may.cal0_ok k)) mixed Try.func79 F_segment_may.nt79 k Try.call79, F_segment_may.cal0_ok k⟩
noncomputable def F_segment_may.cal {T : Type} (k : Nat) : List (FuncId × Hd T) := F_segment_may.cal1 k
theorem F_segment_may.cal_ok {T : Type} (k : Nat) : HdsOk Try.prog (F_segment_may.cal (T := T) k) := F_segment_may.cal1_ok k
noncomputable def F_segment_may.j3_b (k : Nat) (a0 : Int × ByteArray × ByteArray × Int × Int × Int × Int × Int × Int × Int × ByteArray × ByteArray) (v1 : Int) : O (Int ⊕ Unit) :=
  O.cond (decide (a0.2.2.2.1 = (6 : Int))) (
   O.cond (decide (a0.2.2.2.2.2.2.2.2.1 = (0 : Int))) (
    O.cond (decide ((bAnd .i64 a0.2.2.2.2.2.2.2.1 (1 : Int)) = (0 : Int))) (
     O.cond (decide (a0.1 = (4 : Int))) (
      O.cond (decide ((ByteArray.size a0.2.1 : Int) = v1)) (
       O.cond (!(decide ((ByteArray.size a0.2.2.1 : Int) = v1))) (
        .ok (.inl (81 : Int))) (
        .ok (.inr ()))) (
       .ok (.inl (81 : Int)))) (
      O.cond (decide (a0.1 = (6 : Int))) (
       O.cond (decide ((ByteArray.size a0.2.1 : Int) = v1)) (
        O.cond (!(decide ((ByteArray.size a0.2.2.1 : Int) = v1))) (
         .ok (.inl (81 : Int))) (
         .ok (.inr ()))) (
        .ok (.inl (81 : Int)))) (
       .ok (.inl (81 : Int))))) (
     .ok (.inl (81 : Int)))) (
    .ok (.inl (81 : Int)))) (
   O.cond (decide (a0.2.2.2.1 = (17 : Int))) (
    O.cond (decide (a0.2.2.2.2.2.2.2.2.1 = (0 : Int))) (
     O.cond (decide ((bAnd .i64 a0.2.2.2.2.2.2.2.1 (1 : Int)) = (0 : Int))) (
      O.cond (decide (a0.1 = (4 : Int))) (
       O.cond (decide ((ByteArray.size a0.2.1 : Int) = v1)) (
        O.cond (!(decide ((ByteArray.size a0.2.2.1 : Int) = v1))) (
         .ok (.inl (81 : Int))) (
         .ok (.inr ()))) (
        .ok (.inl (81 : Int)))) (
       O.cond (decide (a0.1 = (6 : Int))) (
        O.cond (decide ((ByteArray.size a0.2.1 : Int) = v1)) (
         O.cond (!(decide ((ByteArray.size a0.2.2.1 : Int) = v1))) (
          .ok (.inl (81 : Int))) (
          .ok (.inr ()))) (
         .ok (.inl (81 : Int)))) (
        .ok (.inl (81 : Int))))) (
      .ok (.inl (81 : Int)))) (
     .ok (.inl (81 : Int)))) (
    .ok (.inl (81 : Int))))
noncomputable def F_segment_may.j3 (k : Nat) (a0 : Int × ByteArray × ByteArray × Int × Int × Int × Int × Int × Int × Int × ByteArray × ByteArray) (v1 : Int) : O (Int ⊕ Unit) := F_segment_may.j3_b k a0 v1
theorem F_segment_may.j3_eq (k : Nat) (a0 : Int × ByteArray × ByteArray × Int × Int × Int × Int × Int × Int × Int × ByteArray × ByteArray) (v1 : Int) : codeAt (T := Int ⊕ Unit) tab (calOf (F_segment_may.cal k)) Go.Proofs.Try.f77.ntmps F_segment_may.nt k [] [.r, .r, .r] (bodyOf Go.Proofs.Try.f77) (finK tab Go.Proofs.Try.f77.results.toList (fun v st => takeR F_segment_may.rt v st.H (fun x => .ok (.inr x))) (panE 102 true [.int .i64])) ⟨[(1, .ptr 0 0), (2, .int .i64 v1)], [], 0, []⟩ ⟨1, true, [(0, .cells 38 [.int .i64 a0.1, .str a0.2.1, .str a0.2.2.1, .int .i64 a0.2.2.2.1, .int .i64 a0.2.2.2.2.1, .int .i64 a0.2.2.2.2.2.1, .int .i64 a0.2.2.2.2.2.2.1, .int .i64 a0.2.2.2.2.2.2.2.1, .int .i64 a0.2.2.2.2.2.2.2.2.1, .int .i64 a0.2.2.2.2.2.2.2.2.2.1, .str a0.2.2.2.2.2.2.2.2.2.2.1, .str a0.2.2.2.2.2.2.2.2.2.2.2])]⟩ = F_segment_may.j3 k a0 v1 := by
    have h : codeAt (T := Int ⊕ Unit) tab (calOf (F_segment_may.cal k)) Go.Proofs.Try.f77.ntmps F_segment_may.nt k [] [.r, .r, .r] (bodyOf Go.Proofs.Try.f77) (finK tab Go.Proofs.Try.f77.results.toList (fun v st => takeR F_segment_may.rt v st.H (fun x => .ok (.inr x))) (panE 102 true [.int .i64])) ⟨[(1, .ptr 0 0), (2, .int .i64 v1)], [], 0, []⟩ ⟨1, true, [(0, .cells 38 [.int .i64 a0.1, .str a0.2.1, .str a0.2.2.1, .int .i64 a0.2.2.2.1, .int .i64 a0.2.2.2.2.1, .int .i64 a0.2.2.2.2.2.1, .int .i64 a0.2.2.2.2.2.2.1, .int .i64 a0.2.2.2.2.2.2.2.1, .int .i64 a0.2.2.2.2.2.2.2.2.1, .int .i64 a0.2.2.2.2.2.2.2.2.2.1, .str a0.2.2.2.2.2.2.2.2.2.2.1, .str a0.2.2.2.2.2.2.2.2.2.2.2])]⟩ = F_segment_may.j3_b k a0 v1 := (codeAt_eq _ _ _ _ _ _ _ _ _ _ _).trans (by show _ = _; kernel_rfl)
    exact h.trans (by rfl)
noncomputable def F_segment_may.top (k : Nat) (a0 : Int × ByteArray × ByteArray × Int × Int × Int × Int × Int × Int × Int × ByteArray × ByteArray) (D_j3 : Int → O (Int ⊕ Unit)) : O (Int ⊕ Unit) :=
  O.cond (decide (a0.1 = (4 : Int))) (
   D_j3 (4 : Int)) (
   D_j3 (16 : Int))
noncomputable def F_segment_may.S (k : Nat) (a0 : Int × ByteArray × ByteArray × Int × Int × Int × Int × Int × Int × Int × ByteArray × ByteArray) : O (Int ⊕ Unit) := F_segment_may.top k a0 ((fun (v1 : Int) => F_segment_may.j3 k a0 v1))
theorem F_segment_may.eq (k : Nat) (a0 : Int × ByteArray × ByteArray × Int × Int × Int × Int × Int × Int × Int × ByteArray × ByteArray) : evFn (T := Int ⊕ Unit) tab (calOf (F_segment_may.cal k)) Go.Proofs.Try.f77 F_segment_may.nt k [.agg [.int .i64 a0.1, .str a0.2.1, .str a0.2.2.1, .int .i64 a0.2.2.2.1, .int .i64 a0.2.2.2.2.1, .int .i64 a0.2.2.2.2.2.1, .int .i64 a0.2.2.2.2.2.2.1, .int .i64 a0.2.2.2.2.2.2.2.1, .int .i64 a0.2.2.2.2.2.2.2.2.1, .int .i64 a0.2.2.2.2.2.2.2.2.2.1, .str a0.2.2.2.2.2.2.2.2.2.2.1, .str a0.2.2.2.2.2.2.2.2.2.2.2]] [] ⟨0, false, []⟩ (fun v st => takeR F_segment_may.rt v st.H (fun x => .ok (.inr x))) (panE 102 true [.int .i64]) = F_segment_may.S k a0 := by
  have e0 : (fun (v1 : Int) => codeAt (T := Int ⊕ Unit) tab (calOf (F_segment_may.cal k)) Go.Proofs.Try.f77.ntmps F_segment_may.nt k [] [.r, .r, .r] (bodyOf Go.Proofs.Try.f77) (finK tab Go.Proofs.Try.f77.results.toList (fun v st => takeR F_segment_may.rt v st.H (fun x => .ok (.inr x))) (panE 102 true [.int .i64])) ⟨[(1, .ptr 0 0), (2, .int .i64 v1)], [], 0, []⟩ ⟨1, true, [(0, .cells 38 [.int .i64 a0.1, .str a0.2.1, .str a0.2.2.1, .int .i64 a0.2.2.2.1, .int .i64 a0.2.2.2.2.1, .int .i64 a0.2.2.2.2.2.1, .int .i64 a0.2.2.2.2.2.2.1, .int .i64 a0.2.2.2.2.2.2.2.1, .int .i64 a0.2.2.2.2.2.2.2.2.1, .int .i64 a0.2.2.2.2.2.2.2.2.2.1, .str a0.2.2.2.2.2.2.2.2.2.2.1, .str a0.2.2.2.2.2.2.2.2.2.2.2])]⟩) = (fun (v1 : Int) => F_segment_may.j3 k a0 v1) := by funext v1; exact F_segment_may.j3_eq k a0 v1
  have h : evFn (T := Int ⊕ Unit) tab (calOf (F_segment_may.cal k)) Go.Proofs.Try.f77 F_segment_may.nt k [.agg [.int .i64 a0.1, .str a0.2.1, .str a0.2.2.1, .int .i64 a0.2.2.2.1, .int .i64 a0.2.2.2.2.1, .int .i64 a0.2.2.2.2.2.1, .int .i64 a0.2.2.2.2.2.2.1, .int .i64 a0.2.2.2.2.2.2.2.1, .int .i64 a0.2.2.2.2.2.2.2.2.1, .int .i64 a0.2.2.2.2.2.2.2.2.2.1, .str a0.2.2.2.2.2.2.2.2.2.2.1, .str a0.2.2.2.2.2.2.2.2.2.2.2]] [] ⟨0, false, []⟩ (fun v st => takeR F_segment_may.rt v st.H (fun x => .ok (.inr x))) (panE 102 true [.int .i64]) = F_segment_may.top k a0 ((fun (v1 : Int) => codeAt (T := Int ⊕ Unit) tab (calOf (F_segment_may.cal k)) Go.Proofs.Try.f77.ntmps F_segment_may.nt k [] [.r, .r, .r] (bodyOf Go.Proofs.Try.f77) (finK tab Go.Proofs.Try.f77.results.toList (fun v st => takeR F_segment_may.rt v st.H (fun x => .ok (.inr x))) (panE 102 true [.int .i64])) ⟨[(1, .ptr 0 0), (2, .int .i64 v1)], [], 0, []⟩ ⟨1, true, [(0, .cells 38 [.int .i64 a0.1, .str a0.2.1, .str a0.2.2.1, .int .i64 a0.2.2.2.1, .int .i64 a0.2.2.2.2.1, .int .i64 a0.2.2.2.2.2.1, .int .i64 a0.2.2.2.2.2.2.1, .int .i64 a0.2.2.2.2.2.2.2.1, .int .i64 a0.2.2.2.2.2.2.2.2.1, .int .i64 a0.2.2.2.2.2.2.2.2.2.1, .str a0.2.2.2.2.2.2.2.2.2.2.1, .str a0.2.2.2.2.2.2.2.2.2.2.2])]⟩)) := by kernel_rfl
  exact h.trans (by rw [e0]; rfl)
theorem F_segment_may.ok (k : Nat) : FnOkE Try.prog 77 F_segment_may.as F_segment_may.rt 102 true [.int .i64] (fun (x : Int × ByteArray × ByteArray × Int × Int × Int × Int × Int × Int × Int × ByteArray × ByteArray) => F_segment_may.S k x) :=
  FnOkE.of_ev tab_ok (calOf_ok (F_segment_may.cal_ok k)) mixed Try.func77 F_segment_may.nt k (fun _ => rfl) (fun (x : Int × ByteArray × ByteArray × Int × Int × Int × Int × Int × Int × Int × ByteArray × ByteArray) => F_segment_may.eq k x)
theorem F_segment_may.hd {T : Type} (k : Nat) : HdOk Try.prog 77 (pureE (T := T) F_segment_may.as F_segment_may.rt 102 true [.int .i64] (fun (x : Int × ByteArray × ByteArray × Int × Int × Int × Int × Int × Int × Int × ByteArray × ByteArray) => F_segment_may.S k x)) :=
  pureE_ok rfl rfl (F_segment_may.ok k) Try.call77
/-! ### aqueduct/segment.num: function 91 -/
noncomputable def F_segment_num.as : As := .some (.cons (.leaf .str) (.cons (.leaf (.int .i64)) (.one (.leaf (.int .i64)))))
noncomputable def F_segment_num.rt : Rt := .val (.leaf (.int .i64))
noncomputable def F_segment_num.nt : Notes := ⟨[], [], [], [], []⟩
noncomputable def F_segment_num.cal0 {T : Type} (k : Nat) : List (FuncId × Hd T) := [(23, pureN F_words_Get.as F_words_Get.rt (fun (x : ByteArray × Int × Int × Bool) => F_words_Get.S k x.1 x.2.1 x.2.2.1 x.2.2.2))]
theorem F_segment_num.cal0_ok {T : Type} (k : Nat) : HdsOk Try.prog (F_segment_num.cal0 (T := T) k) := ⟨F_words_Get.hd k, trivial⟩
noncomputable def F_segment_num.cal {T : Type} (k : Nat) : List (FuncId × Hd T) := F_segment_num.cal0 k
theorem F_segment_num.cal_ok {T : Type} (k : Nat) : HdsOk Try.prog (F_segment_num.cal (T := T) k) := F_segment_num.cal0_ok k
noncomputable def F_segment_num.S (k : Nat) (a0 : ByteArray) (a1 : Int) (a2 : Int) : O Int :=
  O.bind (F_words_Get.S k a0 a1 a2 true) fun r1 =>
  .ok (IntKind.i64.wrap r1.1)
theorem F_segment_num.eq (k : Nat) (a0 : ByteArray) (a1 : Int) (a2 : Int) : evFn (T := Int) tab (calOf (F_segment_num.cal k)) Go.Proofs.Try.f91 F_segment_num.nt k [.str a0, .int .i64 a1, .int .i64 a2] [] ⟨0, false, []⟩ (fun v st => takeR F_segment_num.rt v st.H .ok) panK = F_segment_num.S k a0 a1 a2 := by kernel_rfl
theorem F_segment_num.ok (k : Nat) : FnOk Try.prog 91 F_segment_num.as F_segment_num.rt (fun (x : ByteArray × Int × Int) => F_segment_num.S k x.1 x.2.1 x.2.2) :=
  FnOk.of_ev tab_ok (calOf_ok (F_segment_num.cal_ok k)) mixed Try.func91 F_segment_num.nt k (fun _ => rfl) (fun (x : ByteArray × Int × Int) => F_segment_num.eq k x.1 x.2.1 x.2.2)
theorem F_segment_num.hd {T : Type} (k : Nat) : HdOk Try.prog 91 (pureN (T := T) F_segment_num.as F_segment_num.rt (fun (x : ByteArray × Int × Int) => F_segment_num.S k x.1 x.2.1 x.2.2)) :=
  pureN_ok rfl rfl (F_segment_num.ok k) Try.call91
/-! ### aqueduct/segment.tcp: function 89 -/
noncomputable def F_segment_tcp.as : As := .some (.one (.leaf .str))
noncomputable def F_segment_tcp.rt : Rt := .val (.agg (.cons (.leaf (.int .i64)) (.cons (.leaf (.int .i64)) (.cons (.leaf (.int .u32)) (.cons (.leaf (.int .u32)) (.cons (.leaf (.int .i64)) (.cons (.leaf (.int .i64)) (.cons (.leaf (.int .i64)) (.cons (.leaf .str) (.cons (.leaf .str) (.one (.leaf .bool))))))))))))
noncomputable def F_segment_tcp.nt : Notes := ⟨[], [], [(5, [0, 2, 4, 7, 10, 11, 12, 13, 15, 17, 18, 19, 20, 21, 22, 1, 3, 5, 6, 8, 9, 14, 16, 23, 24])], [], []⟩
noncomputable def F_segment_tcp.cal0 {T : Type} (k : Nat) : List (FuncId × Hd T) := [(91, pureN F_segment_num.as F_segment_num.rt (fun (x : ByteArray × Int × Int) => F_segment_num.S k x.1 x.2.1 x.2.2))]
theorem F_segment_tcp.cal0_ok {T : Type} (k : Nat) : HdsOk Try.prog (F_segment_tcp.cal0 (T := T) k) := ⟨F_segment_num.hd k, trivial⟩
noncomputable def F_segment_tcp.nt79 : Notes := ⟨[], [], [], [], []⟩
noncomputable def F_segment_tcp.cal1 {T : Type} (k : Nat) : List (FuncId × Hd T) := (79, inlH tab (calOf (F_segment_tcp.cal0 k)) Go.Proofs.Try.f79 F_segment_tcp.nt79 k) :: F_segment_tcp.cal0 k
theorem F_segment_tcp.cal1_ok {T : Type} (k : Nat) : HdsOk Try.prog (F_segment_tcp.cal1 (T := T) k) := ⟨inlH_ok tab_ok (calOf_ok (F_segment_tcp.cal0_ok k)) mixed Try.func79 F_segment_tcp.nt79 k Try.call79, F_segment_tcp.cal0_ok k⟩
noncomputable def F_segment_tcp.cal {T : Type} (k : Nat) : List (FuncId × Hd T) := F_segment_tcp.cal1 k
theorem F_segment_tcp.cal_ok {T : Type} (k : Nat) : HdsOk Try.prog (F_segment_tcp.cal (T := T) k) := F_segment_tcp.cal1_ok k
noncomputable def F_segment_tcp.S (k : Nat) (a0 : ByteArray) : O (Int ⊕ (Int × Int × Int × Int × Int × Int × Int × ByteArray × ByteArray × Bool)) :=
  O.cond (!(decide ((ByteArray.size a0 : Int) ≥ (20 : Int)))) (
   .ok (.inl (80 : Int))) (
   O.chk (decide (0 ≤ (12 : Int) ∧ (12 : Int) < (ByteArray.size a0 : Int))) (
    O.cond (!(decide ((ByteArray.size a0 : Int) ≥ (IntKind.i64.wrap ((4 : Int) * (IntKind.i64.wrap (shR .u8 (bt a0 (12 : Int)) (4 : Int)))))))) (
     .ok (.inl (80 : Int))) (
     O.cond (decide ((IntKind.i64.wrap ((4 : Int) * (IntKind.i64.wrap (shR .u8 (bt a0 (12 : Int)) (4 : Int))))) ≥ (20 : Int))) (
      O.chk (decide (0 ≤ (12 : Int) ∧ (12 : Int) < (ByteArray.size a0 : Int))) (
       O.cond (!(decide ((bAnd .u8 (bt a0 (12 : Int)) (15 : Int)) = (0 : Int)))) (
        .ok (.inl (81 : Int))) (
        O.chk (decide (0 ≤ (13 : Int) ∧ (13 : Int) < (ByteArray.size a0 : Int))) (
         O.chk (decide (0 ≤ (20 : Int) ∧ (20 : Int) ≤ (IntKind.i64.wrap ((4 : Int) * (IntKind.i64.wrap (shR .u8 (bt a0 (12 : Int)) (4 : Int))))) ∧ (IntKind.i64.wrap ((4 : Int) * (IntKind.i64.wrap (shR .u8 (bt a0 (12 : Int)) (4 : Int))))) ≤ (ByteArray.size a0 : Int))) (
          O.chk (decide (0 ≤ (IntKind.i64.wrap ((4 : Int) * (IntKind.i64.wrap (shR .u8 (bt a0 (12 : Int)) (4 : Int))))) ∧ (IntKind.i64.wrap ((4 : Int) * (IntKind.i64.wrap (shR .u8 (bt a0 (12 : Int)) (4 : Int))))) ≤ (ByteArray.size a0 : Int))) (
           O.bind (F_segment_num.S k a0 (0 : Int) (2 : Int)) fun r1 =>
           O.bind (F_segment_num.S k a0 (2 : Int) (2 : Int)) fun r3 =>
           O.bind (F_segment_num.S k a0 (4 : Int) (4 : Int)) fun r5 =>
           O.bind (F_segment_num.S k a0 (8 : Int) (4 : Int)) fun r7 =>
           O.bind (F_segment_num.S k a0 (14 : Int) (2 : Int)) fun r9 =>
           O.bind (F_segment_num.S k a0 (18 : Int) (2 : Int)) fun r11 =>
           .ok (.inr (r1, r3, (IntKind.u32.wrap r5), (IntKind.u32.wrap r7), (IntKind.i64.wrap (bt a0 (13 : Int))), r9, r11, (ByteArray.extract a0 20 (IntKind.i64.wrap ((4 : Int) * (IntKind.i64.wrap (shR .u8 (bt a0 (12 : Int)) (4 : Int))))).toNat), (ByteArray.extract a0 (IntKind.i64.wrap ((4 : Int) * (IntKind.i64.wrap (shR .u8 (bt a0 (12 : Int)) (4 : Int))))).toNat (ByteArray.size a0)), false)))))))) (
      .ok (.inl (81 : Int))))))
theorem F_segment_tcp.eq (k : Nat) (a0 : ByteArray) : evFn (T := Int ⊕ (Int × Int × Int × Int × Int × Int × Int × ByteArray × ByteArray × Bool)) tab (calOf (F_segment_tcp.cal k)) Go.Proofs.Try.f89 F_segment_tcp.nt k [.str a0] [] ⟨0, false, []⟩ (fun v st => takeR F_segment_tcp.rt v st.H (fun x => .ok (.inr x))) (panE 102 true [.int .i64]) = F_segment_tcp.S k a0 := by kernel_rfl
theorem F_segment_tcp.ok (k : Nat) : FnOkE Try.prog 89 F_segment_tcp.as F_segment_tcp.rt 102 true [.int .i64] (fun (x : ByteArray) => F_segment_tcp.S k x) :=
  FnOkE.of_ev tab_ok (calOf_ok (F_segment_tcp.cal_ok k)) mixed Try.func89 F_segment_tcp.nt k (fun _ => rfl) (fun (x : ByteArray) => F_segment_tcp.eq k x)
theorem F_segment_tcp.hd {T : Type} (k : Nat) : HdOk Try.prog 89 (pureE (T := T) F_segment_tcp.as F_segment_tcp.rt 102 true [.int .i64] (fun (x : ByteArray) => F_segment_tcp.S k x)) :=
  pureE_ok rfl rfl (F_segment_tcp.ok k) Try.call89
/-! ### aqueduct/segment.udp: function 90 -/
noncomputable def F_segment_udp.as : As := .some (.cons (.agg (.cons (.leaf (.int .i64)) (.cons (.leaf .str) (.cons (.leaf .str) (.cons (.leaf (.int .i64)) (.cons (.leaf (.int .i64)) (.cons (.leaf (.int .i64)) (.cons (.leaf (.int .i64)) (.cons (.leaf (.int .i64)) (.cons (.leaf (.int .i64)) (.cons (.leaf (.int .i64)) (.cons (.leaf .str) (.one (.leaf .str)))))))))))))) (.one (.leaf .str)))
noncomputable def F_segment_udp.rt : Rt := .val (.agg (.cons (.leaf (.int .i64)) (.cons (.leaf (.int .i64)) (.cons (.leaf (.int .u32)) (.cons (.leaf (.int .u32)) (.cons (.leaf (.int .i64)) (.cons (.leaf (.int .i64)) (.cons (.leaf (.int .i64)) (.cons (.leaf .str) (.cons (.leaf .str) (.one (.leaf .bool))))))))))))
noncomputable def F_segment_udp.nt : Notes := ⟨[], [], [(3, [0, 2, 4, 5, 6, 1, 3, 7, 8, 9, 10, 11, 12, 13, 14, 15])], [], []⟩
noncomputable def F_segment_udp.cal0 {T : Type} (k : Nat) : List (FuncId × Hd T) := [(91, pureN F_segment_num.as F_segment_num.rt (fun (x : ByteArray × Int × Int) => F_segment_num.S k x.1 x.2.1 x.2.2))]
theorem F_segment_udp.cal0_ok {T : Type} (k : Nat) : HdsOk Try.prog (F_segment_udp.cal0 (T := T) k) := ⟨F_segment_num.hd k, trivial⟩
noncomputable def F_segment_udp.nt79 : Notes := ⟨[], [], [], [], []⟩
noncomputable def F_segment_udp.cal1 {T : Type} (k : Nat) : List (FuncId × Hd T) := (79, inlH tab (calOf (F_segment_udp.cal0 k)) Go.Proofs.Try.f79 F_segment_udp.nt79 k) :: F_segment_udp.cal0 k
theorem F_segment_udp.cal1_ok {T : Type} (k : Nat) : HdsOk Try.prog (F_segment_udp.cal1 (T := T) k) := ⟨inlH_ok tab_ok (calOf_ok (F_segment_udp.cal0_ok k)) mixed Try.func79 F_segment_udp.nt79 k Try.call79, F_segment_udp.cal0_ok k⟩
noncomputable def F_segment_udp.cal {T : Type} (k : Nat) : List (FuncId × Hd T) := F_segment_udp.cal1 k
theorem F_segment_udp.cal_ok {T : Type} (k : Nat) : HdsOk Try.prog (F_segment_udp.cal (T := T) k) := F_segment_udp.cal1_ok k
noncomputable def F_segment_udp.S (k : Nat) (a0 : Int × ByteArray × ByteArray × Int × Int × Int × Int × Int × Int × Int × ByteArray × ByteArray) (a1 : ByteArray) : O (Int ⊕ (Int × Int × Int × Int × Int × Int × Int × ByteArray × ByteArray × Bool)) :=
  O.cond (!(decide ((ByteArray.size a1 : Int) ≥ (8 : Int)))) (
   .ok (.inl (80 : Int))) (
   O.bind (F_segment_num.S k a1 (4 : Int) (2 : Int)) fun r1 =>
   O.cond (!(decide (r1 = (ByteArray.size a1 : Int)))) (
    .ok (.inl (81 : Int))) (
    O.chk (decide (0 ≤ (8 : Int) ∧ (8 : Int) ≤ (ByteArray.size a1 : Int))) (
     O.bind (F_segment_num.S k a1 (0 : Int) (2 : Int)) fun r3 =>
     O.bind (F_segment_num.S k a1 (2 : Int) (2 : Int)) fun r5 =>
     O.bind (F_segment_num.S k a1 (6 : Int) (2 : Int)) fun r7 =>
     O.cond (decide (r7 = (0 : Int))) (
      .ok (.inr (r3, r5, (0 : Int), (0 : Int), (0 : Int), (0 : Int), (0 : Int), ByteArray.empty, (ByteArray.extract a1 8 (ByteArray.size a1)), (decide (a0.1 = (4 : Int)))))) (
      .ok (.inr (r3, r5, (0 : Int), (0 : Int), (0 : Int), (0 : Int), (0 : Int), ByteArray.empty, (ByteArray.extract a1 8 (ByteArray.size a1)), false))))))
theorem F_segment_udp.eq (k : Nat) (a0 : Int × ByteArray × ByteArray × Int × Int × Int × Int × Int × Int × Int × ByteArray × ByteArray) (a1 : ByteArray) : evFn (T := Int ⊕ (Int × Int × Int × Int × Int × Int × Int × ByteArray × ByteArray × Bool)) tab (calOf (F_segment_udp.cal k)) Go.Proofs.Try.f90 F_segment_udp.nt k [.agg [.int .i64 a0.1, .str a0.2.1, .str a0.2.2.1, .int .i64 a0.2.2.2.1, .int .i64 a0.2.2.2.2.1, .int .i64 a0.2.2.2.2.2.1, .int .i64 a0.2.2.2.2.2.2.1, .int .i64 a0.2.2.2.2.2.2.2.1, .int .i64 a0.2.2.2.2.2.2.2.2.1, .int .i64 a0.2.2.2.2.2.2.2.2.2.1, .str a0.2.2.2.2.2.2.2.2.2.2.1, .str a0.2.2.2.2.2.2.2.2.2.2.2], .str a1] [] ⟨0, false, []⟩ (fun v st => takeR F_segment_udp.rt v st.H (fun x => .ok (.inr x))) (panE 102 true [.int .i64]) = F_segment_udp.S k a0 a1 := by kernel_rfl
theorem F_segment_udp.ok (k : Nat) : FnOkE Try.prog 90 F_segment_udp.as F_segment_udp.rt 102 true [.int .i64] (fun (x : (Int × ByteArray × ByteArray × Int × Int × Int × Int × Int × Int × Int × ByteArray × ByteArray) × ByteArray) => F_segment_udp.S k x.1 x.2) :=
  FnOkE.of_ev tab_ok (calOf_ok (F_segment_udp.cal_ok k)) mixed Try.func90 F_segment_udp.nt k (fun _ => rfl) (fun (x : (Int × ByteArray × ByteArray × Int × Int × Int × Int × Int × Int × Int × ByteArray × ByteArray) × ByteArray) => F_segment_udp.eq k x.1 x.2)
theorem F_segment_udp.hd {T : Type} (k : Nat) : HdOk Try.prog 90 (pureE (T := T) F_segment_udp.as F_segment_udp.rt 102 true [.int .i64] (fun (x : (Int × ByteArray × ByteArray × Int × Int × Int × Int × Int × Int × Int × ByteArray × ByteArray) × ByteArray) => F_segment_udp.S k x.1 x.2)) :=
  pureE_ok rfl rfl (F_segment_udp.ok k) Try.call90
/-! ### aqueduct/segment.Parse: function 62 -/
noncomputable def F_segment_Parse.as : As := .some (.one (.agg (.cons (.leaf (.int .i64)) (.cons (.leaf .str) (.cons (.leaf .str) (.cons (.leaf (.int .i64)) (.cons (.leaf (.int .i64)) (.cons (.leaf (.int .i64)) (.cons (.leaf (.int .i64)) (.cons (.leaf (.int .i64)) (.cons (.leaf (.int .i64)) (.cons (.leaf (.int .i64)) (.cons (.leaf .str) (.one (.leaf .str)))))))))))))))
noncomputable def F_segment_Parse.rt : Rt := .tup (.cons (.agg (.cons (.leaf (.int .i64)) (.cons (.leaf (.int .i64)) (.cons (.leaf (.int .u32)) (.cons (.leaf (.int .u32)) (.cons (.leaf (.int .i64)) (.cons (.leaf (.int .i64)) (.cons (.leaf (.int .i64)) (.cons (.leaf .str) (.cons (.leaf .str) (.one (.leaf .bool)))))))))))) (.one (.leaf (.int .i64))))
noncomputable def F_segment_Parse.nt : Notes := ⟨[], [], [(7, [0, 1, 2, 3, 4, 7, 8, 5, 6, 9, 10, 11, 12, 13])], [], []⟩
noncomputable def F_segment_Parse.cal0 {T : Type} (k : Nat) : List (FuncId × Hd T) := [(44, pureN F_segment_place.as F_segment_place.rt (fun (x : Int × ByteArray × ByteArray × Int × Int × Int × Int × Int × Int × Int × ByteArray × ByteArray) => F_segment_place.S k x)), (45, pureN F_segment_sum.as F_segment_sum.rt (fun (x : (Int × ByteArray × ByteArray × Int × Int × Int × Int × Int × Int × Int × ByteArray × ByteArray) × ByteArray) => F_segment_sum.S k x.1 x.2)), (77, pureE F_segment_may.as F_segment_may.rt 102 true [.int .i64] (fun (x : Int × ByteArray × ByteArray × Int × Int × Int × Int × Int × Int × Int × ByteArray × ByteArray) => F_segment_may.S k x)), (89, pureE F_segment_tcp.as F_segment_tcp.rt 102 true [.int .i64] (fun (x : ByteArray) => F_segment_tcp.S k x)), (90, pureE F_segment_udp.as F_segment_udp.rt 102 true [.int .i64] (fun (x : (Int × ByteArray × ByteArray × Int × Int × Int × Int × Int × Int × Int × ByteArray × ByteArray) × ByteArray) => F_segment_udp.S k x.1 x.2)), (91, pureN F_segment_num.as F_segment_num.rt (fun (x : ByteArray × Int × Int) => F_segment_num.S k x.1 x.2.1 x.2.2))]
theorem F_segment_Parse.cal0_ok {T : Type} (k : Nat) : HdsOk Try.prog (F_segment_Parse.cal0 (T := T) k) := ⟨F_segment_place.hd k, F_segment_sum.hd k, F_segment_may.hd k, F_segment_tcp.hd k, F_segment_udp.hd k, F_segment_num.hd k, trivial⟩
noncomputable def F_segment_Parse.nt41 : Notes := ⟨[], [], [], [], []⟩
noncomputable def F_segment_Parse.cal1 {T : Type} (k : Nat) : List (FuncId × Hd T) := (41, inlH tab (calOf (F_segment_Parse.cal0 k)) Go.Proofs.Try.f41 F_segment_Parse.nt41 k) :: F_segment_Parse.cal0 k
theorem F_segment_Parse.cal1_ok {T : Type} (k : Nat) : HdsOk Try.prog (F_segment_Parse.cal1 (T := T) k) := ⟨inlH_ok tab_ok (calOf_ok (F_segment_Parse.cal0_ok k)) mixed Try.func41 F_segment_Parse.nt41 k Try.call41, F_segment_Parse.cal0_ok k⟩
noncomputable def F_segment_Parse.nt79 : Notes := ⟨[], [], [], [], []⟩
noncomputable def F_segment_Parse.cal2 {T : Type} (k : Nat) : List (FuncId × Hd T) := (79, inlH tab (calOf (F_segment_Parse.cal1 k)) Go.Proofs.Try.f79 F_segment_Parse.nt79 k) :: F_segment_Parse.cal1 k
theorem F_segment_Parse.cal2_ok {T : Type} (k : Nat) : HdsOk Try.prog (F_segment_Parse.cal2 (T := T) k) := ⟨inlH_ok tab_ok (calOf_ok (F_segment_Parse.cal1_ok k)) mixed Try.func79 F_segment_Parse.nt79 k Try.call79, F_segment_Parse.cal1_ok k⟩
noncomputable def F_segment_Parse.cal {T : Type} (k : Nat) : List (FuncId × Hd T) := F_segment_Parse.cal2 k
theorem F_segment_Parse.cal_ok {T : Type} (k : Nat) : HdsOk Try.prog (F_segment_Parse.cal (T := T) k) := F_segment_Parse.cal2_ok k
noncomputable def F_segment_Parse.nt88 : Notes := ⟨[], [], [], [], []⟩
noncomputable def F_segment_Parse.D : Dfs := [(88, Go.Proofs.Try.f88, F_segment_Parse.nt88)]
theorem F_segment_Parse.D_ok : DfsOk Try.prog F_segment_Parse.D := ⟨⟨Try.func88, Try.call88⟩, trivial⟩
noncomputable def F_segment_Parse.S (k : Nat) (a0 : Int × ByteArray × ByteArray × Int × Int × Int × Int × Int × Int × Int × ByteArray × ByteArray) : O ((Int × Int × Int × Int × Int × Int × Int × ByteArray × ByteArray × Bool) × Int) :=
  O.sum (F_segment_may.S k a0) (fun e2 =>
   O.cond true (
    .ok (((0 : Int), (0 : Int), (0 : Int), (0 : Int), (0 : Int), (0 : Int), (0 : Int), ByteArray.empty, ByteArray.empty, false), e2)) (
    .ok (((0 : Int), (0 : Int), (0 : Int), (0 : Int), (0 : Int), (0 : Int), (0 : Int), ByteArray.empty, ByteArray.empty, false), (0 : Int)))) fun r1 =>
  O.cond (decide (a0.2.2.2.1 = (6 : Int))) (
   O.sum (F_segment_tcp.S k a0.2.2.2.2.2.2.2.2.2.2.2) (fun e4 =>
    O.cond true (
     .ok (((0 : Int), (0 : Int), (0 : Int), (0 : Int), (0 : Int), (0 : Int), (0 : Int), ByteArray.empty, ByteArray.empty, false), e4)) (
     .ok (((0 : Int), (0 : Int), (0 : Int), (0 : Int), (0 : Int), (0 : Int), (0 : Int), ByteArray.empty, ByteArray.empty, false), (0 : Int)))) fun r3 =>
   O.cond r3.2.2.2.2.2.2.2.2.2 (
    O.cond false (
     .ok (((0 : Int), (0 : Int), (0 : Int), (0 : Int), (0 : Int), (0 : Int), (0 : Int), ByteArray.empty, ByteArray.empty, false), (0 : Int))) (
     .ok (r3, (0 : Int)))) (
    O.bind (F_segment_place.S k a0) fun r5 =>
    O.bind (F_segment_num.S k a0.2.2.2.2.2.2.2.2.2.2.2 r5 (2 : Int)) fun r7 =>
    O.bind (F_segment_sum.S k a0 a0.2.2.2.2.2.2.2.2.2.2.2) fun r9 =>
    O.cond (!(decide (r7 = (IntKind.i64.wrap r9)))) (
     O.cond true (
      .ok (((0 : Int), (0 : Int), (0 : Int), (0 : Int), (0 : Int), (0 : Int), (0 : Int), ByteArray.empty, ByteArray.empty, false), (82 : Int))) (
      .ok (r3, (0 : Int)))) (
     O.cond false (
      .ok (((0 : Int), (0 : Int), (0 : Int), (0 : Int), (0 : Int), (0 : Int), (0 : Int), ByteArray.empty, ByteArray.empty, false), (0 : Int))) (
      .ok (r3, (0 : Int)))))) (
   O.sum (F_segment_udp.S k a0 a0.2.2.2.2.2.2.2.2.2.2.2) (fun e12 =>
    O.cond true (
     .ok (((0 : Int), (0 : Int), (0 : Int), (0 : Int), (0 : Int), (0 : Int), (0 : Int), ByteArray.empty, ByteArray.empty, false), e12)) (
     .ok (((0 : Int), (0 : Int), (0 : Int), (0 : Int), (0 : Int), (0 : Int), (0 : Int), ByteArray.empty, ByteArray.empty, false), (0 : Int)))) fun r11 =>
   O.cond r11.2.2.2.2.2.2.2.2.2 (
    O.cond false (
     .ok (((0 : Int), (0 : Int), (0 : Int), (0 : Int), (0 : Int), (0 : Int), (0 : Int), ByteArray.empty, ByteArray.empty, false), (0 : Int))) (
     .ok (r11, (0 : Int)))) (
    O.bind (F_segment_place.S k a0) fun r13 =>
    O.bind (F_segment_num.S k a0.2.2.2.2.2.2.2.2.2.2.2 r13 (2 : Int)) fun r15 =>
    O.bind (F_segment_sum.S k a0 a0.2.2.2.2.2.2.2.2.2.2.2) fun r17 =>
    O.cond (!(decide (r15 = (IntKind.i64.wrap r17)))) (
     O.cond true (
      .ok (((0 : Int), (0 : Int), (0 : Int), (0 : Int), (0 : Int), (0 : Int), (0 : Int), ByteArray.empty, ByteArray.empty, false), (82 : Int))) (
      .ok (r11, (0 : Int)))) (
     O.cond false (
      .ok (((0 : Int), (0 : Int), (0 : Int), (0 : Int), (0 : Int), (0 : Int), (0 : Int), ByteArray.empty, ByteArray.empty, false), (0 : Int))) (
      .ok (r11, (0 : Int))))))
theorem F_segment_Parse.eq (k : Nat) (a0 : Int × ByteArray × ByteArray × Int × Int × Int × Int × Int × Int × Int × ByteArray × ByteArray) : evFnD (T := (Int × Int × Int × Int × Int × Int × Int × ByteArray × ByteArray × Bool) × Int) tab (calOf (F_segment_Parse.cal k)) F_segment_Parse.D Go.Proofs.Try.f62 F_segment_Parse.nt k [.agg [.int .i64 a0.1, .str a0.2.1, .str a0.2.2.1, .int .i64 a0.2.2.2.1, .int .i64 a0.2.2.2.2.1, .int .i64 a0.2.2.2.2.2.1, .int .i64 a0.2.2.2.2.2.2.1, .int .i64 a0.2.2.2.2.2.2.2.1, .int .i64 a0.2.2.2.2.2.2.2.2.1, .int .i64 a0.2.2.2.2.2.2.2.2.2.1, .str a0.2.2.2.2.2.2.2.2.2.2.1, .str a0.2.2.2.2.2.2.2.2.2.2.2]] ⟨0, false, []⟩ (fun v st => takeR F_segment_Parse.rt v st.H .ok) panK = F_segment_Parse.S k a0 := by kernel_rfl
theorem F_segment_Parse.ok (k : Nat) : FnOk Try.prog 62 F_segment_Parse.as F_segment_Parse.rt (fun (x : Int × ByteArray × ByteArray × Int × Int × Int × Int × Int × Int × Int × ByteArray × ByteArray) => F_segment_Parse.S k x) :=
  FnOk.of_evD tab_ok (calOf_ok (F_segment_Parse.cal_ok k)) mixed F_segment_Parse.D_ok Try.func62 F_segment_Parse.nt k (fun _ => rfl) (fun (x : Int × ByteArray × ByteArray × Int × Int × Int × Int × Int × Int × Int × ByteArray × ByteArray) => F_segment_Parse.eq k x)
theorem F_segment_Parse.hd {T : Type} (k : Nat) : HdOk Try.prog 62 (pureN (T := T) F_segment_Parse.as F_segment_Parse.rt (fun (x : Int × ByteArray × ByteArray × Int × Int × Int × Int × Int × Int × Int × ByteArray × ByteArray) => F_segment_Parse.S k x)) :=
  pureN_ok rfl rfl (F_segment_Parse.ok k) Try.call62
/-! ### aqueduct/segment.bare: function 42 -/
noncomputable def F_segment_bare.as : As := .some (.cons (.agg (.cons (.leaf (.int .i64)) (.cons (.leaf .str) (.cons (.leaf .str) (.cons (.leaf (.int .i64)) (.cons (.leaf (.int .i64)) (.cons (.leaf (.int .i64)) (.cons (.leaf (.int .i64)) (.cons (.leaf (.int .i64)) (.cons (.leaf (.int .i64)) (.cons (.leaf (.int .i64)) (.cons (.leaf .str) (.one (.leaf .str)))))))))))))) (.one (.agg (.cons (.leaf (.int .i64)) (.cons (.leaf (.int .i64)) (.cons (.leaf (.int .u32)) (.cons (.leaf (.int .u32)) (.cons (.leaf (.int .i64)) (.cons (.leaf (.int .i64)) (.cons (.leaf (.int .i64)) (.cons (.leaf .str) (.cons (.leaf .str) (.one (.leaf .bool))))))))))))))
noncomputable def F_segment_bare.rt : Rt := .val (.leaf .str)
noncomputable def F_segment_bare.nt : Notes := ⟨[], [], [(2, [0, 1, 3, 4, 2, 5, 6, 7]), (5, [0, 1, 2, 3, 4, 8, 9, 5, 6, 7, 10, 11]), (8, [0, 1, 2, 3, 6, 7, 8, 11, 12, 13, 16, 17, 20, 21, 25, 26, 29, 30, 32, 33, 4, 5, 9, 10, 14, 15, 18, 19, 22, 23, 24, 27, 28, 31, 34, 35])], [], []⟩
noncomputable def F_segment_bare.cal0 {T : Type} (k : Nat) : List (FuncId × Hd T) := [(26, pureN F_words_Put.as F_words_Put.rt (fun (x : Int × Int × Bool) => F_words_Put.S k x.1 x.2.1 x.2.2)), (77, pureE F_segment_may.as F_segment_may.rt 102 true [.int .i64] (fun (x : Int × ByteArray × ByteArray × Int × Int × Int × Int × Int × Int × Int × ByteArray × ByteArray) => F_segment_may.S k x))]
theorem F_segment_bare.cal0_ok {T : Type} (k : Nat) : HdsOk Try.prog (F_segment_bare.cal0 (T := T) k) := ⟨F_words_Put.hd k, F_segment_may.hd k, trivial⟩
noncomputable def F_segment_bare.nt79 : Notes := ⟨[], [], [], [], []⟩
noncomputable def F_segment_bare.cal1 {T : Type} (k : Nat) : List (FuncId × Hd T) := (79, inlH tab (calOf (F_segment_bare.cal0 k)) Go.Proofs.Try.f79 F_segment_bare.nt79 k) :: F_segment_bare.cal0 k
theorem F_segment_bare.cal1_ok {T : Type} (k : Nat) : HdsOk Try.prog (F_segment_bare.cal1 (T := T) k) := ⟨inlH_ok tab_ok (calOf_ok (F_segment_bare.cal0_ok k)) mixed Try.func79 F_segment_bare.nt79 k Try.call79, F_segment_bare.cal0_ok k⟩
noncomputable def F_segment_bare.nt78 : Notes := ⟨[], [], [], [], []⟩
noncomputable def F_segment_bare.cal2 {T : Type} (k : Nat) : List (FuncId × Hd T) := (78, inlH tab (calOf (F_segment_bare.cal1 k)) Go.Proofs.Try.f78 F_segment_bare.nt78 k) :: F_segment_bare.cal1 k
theorem F_segment_bare.cal2_ok {T : Type} (k : Nat) : HdsOk Try.prog (F_segment_bare.cal2 (T := T) k) := ⟨inlH_ok tab_ok (calOf_ok (F_segment_bare.cal1_ok k)) mixed Try.func78 F_segment_bare.nt78 k Try.call78, F_segment_bare.cal1_ok k⟩
noncomputable def F_segment_bare.cal {T : Type} (k : Nat) : List (FuncId × Hd T) := F_segment_bare.cal2 k
theorem F_segment_bare.cal_ok {T : Type} (k : Nat) : HdsOk Try.prog (F_segment_bare.cal (T := T) k) := F_segment_bare.cal2_ok k
noncomputable def F_segment_bare.S (k : Nat) (a0 : Int × ByteArray × ByteArray × Int × Int × Int × Int × Int × Int × Int × ByteArray × ByteArray) (a1 : Int × Int × Int × Int × Int × Int × Int × ByteArray × ByteArray × Bool) : O (Int ⊕ ByteArray) :=
  O.sum (F_segment_may.S k a0) (fun e4 =>
   .ok (.inl e4)) fun r3 =>
  O.cond (!(decide (a1.1 ≥ (0 : Int)))) (
   .ok (.inl (81 : Int))) (
   O.bind (F_words_Put.S k (IntKind.u64.wrap a1.1) (2 : Int) true) fun r9 =>
   O.cond (!(decide (r9.2 = (0 : Int)))) (
    .ok (.inl (81 : Int))) (
    O.cond (!(decide (a1.2.1 ≥ (0 : Int)))) (
     .ok (.inl (81 : Int))) (
     O.bind (F_words_Put.S k (IntKind.u64.wrap a1.2.1) (2 : Int) true) fun r11 =>
     O.cond (!(decide (r11.2 = (0 : Int)))) (
      .ok (.inl (81 : Int))) (
      O.chk (decide (((ByteArray.size r9.1 + ByteArray.size r11.1 : Nat) : Int) ≤ 9223372036854775807)) (
       O.cond (decide (a0.2.2.2.1 = (17 : Int))) (
        O.cond (decide (a1.2.2.1 = (0 : Int))) (
         O.cond (decide (a1.2.2.2.1 = (0 : Int))) (
          O.cond (decide (a1.2.2.2.2.1 = (0 : Int))) (
           O.cond (decide (a1.2.2.2.2.2.1 = (0 : Int))) (
            O.cond (decide (a1.2.2.2.2.2.2.1 = (0 : Int))) (
             O.cond (decide (a1.2.2.2.2.2.2.2.1 = (⟨#[]⟩ : ByteArray))) (
              O.cond a1.2.2.2.2.2.2.2.2.2 (
               O.cond (!(decide (a0.1 = (6 : Int)))) (
                O.cond (!(decide ((ByteArray.size a1.2.2.2.2.2.2.2.2.1 : Int) ≤ (65527 : Int)))) (
                 .ok (.inl (81 : Int))) (
                 O.cond (!(decide ((IntKind.i64.wrap ((8 : Int) + (ByteArray.size a1.2.2.2.2.2.2.2.2.1 : Int))) ≥ (0 : Int)))) (
                  .ok (.inl (81 : Int))) (
                  O.bind (F_words_Put.S k (IntKind.u64.wrap (IntKind.i64.wrap ((8 : Int) + (ByteArray.size a1.2.2.2.2.2.2.2.2.1 : Int)))) (2 : Int) true) fun r17 =>
                  O.cond (!(decide (r17.2 = (0 : Int)))) (
                   .ok (.inl (81 : Int))) (
                   O.chk (decide (((ByteArray.size (r9.1 ++ r11.1) + ByteArray.size r17.1 : Nat) : Int) ≤ 9223372036854775807)) (
                    O.chk (decide (((ByteArray.size ((r9.1 ++ r11.1) ++ r17.1) + ByteArray.size (⟨#[0, 0]⟩ : ByteArray) : Nat) : Int) ≤ 9223372036854775807)) (
                     O.chk (decide (((ByteArray.size (((r9.1 ++ r11.1) ++ r17.1) ++ (⟨#[0, 0]⟩ : ByteArray)) + ByteArray.size a1.2.2.2.2.2.2.2.2.1 : Nat) : Int) ≤ 9223372036854775807)) (
                      .ok (.inr ((((r9.1 ++ r11.1) ++ r17.1) ++ (⟨#[0, 0]⟩ : ByteArray)) ++ a1.2.2.2.2.2.2.2.2.1))))))))) (
                .ok (.inl (81 : Int)))) (
               O.cond (!(decide ((ByteArray.size a1.2.2.2.2.2.2.2.2.1 : Int) ≤ (65527 : Int)))) (
                .ok (.inl (81 : Int))) (
                O.cond (!(decide ((IntKind.i64.wrap ((8 : Int) + (ByteArray.size a1.2.2.2.2.2.2.2.2.1 : Int))) ≥ (0 : Int)))) (
                 .ok (.inl (81 : Int))) (
                 O.bind (F_words_Put.S k (IntKind.u64.wrap (IntKind.i64.wrap ((8 : Int) + (ByteArray.size a1.2.2.2.2.2.2.2.2.1 : Int)))) (2 : Int) true) fun r19 =>
                 O.cond (!(decide (r19.2 = (0 : Int)))) (
                  .ok (.inl (81 : Int))) (
                  O.chk (decide (((ByteArray.size (r9.1 ++ r11.1) + ByteArray.size r19.1 : Nat) : Int) ≤ 9223372036854775807)) (
                   O.chk (decide (((ByteArray.size ((r9.1 ++ r11.1) ++ r19.1) + ByteArray.size (⟨#[0, 0]⟩ : ByteArray) : Nat) : Int) ≤ 9223372036854775807)) (
                    O.chk (decide (((ByteArray.size (((r9.1 ++ r11.1) ++ r19.1) ++ (⟨#[0, 0]⟩ : ByteArray)) + ByteArray.size a1.2.2.2.2.2.2.2.2.1 : Nat) : Int) ≤ 9223372036854775807)) (
                     .ok (.inr ((((r9.1 ++ r11.1) ++ r19.1) ++ (⟨#[0, 0]⟩ : ByteArray)) ++ a1.2.2.2.2.2.2.2.2.1)))))))))) (
              .ok (.inl (81 : Int)))) (
             .ok (.inl (81 : Int)))) (
            .ok (.inl (81 : Int)))) (
           .ok (.inl (81 : Int)))) (
          .ok (.inl (81 : Int)))) (
         .ok (.inl (81 : Int)))) (
        O.cond (!a1.2.2.2.2.2.2.2.2.2) (
         O.cond (decide ((ByteArray.size a1.2.2.2.2.2.2.2.1 : Int) ≤ (40 : Int))) (
          O.cond (decide ((Int.tmod (ByteArray.size a1.2.2.2.2.2.2.2.1 : Int) (4 : Int)) = (0 : Int))) (
           O.cond (!(decide ((ByteArray.size a1.2.2.2.2.2.2.2.2.1 : Int) ≤ (IntKind.i64.wrap ((65535 : Int) - (IntKind.i64.wrap ((20 : Int) + (ByteArray.size a1.2.2.2.2.2.2.2.1 : Int)))))))) (
            .ok (.inl (81 : Int))) (
            O.cond (!(decide ((IntKind.i64.wrap a1.2.2.1) ≥ (0 : Int)))) (
             .ok (.inl (81 : Int))) (
             O.bind (F_words_Put.S k (IntKind.u64.wrap (IntKind.i64.wrap a1.2.2.1)) (4 : Int) true) fun r21 =>
             O.cond (!(decide (r21.2 = (0 : Int)))) (
              .ok (.inl (81 : Int))) (
              O.chk (decide (((ByteArray.size (r9.1 ++ r11.1) + ByteArray.size r21.1 : Nat) : Int) ≤ 9223372036854775807)) (
               O.cond (!(decide ((IntKind.i64.wrap a1.2.2.2.1) ≥ (0 : Int)))) (
                .ok (.inl (81 : Int))) (
                O.bind (F_words_Put.S k (IntKind.u64.wrap (IntKind.i64.wrap a1.2.2.2.1)) (4 : Int) true) fun r23 =>
                O.cond (!(decide (r23.2 = (0 : Int)))) (
                 .ok (.inl (81 : Int))) (
                 O.chk (decide (((ByteArray.size ((r9.1 ++ r11.1) ++ r21.1) + ByteArray.size r23.1 : Nat) : Int) ≤ 9223372036854775807)) (
                  O.cond (!(decide ((shL .i64 (IntKind.i64.wrap (Int.tdiv (IntKind.i64.wrap ((20 : Int) + (ByteArray.size a1.2.2.2.2.2.2.2.1 : Int))) (4 : Int))) (4 : Int)) ≥ (0 : Int)))) (
                   .ok (.inl (81 : Int))) (
                   O.bind (F_words_Put.S k (IntKind.u64.wrap (shL .i64 (IntKind.i64.wrap (Int.tdiv (IntKind.i64.wrap ((20 : Int) + (ByteArray.size a1.2.2.2.2.2.2.2.1 : Int))) (4 : Int))) (4 : Int))) (1 : Int) true) fun r25 =>
                   O.cond (!(decide (r25.2 = (0 : Int)))) (
                    .ok (.inl (81 : Int))) (
                    O.chk (decide (((ByteArray.size (((r9.1 ++ r11.1) ++ r21.1) ++ r23.1) + ByteArray.size r25.1 : Nat) : Int) ≤ 9223372036854775807)) (
                     O.cond (!(decide (a1.2.2.2.2.1 ≥ (0 : Int)))) (
                      .ok (.inl (81 : Int))) (
                      O.bind (F_words_Put.S k (IntKind.u64.wrap a1.2.2.2.2.1) (1 : Int) true) fun r27 =>
                      O.cond (!(decide (r27.2 = (0 : Int)))) (
                       .ok (.inl (81 : Int))) (
                       O.chk (decide (((ByteArray.size ((((r9.1 ++ r11.1) ++ r21.1) ++ r23.1) ++ r25.1) + ByteArray.size r27.1 : Nat) : Int) ≤ 9223372036854775807)) (
                        O.cond (!(decide (a1.2.2.2.2.2.1 ≥ (0 : Int)))) (
                         .ok (.inl (81 : Int))) (
                         O.bind (F_words_Put.S k (IntKind.u64.wrap a1.2.2.2.2.2.1) (2 : Int) true) fun r29 =>
                         O.cond (!(decide (r29.2 = (0 : Int)))) (
                          .ok (.inl (81 : Int))) (
                          O.chk (decide (((ByteArray.size (((((r9.1 ++ r11.1) ++ r21.1) ++ r23.1) ++ r25.1) ++ r27.1) + ByteArray.size r29.1 : Nat) : Int) ≤ 9223372036854775807)) (
                           O.chk (decide (((ByteArray.size ((((((r9.1 ++ r11.1) ++ r21.1) ++ r23.1) ++ r25.1) ++ r27.1) ++ r29.1) + ByteArray.size (⟨#[0, 0]⟩ : ByteArray) : Nat) : Int) ≤ 9223372036854775807)) (
                            O.cond (!(decide (a1.2.2.2.2.2.2.1 ≥ (0 : Int)))) (
                             .ok (.inl (81 : Int))) (
                             O.bind (F_words_Put.S k (IntKind.u64.wrap a1.2.2.2.2.2.2.1) (2 : Int) true) fun r31 =>
                             O.cond (!(decide (r31.2 = (0 : Int)))) (
                              .ok (.inl (81 : Int))) (
                              O.chk (decide (((ByteArray.size (((((((r9.1 ++ r11.1) ++ r21.1) ++ r23.1) ++ r25.1) ++ r27.1) ++ r29.1) ++ (⟨#[0, 0]⟩ : ByteArray)) + ByteArray.size r31.1 : Nat) : Int) ≤ 9223372036854775807)) (
                               O.chk (decide (((ByteArray.size ((((((((r9.1 ++ r11.1) ++ r21.1) ++ r23.1) ++ r25.1) ++ r27.1) ++ r29.1) ++ (⟨#[0, 0]⟩ : ByteArray)) ++ r31.1) + ByteArray.size a1.2.2.2.2.2.2.2.1 : Nat) : Int) ≤ 9223372036854775807)) (
                                O.chk (decide (((ByteArray.size (((((((((r9.1 ++ r11.1) ++ r21.1) ++ r23.1) ++ r25.1) ++ r27.1) ++ r29.1) ++ (⟨#[0, 0]⟩ : ByteArray)) ++ r31.1) ++ a1.2.2.2.2.2.2.2.1) + ByteArray.size a1.2.2.2.2.2.2.2.2.1 : Nat) : Int) ≤ 9223372036854775807)) (
                                 .ok (.inr ((((((((((r9.1 ++ r11.1) ++ r21.1) ++ r23.1) ++ r25.1) ++ r27.1) ++ r29.1) ++ (⟨#[0, 0]⟩ : ByteArray)) ++ r31.1) ++ a1.2.2.2.2.2.2.2.1) ++ a1.2.2.2.2.2.2.2.2.1))))))))))))))))))))))))) (
           .ok (.inl (81 : Int)))) (
          .ok (.inl (81 : Int)))) (
         .ok (.inl (81 : Int)))))))))
theorem F_segment_bare.eq (k : Nat) (a0 : Int × ByteArray × ByteArray × Int × Int × Int × Int × Int × Int × Int × ByteArray × ByteArray) (a1 : Int × Int × Int × Int × Int × Int × Int × ByteArray × ByteArray × Bool) : evFn (T := Int ⊕ ByteArray) tab (calOf (F_segment_bare.cal k)) Go.Proofs.Try.f42 F_segment_bare.nt k [.agg [.int .i64 a0.1, .str a0.2.1, .str a0.2.2.1, .int .i64 a0.2.2.2.1, .int .i64 a0.2.2.2.2.1, .int .i64 a0.2.2.2.2.2.1, .int .i64 a0.2.2.2.2.2.2.1, .int .i64 a0.2.2.2.2.2.2.2.1, .int .i64 a0.2.2.2.2.2.2.2.2.1, .int .i64 a0.2.2.2.2.2.2.2.2.2.1, .str a0.2.2.2.2.2.2.2.2.2.2.1, .str a0.2.2.2.2.2.2.2.2.2.2.2], .agg [.int .i64 a1.1, .int .i64 a1.2.1, .int .u32 a1.2.2.1, .int .u32 a1.2.2.2.1, .int .i64 a1.2.2.2.2.1, .int .i64 a1.2.2.2.2.2.1, .int .i64 a1.2.2.2.2.2.2.1, .str a1.2.2.2.2.2.2.2.1, .str a1.2.2.2.2.2.2.2.2.1, .bool a1.2.2.2.2.2.2.2.2.2]] [] ⟨0, false, []⟩ (fun v st => takeR F_segment_bare.rt v st.H (fun x => .ok (.inr x))) (panE 102 true [.int .i64]) = F_segment_bare.S k a0 a1 := by kernel_rfl
theorem F_segment_bare.ok (k : Nat) : FnOkE Try.prog 42 F_segment_bare.as F_segment_bare.rt 102 true [.int .i64] (fun (x : (Int × ByteArray × ByteArray × Int × Int × Int × Int × Int × Int × Int × ByteArray × ByteArray) × (Int × Int × Int × Int × Int × Int × Int × ByteArray × ByteArray × Bool)) => F_segment_bare.S k x.1 x.2) :=
  FnOkE.of_ev tab_ok (calOf_ok (F_segment_bare.cal_ok k)) mixed Try.func42 F_segment_bare.nt k (fun _ => rfl) (fun (x : (Int × ByteArray × ByteArray × Int × Int × Int × Int × Int × Int × Int × ByteArray × ByteArray) × (Int × Int × Int × Int × Int × Int × Int × ByteArray × ByteArray × Bool)) => F_segment_bare.eq k x.1 x.2)
theorem F_segment_bare.hd {T : Type} (k : Nat) : HdOk Try.prog 42 (pureE (T := T) F_segment_bare.as F_segment_bare.rt 102 true [.int .i64] (fun (x : (Int × ByteArray × ByteArray × Int × Int × Int × Int × Int × Int × Int × ByteArray × ByteArray) × (Int × Int × Int × Int × Int × Int × Int × ByteArray × ByteArray × Bool)) => F_segment_bare.S k x.1 x.2)) :=
  pureE_ok rfl rfl (F_segment_bare.ok k) Try.call42
/-! ### aqueduct/segment.Partial: function 63 -/
noncomputable def F_segment_Partial.as : As := .some (.cons (.agg (.cons (.leaf (.int .i64)) (.cons (.leaf .str) (.cons (.leaf .str) (.cons (.leaf (.int .i64)) (.cons (.leaf (.int .i64)) (.cons (.leaf (.int .i64)) (.cons (.leaf (.int .i64)) (.cons (.leaf (.int .i64)) (.cons (.leaf (.int .i64)) (.cons (.leaf (.int .i64)) (.cons (.leaf .str) (.one (.leaf .str)))))))))))))) (.one (.agg (.cons (.leaf (.int .i64)) (.cons (.leaf (.int .i64)) (.cons (.leaf (.int .u32)) (.cons (.leaf (.int .u32)) (.cons (.leaf (.int .i64)) (.cons (.leaf (.int .i64)) (.cons (.leaf (.int .i64)) (.cons (.leaf .str) (.cons (.leaf .str) (.one (.leaf .bool))))))))))))))
noncomputable def F_segment_Partial.rt : Rt := .tup (.cons (.leaf .str) (.cons (.leaf (.int .i64)) (.one (.leaf (.int .i64)))))
noncomputable def F_segment_Partial.nt : Notes := ⟨[], [], [(4, [0, 1, 3, 4, 5, 9, 2, 6, 7, 8, 10, 11, 12, 13])], [], []⟩
noncomputable def F_segment_Partial.cal0 {T : Type} (k : Nat) : List (FuncId × Hd T) := [(30, pureN F_csum_On.as F_csum_On.rt (fun (x : Int × ByteArray) => F_csum_On.S k x.1 x.2)), (31, pureN F_ip_Pseudo.as F_ip_Pseudo.rt (fun (x : (Int × ByteArray × ByteArray × Int × Int × Int × Int × Int × Int × Int × ByteArray × ByteArray) × Int) => F_ip_Pseudo.S k x.1 x.2)), (42, pureE F_segment_bare.as F_segment_bare.rt 102 true [.int .i64] (fun (x : (Int × ByteArray × ByteArray × Int × Int × Int × Int × Int × Int × Int × ByteArray × ByteArray) × (Int × Int × Int × Int × Int × Int × Int × ByteArray × ByteArray × Bool)) => F_segment_bare.S k x.1 x.2)), (43, pureN F_segment_set.as F_segment_set.rt (fun (x : ByteArray × Int × Int) => F_segment_set.S k x.1 x.2.1 x.2.2)), (44, pureN F_segment_place.as F_segment_place.rt (fun (x : Int × ByteArray × ByteArray × Int × Int × Int × Int × Int × Int × Int × ByteArray × ByteArray) => F_segment_place.S k x))]
theorem F_segment_Partial.cal0_ok {T : Type} (k : Nat) : HdsOk Try.prog (F_segment_Partial.cal0 (T := T) k) := ⟨F_csum_On.hd k, F_ip_Pseudo.hd k, F_segment_bare.hd k, F_segment_set.hd k, F_segment_place.hd k, trivial⟩
noncomputable def F_segment_Partial.nt41 : Notes := ⟨[], [], [], [], []⟩
noncomputable def F_segment_Partial.cal1 {T : Type} (k : Nat) : List (FuncId × Hd T) := (41, inlH tab (calOf (F_segment_Partial.cal0 k)) Go.Proofs.Try.f41 F_segment_Partial.nt41 k) :: F_segment_Partial.cal0 k
theorem F_segment_Partial.cal1_ok {T : Type} (k : Nat) : HdsOk Try.prog (F_segment_Partial.cal1 (T := T) k) := ⟨inlH_ok tab_ok (calOf_ok (F_segment_Partial.cal0_ok k)) mixed Try.func41 F_segment_Partial.nt41 k Try.call41, F_segment_Partial.cal0_ok k⟩
noncomputable def F_segment_Partial.nt79 : Notes := ⟨[], [], [], [], []⟩
noncomputable def F_segment_Partial.cal2 {T : Type} (k : Nat) : List (FuncId × Hd T) := (79, inlH tab (calOf (F_segment_Partial.cal1 k)) Go.Proofs.Try.f79 F_segment_Partial.nt79 k) :: F_segment_Partial.cal1 k
theorem F_segment_Partial.cal2_ok {T : Type} (k : Nat) : HdsOk Try.prog (F_segment_Partial.cal2 (T := T) k) := ⟨inlH_ok tab_ok (calOf_ok (F_segment_Partial.cal1_ok k)) mixed Try.func79 F_segment_Partial.nt79 k Try.call79, F_segment_Partial.cal1_ok k⟩
noncomputable def F_segment_Partial.cal {T : Type} (k : Nat) : List (FuncId × Hd T) := F_segment_Partial.cal2 k
theorem F_segment_Partial.cal_ok {T : Type} (k : Nat) : HdsOk Try.prog (F_segment_Partial.cal (T := T) k) := F_segment_Partial.cal2_ok k
noncomputable def F_segment_Partial.nt92 : Notes := ⟨[], [], [], [], []⟩
noncomputable def F_segment_Partial.D : Dfs := [(92, Go.Proofs.Try.f92, F_segment_Partial.nt92)]
theorem F_segment_Partial.D_ok : DfsOk Try.prog F_segment_Partial.D := ⟨⟨Try.func92, Try.call92⟩, trivial⟩
noncomputable def F_segment_Partial.S (k : Nat) (a0 : Int × ByteArray × ByteArray × Int × Int × Int × Int × Int × Int × Int × ByteArray × ByteArray) (a1 : Int × Int × Int × Int × Int × Int × Int × ByteArray × ByteArray × Bool) : O (ByteArray × Int × Int) :=
  O.sum (F_segment_bare.S k a0 a1) (fun e2 =>
   O.cond true (
    .ok ((⟨#[]⟩ : ByteArray), (0 : Int), e2)) (
    .ok (ByteArray.empty, (0 : Int), (0 : Int)))) fun r1 =>
  O.cond (!(!a1.2.2.2.2.2.2.2.2.2)) (
   O.cond true (
    .ok ((⟨#[]⟩ : ByteArray), (0 : Int), (81 : Int))) (
    .ok (r1, (0 : Int), (0 : Int)))) (
   O.bind (F_segment_place.S k a0) fun r3 =>
   O.bind (F_ip_Pseudo.S k a0 (ByteArray.size r1 : Int)) fun r5 =>
   O.bind (F_csum_On.S k (0 : Int) r5) fun r7 =>
   O.bind (F_segment_set.S k r1 r3 r7) fun r9 =>
   O.bind (F_segment_place.S k a0) fun r11 =>
   O.cond false (
    .ok ((⟨#[]⟩ : ByteArray), (0 : Int), (0 : Int))) (
    .ok (r9, r11, (0 : Int))))
theorem F_segment_Partial.eq (k : Nat) (a0 : Int × ByteArray × ByteArray × Int × Int × Int × Int × Int × Int × Int × ByteArray × ByteArray) (a1 : Int × Int × Int × Int × Int × Int × Int × ByteArray × ByteArray × Bool) : evFnD (T := ByteArray × Int × Int) tab (calOf (F_segment_Partial.cal k)) F_segment_Partial.D Go.Proofs.Try.f63 F_segment_Partial.nt k [.agg [.int .i64 a0.1, .str a0.2.1, .str a0.2.2.1, .int .i64 a0.2.2.2.1, .int .i64 a0.2.2.2.2.1, .int .i64 a0.2.2.2.2.2.1, .int .i64 a0.2.2.2.2.2.2.1, .int .i64 a0.2.2.2.2.2.2.2.1, .int .i64 a0.2.2.2.2.2.2.2.2.1, .int .i64 a0.2.2.2.2.2.2.2.2.2.1, .str a0.2.2.2.2.2.2.2.2.2.2.1, .str a0.2.2.2.2.2.2.2.2.2.2.2], .agg [.int .i64 a1.1, .int .i64 a1.2.1, .int .u32 a1.2.2.1, .int .u32 a1.2.2.2.1, .int .i64 a1.2.2.2.2.1, .int .i64 a1.2.2.2.2.2.1, .int .i64 a1.2.2.2.2.2.2.1, .str a1.2.2.2.2.2.2.2.1, .str a1.2.2.2.2.2.2.2.2.1, .bool a1.2.2.2.2.2.2.2.2.2]] ⟨0, false, []⟩ (fun v st => takeR F_segment_Partial.rt v st.H .ok) panK = F_segment_Partial.S k a0 a1 := by kernel_rfl
theorem F_segment_Partial.ok (k : Nat) : FnOk Try.prog 63 F_segment_Partial.as F_segment_Partial.rt (fun (x : (Int × ByteArray × ByteArray × Int × Int × Int × Int × Int × Int × Int × ByteArray × ByteArray) × (Int × Int × Int × Int × Int × Int × Int × ByteArray × ByteArray × Bool)) => F_segment_Partial.S k x.1 x.2) :=
  FnOk.of_evD tab_ok (calOf_ok (F_segment_Partial.cal_ok k)) mixed F_segment_Partial.D_ok Try.func63 F_segment_Partial.nt k (fun _ => rfl) (fun (x : (Int × ByteArray × ByteArray × Int × Int × Int × Int × Int × Int × Int × ByteArray × ByteArray) × (Int × Int × Int × Int × Int × Int × Int × ByteArray × ByteArray × Bool)) => F_segment_Partial.eq k x.1 x.2)
theorem F_segment_Partial.hd {T : Type} (k : Nat) : HdOk Try.prog 63 (pureN (T := T) F_segment_Partial.as F_segment_Partial.rt (fun (x : (Int × ByteArray × ByteArray × Int × Int × Int × Int × Int × Int × Int × ByteArray × ByteArray) × (Int × Int × Int × Int × Int × Int × Int × ByteArray × ByteArray × Bool)) => F_segment_Partial.S k x.1 x.2)) :=
  pureN_ok rfl rfl (F_segment_Partial.ok k) Try.call63
/-! ### aqueduct/nethdr.at: function 29 -/
noncomputable def F_nethdr_at.as : As := .some (.one (.leaf .str))
noncomputable def F_nethdr_at.rt : Rt := .tup (.cons (.agg (.cons (.leaf (.int .i64)) (.cons (.leaf .str) (.cons (.leaf .str) (.cons (.leaf (.int .i64)) (.cons (.leaf (.int .i64)) (.cons (.leaf (.int .i64)) (.cons (.leaf (.int .i64)) (.cons (.leaf (.int .i64)) (.cons (.leaf (.int .i64)) (.cons (.leaf (.int .i64)) (.cons (.leaf .str) (.one (.leaf .str)))))))))))))) (.cons (.leaf (.int .i64)) (.cons (.leaf (.int .i64)) (.one (.leaf .bool)))))
noncomputable def F_nethdr_at.nt : Notes := ⟨[], [(7, [0, 2, 8])], [(11, [0, 1, 2, 3, 4, 5, 6, 7, 8, 9, 10, 11])], [], [(11, [4], [8])]⟩
noncomputable def F_nethdr_at.cal0 {T : Type} (k : Nat) : List (FuncId × Hd T) := [(60, pureN F_eth_Parse.as F_eth_Parse.rt (fun (x : ByteArray) => F_eth_Parse.S k x)), (61, pureN F_ip_Parse.as F_ip_Parse.rt (fun (x : ByteArray) => F_ip_Parse.S k x)), (62, pureN F_segment_Parse.as F_segment_Parse.rt (fun (x : Int × ByteArray × ByteArray × Int × Int × Int × Int × Int × Int × Int × ByteArray × ByteArray) => F_segment_Parse.S k x)), (63, pureN F_segment_Partial.as F_segment_Partial.rt (fun (x : (Int × ByteArray × ByteArray × Int × Int × Int × Int × Int × Int × Int × ByteArray × ByteArray) × (Int × Int × Int × Int × Int × Int × Int × ByteArray × ByteArray × Bool)) => F_segment_Partial.S k x.1 x.2))]
theorem F_nethdr_at.cal0_ok {T : Type} (k : Nat) : HdsOk Try.prog (F_nethdr_at.cal0 (T := T) k) := ⟨F_eth_Parse.hd k, F_ip_Parse.hd k, F_segment_Parse.hd k, F_segment_Partial.hd k, trivial⟩
noncomputable def F_nethdr_at.cal {T : Type} (k : Nat) : List (FuncId × Hd T) := F_nethdr_at.cal0 k
theorem F_nethdr_at.cal_ok {T : Type} (k : Nat) : HdsOk Try.prog (F_nethdr_at.cal (T := T) k) := F_nethdr_at.cal0_ok k
noncomputable def F_nethdr_at.j5_b (k : Nat) (a0 : ByteArray) (r7 : (Int × ByteArray × ByteArray × Int × Int × Int × Int × Int × Int × Int × ByteArray × ByteArray) × Int) : O ((Int × ByteArray × ByteArray × Int × Int × Int × Int × Int × Int × Int × ByteArray × ByteArray) × Int × Int × Bool) :=
  O.bind (F_segment_Parse.S k r7.1) fun r9 =>
  O.cond (decide (r9.2 ≠ (0 : Int))) (
   .ok (((0 : Int), ByteArray.empty, ByteArray.empty, (0 : Int), (0 : Int), (0 : Int), (0 : Int), (0 : Int), (0 : Int), (0 : Int), ByteArray.empty, ByteArray.empty), (0 : Int), (0 : Int), false)) (
   O.cond r9.1.2.2.2.2.2.2.2.2.2 (
    .ok (((0 : Int), ByteArray.empty, ByteArray.empty, (0 : Int), (0 : Int), (0 : Int), (0 : Int), (0 : Int), (0 : Int), (0 : Int), ByteArray.empty, ByteArray.empty), (0 : Int), (0 : Int), false)) (
    O.bind (F_segment_Partial.S k r7.1 r9.1) fun r11 =>
    .ok (r7.1, (IntKind.i64.wrap ((ByteArray.size a0 : Int) - (ByteArray.size r7.1.2.2.2.2.2.2.2.2.2.2.2 : Int))), r11.2.1, true)))
noncomputable def F_nethdr_at.j5 (k : Nat) (a0 : ByteArray) (r7 : (Int × ByteArray × ByteArray × Int × Int × Int × Int × Int × Int × Int × ByteArray × ByteArray) × Int) : O ((Int × ByteArray × ByteArray × Int × Int × Int × Int × Int × Int × Int × ByteArray × ByteArray) × Int × Int × Bool) := F_nethdr_at.j5_b k a0 r7
theorem F_nethdr_at.j5_eq (k : Nat) (a0 : ByteArray) (r7 : (Int × ByteArray × ByteArray × Int × Int × Int × Int × Int × Int × Int × ByteArray × ByteArray) × Int) : codeAt (T := (Int × ByteArray × ByteArray × Int × Int × Int × Int × Int × Int × Int × ByteArray × ByteArray) × Int × Int × Bool) tab (calOf (F_nethdr_at.cal k)) Go.Proofs.Try.f29.ntmps F_nethdr_at.nt k [] [.r, .r, .r, .r, .r] (bodyOf Go.Proofs.Try.f29) (finK tab Go.Proofs.Try.f29.results.toList (fun v st => takeR F_nethdr_at.rt v st.H .ok) panK) ⟨[(0, .str a0), (2, .ptr 0 0), (8, .ptr 1 0)], [], 0, []⟩ ⟨2, true, [(0, .cells 38 [.int .i64 (0 : Int), .str ByteArray.empty, .str ByteArray.empty, .int .i64 (0 : Int), .int .i64 (0 : Int), .int .i64 (0 : Int), .int .i64 (0 : Int), .int .i64 (0 : Int), .int .i64 (0 : Int), .int .i64 (0 : Int), .str ByteArray.empty, .str ByteArray.empty]), (1, .cells 38 [.int .i64 r7.1.1, .str r7.1.2.1, .str r7.1.2.2.1, .int .i64 r7.1.2.2.2.1, .int .i64 r7.1.2.2.2.2.1, .int .i64 r7.1.2.2.2.2.2.1, .int .i64 r7.1.2.2.2.2.2.2.1, .int .i64 r7.1.2.2.2.2.2.2.2.1, .int .i64 r7.1.2.2.2.2.2.2.2.2.1, .int .i64 r7.1.2.2.2.2.2.2.2.2.2.1, .str r7.1.2.2.2.2.2.2.2.2.2.2.1, .str r7.1.2.2.2.2.2.2.2.2.2.2.2])]⟩ = F_nethdr_at.j5 k a0 r7 := by
    have h : codeAt (T := (Int × ByteArray × ByteArray × Int × Int × Int × Int × Int × Int × Int × ByteArray × ByteArray) × Int × Int × Bool) tab (calOf (F_nethdr_at.cal k)) Go.Proofs.Try.f29.ntmps F_nethdr_at.nt k [] [.r, .r, .r, .r, .r] (bodyOf Go.Proofs.Try.f29) (finK tab Go.Proofs.Try.f29.results.toList (fun v st => takeR F_nethdr_at.rt v st.H .ok) panK) ⟨[(0, .str a0), (2, .ptr 0 0), (8, .ptr 1 0)], [], 0, []⟩ ⟨2, true, [(0, .cells 38 [.int .i64 (0 : Int), .str ByteArray.empty, .str ByteArray.empty, .int .i64 (0 : Int), .int .i64 (0 : Int), .int .i64 (0 : Int), .int .i64 (0 : Int), .int .i64 (0 : Int), .int .i64 (0 : Int), .int .i64 (0 : Int), .str ByteArray.empty, .str ByteArray.empty]), (1, .cells 38 [.int .i64 r7.1.1, .str r7.1.2.1, .str r7.1.2.2.1, .int .i64 r7.1.2.2.2.1, .int .i64 r7.1.2.2.2.2.1, .int .i64 r7.1.2.2.2.2.2.1, .int .i64 r7.1.2.2.2.2.2.2.1, .int .i64 r7.1.2.2.2.2.2.2.2.1, .int .i64 r7.1.2.2.2.2.2.2.2.2.1, .int .i64 r7.1.2.2.2.2.2.2.2.2.2.1, .str r7.1.2.2.2.2.2.2.2.2.2.2.1, .str r7.1.2.2.2.2.2.2.2.2.2.2.2])]⟩ = F_nethdr_at.j5_b k a0 r7 := (codeAt_eq _ _ _ _ _ _ _ _ _ _ _).trans (by show _ = _; kernel_rfl)
    exact h.trans (by rfl)
noncomputable def F_nethdr_at.top (k : Nat) (a0 : ByteArray) (D_j5 : ((Int × ByteArray × ByteArray × Int × Int × Int × Int × Int × Int × Int × ByteArray × ByteArray) × Int) → O ((Int × ByteArray × ByteArray × Int × Int × Int × Int × Int × Int × Int × ByteArray × ByteArray) × Int × Int × Bool)) : O ((Int × ByteArray × ByteArray × Int × Int × Int × Int × Int × Int × Int × ByteArray × ByteArray) × Int × Int × Bool) :=
  O.bind (F_eth_Parse.S k a0) fun r3 =>
  O.cond (decide (r3.2 ≠ (0 : Int))) (
   .ok (((0 : Int), ByteArray.empty, ByteArray.empty, (0 : Int), (0 : Int), (0 : Int), (0 : Int), (0 : Int), (0 : Int), (0 : Int), ByteArray.empty, ByteArray.empty), (0 : Int), (0 : Int), false)) (
   O.bind (F_ip_Parse.S k r3.1.2.2.2.2.2) fun r7 =>
   O.cond (decide (r7.2 ≠ (0 : Int))) (
    .ok (((0 : Int), ByteArray.empty, ByteArray.empty, (0 : Int), (0 : Int), (0 : Int), (0 : Int), (0 : Int), (0 : Int), (0 : Int), ByteArray.empty, ByteArray.empty), (0 : Int), (0 : Int), false)) (
    O.cond (decide (r7.1.1 = (4 : Int))) (
     O.cond (decide (r3.1.2.2.2.2.1 ≠ (2048 : Int))) (
      .ok (((0 : Int), ByteArray.empty, ByteArray.empty, (0 : Int), (0 : Int), (0 : Int), (0 : Int), (0 : Int), (0 : Int), (0 : Int), ByteArray.empty, ByteArray.empty), (0 : Int), (0 : Int), false)) (
      O.cond (decide (r7.1.1 = (6 : Int))) (
       O.cond (decide (r3.1.2.2.2.2.1 ≠ (34525 : Int))) (
        .ok (((0 : Int), ByteArray.empty, ByteArray.empty, (0 : Int), (0 : Int), (0 : Int), (0 : Int), (0 : Int), (0 : Int), (0 : Int), ByteArray.empty, ByteArray.empty), (0 : Int), (0 : Int), false)) (
        D_j5 r7)) (
       D_j5 r7))) (
     O.cond (decide (r7.1.1 = (6 : Int))) (
      O.cond (decide (r3.1.2.2.2.2.1 ≠ (34525 : Int))) (
       .ok (((0 : Int), ByteArray.empty, ByteArray.empty, (0 : Int), (0 : Int), (0 : Int), (0 : Int), (0 : Int), (0 : Int), (0 : Int), ByteArray.empty, ByteArray.empty), (0 : Int), (0 : Int), false)) (
       D_j5 r7)) (
      D_j5 r7))))
noncomputable def F_nethdr_at.S (k : Nat) (a0 : ByteArray) : O ((Int × ByteArray × ByteArray × Int × Int × Int × Int × Int × Int × Int × ByteArray × ByteArray) × Int × Int × Bool) := F_nethdr_at.top k a0 ((fun (r7 : (Int × ByteArray × ByteArray × Int × Int × Int × Int × Int × Int × Int × ByteArray × ByteArray) × Int) => F_nethdr_at.j5 k a0 r7))
theorem F_nethdr_at.eq (k : Nat) (a0 : ByteArray) : evFn (T := (Int × ByteArray × ByteArray × Int × Int × Int × Int × Int × Int × Int × ByteArray × ByteArray) × Int × Int × Bool) tab (calOf (F_nethdr_at.cal k)) Go.Proofs.Try.f29 F_nethdr_at.nt k [.str a0] [] ⟨0, false, []⟩ (fun v st => takeR F_nethdr_at.rt v st.H .ok) panK = F_nethdr_at.S k a0 := by
  have e0 : (fun (r7 : (Int × ByteArray × ByteArray × Int × Int × Int × Int × Int × Int × Int × ByteArray × ByteArray) × Int) => codeAt (T := (Int × ByteArray × ByteArray × Int × Int × Int × Int × Int × Int × Int × ByteArray × ByteArray) × Int × Int × Bool) tab (calOf (F_nethdr_at.cal k)) Go.Proofs.Try.f29.ntmps F_nethdr_at.nt k [] [.r, .r, .r, .r, .r] (bodyOf Go.Proofs.Try.f29) (finK tab Go.Proofs.Try.f29.results.toList (fun v st => takeR F_nethdr_at.rt v st.H .ok) panK) ⟨[(0, .str a0), (2, .ptr 0 0), (8, .ptr 1 0)], [], 0, []⟩ ⟨2, true, [(0, .cells 38 [.int .i64 (0 : Int), .str ByteArray.empty, .str ByteArray.empty, .int .i64 (0 : Int), .int .i64 (0 : Int), .int .i64 (0 : Int), .int .i64 (0 : Int), .int .i64 (0 : Int), .int .i64 (0 : Int), .int .i64 (0 : Int), .str ByteArray.empty, .str ByteArray.empty]), (1, .cells 38 [.int .i64 r7.1.1, .str r7.1.2.1, .str r7.1.2.2.1, .int .i64 r7.1.2.2.2.1, .int .i64 r7.1.2.2.2.2.1, .int .i64 r7.1.2.2.2.2.2.1, .int .i64 r7.1.2.2.2.2.2.2.1, .int .i64 r7.1.2.2.2.2.2.2.2.1, .int .i64 r7.1.2.2.2.2.2.2.2.2.1, .int .i64 r7.1.2.2.2.2.2.2.2.2.2.1, .str r7.1.2.2.2.2.2.2.2.2.2.2.1, .str r7.1.2.2.2.2.2.2.2.2.2.2.2])]⟩) = (fun (r7 : (Int × ByteArray × ByteArray × Int × Int × Int × Int × Int × Int × Int × ByteArray × ByteArray) × Int) => F_nethdr_at.j5 k a0 r7) := by funext r7; exact F_nethdr_at.j5_eq k a0 r7
  have h : evFn (T := (Int × ByteArray × ByteArray × Int × Int × Int × Int × Int × Int × Int × ByteArray × ByteArray) × Int × Int × Bool) tab (calOf (F_nethdr_at.cal k)) Go.Proofs.Try.f29 F_nethdr_at.nt k [.str a0] [] ⟨0, false, []⟩ (fun v st => takeR F_nethdr_at.rt v st.H .ok) panK = F_nethdr_at.top k a0 ((fun (r7 : (Int × ByteArray × ByteArray × Int × Int × Int × Int × Int × Int × Int × ByteArray × ByteArray) × Int) => codeAt (T := (Int × ByteArray × ByteArray × Int × Int × Int × Int × Int × Int × Int × ByteArray × ByteArray) × Int × Int × Bool) tab (calOf (F_nethdr_at.cal k)) Go.Proofs.Try.f29.ntmps F_nethdr_at.nt k [] [.r, .r, .r, .r, .r] (bodyOf Go.Proofs.Try.f29) (finK tab Go.Proofs.Try.f29.results.toList (fun v st => takeR F_nethdr_at.rt v st.H .ok) panK) ⟨[(0, .str a0), (2, .ptr 0 0), (8, .ptr 1 0)], [], 0, []⟩ ⟨2, true, [(0, .cells 38 [.int .i64 (0 : Int), .str ByteArray.empty, .str ByteArray.empty, .int .i64 (0 : Int), .int .i64 (0 : Int), .int .i64 (0 : Int), .int .i64 (0 : Int), .int .i64 (0 : Int), .int .i64 (0 : Int), .int .i64 (0 : Int), .str ByteArray.empty, .str ByteArray.empty]), (1, .cells 38 [.int .i64 r7.1.1, .str r7.1.2.1, .str r7.1.2.2.1, .int .i64 r7.1.2.2.2.1, .int .i64 r7.1.2.2.2.2.1, .int .i64 r7.1.2.2.2.2.2.1, .int .i64 r7.1.2.2.2.2.2.2.1, .int .i64 r7.1.2.2.2.2.2.2.2.1, .int .i64 r7.1.2.2.2.2.2.2.2.2.1, .int .i64 r7.1.2.2.2.2.2.2.2.2.2.1, .str r7.1.2.2.2.2.2.2.2.2.2.2.1, .str r7.1.2.2.2.2.2.2.2.2.2.2.2])]⟩)) := by kernel_rfl
  exact h.trans (by rw [e0]; rfl)
theorem F_nethdr_at.ok (k : Nat) : FnOk Try.prog 29 F_nethdr_at.as F_nethdr_at.rt (fun (x : ByteArray) => F_nethdr_at.S k x) :=
  FnOk.of_ev tab_ok (calOf_ok (F_nethdr_at.cal_ok k)) mixed Try.func29 F_nethdr_at.nt k (fun _ => rfl) (fun (x : ByteArray) => F_nethdr_at.eq k x)
theorem F_nethdr_at.hd {T : Type} (k : Nat) : HdOk Try.prog 29 (pureN (T := T) F_nethdr_at.as F_nethdr_at.rt (fun (x : ByteArray) => F_nethdr_at.S k x)) :=
  pureN_ok rfl rfl (F_nethdr_at.ok k) Try.call29
/-! ### aqueduct/words.Set: function 32 -/
noncomputable def F_words_Set.as : As := .some (.cons (.leaf .str) (.cons (.leaf (.int .i64)) (.cons (.leaf (.int .u64)) (.cons (.leaf (.int .i64)) (.one (.leaf .bool))))))
noncomputable def F_words_Set.rt : Rt := .tup (.cons (.leaf .str) (.one (.leaf (.int .i64))))
noncomputable def F_words_Set.nt : Notes := ⟨[], [], [(6, [0, 1, 2, 3, 4, 5, 6, 7, 8, 9, 10, 11, 12])], [], []⟩
noncomputable def F_words_Set.cal0 {T : Type} (k : Nat) : List (FuncId × Hd T) := [(26, pureN F_words_Put.as F_words_Put.rt (fun (x : Int × Int × Bool) => F_words_Put.S k x.1 x.2.1 x.2.2))]
theorem F_words_Set.cal0_ok {T : Type} (k : Nat) : HdsOk Try.prog (F_words_Set.cal0 (T := T) k) := ⟨F_words_Put.hd k, trivial⟩
noncomputable def F_words_Set.cal {T : Type} (k : Nat) : List (FuncId × Hd T) := F_words_Set.cal0 k
theorem F_words_Set.cal_ok {T : Type} (k : Nat) : HdsOk Try.prog (F_words_Set.cal (T := T) k) := F_words_Set.cal0_ok k
noncomputable def F_words_Set.S (k : Nat) (a0 : ByteArray) (a1 : Int) (a2 : Int) (a3 : Int) (a4 : Bool) : O (ByteArray × Int) :=
  O.bind (F_words_Put.S k a2 a3 a4) fun r1 =>
  O.cond (decide (r1.2 ≠ (0 : Int))) (
   .ok ((⟨#[]⟩ : ByteArray), r1.2)) (
   O.cond (decide (a1 < (0 : Int))) (
    .ok ((⟨#[]⟩ : ByteArray), (10 : Int))) (
    O.cond (decide (a1 > (IntKind.i64.wrap ((ByteArray.size a0 : Int) - a3)))) (
     .ok ((⟨#[]⟩ : ByteArray), (10 : Int))) (
     O.chk (decide (0 ≤ a1 ∧ a1 ≤ (ByteArray.size a0 : Int))) (
      O.chk (decide (((ByteArray.size (ByteArray.extract a0 0 a1.toNat) + ByteArray.size r1.1 : Nat) : Int) ≤ 9223372036854775807)) (
       O.chk (decide (0 ≤ (IntKind.i64.wrap (a1 + a3)) ∧ (IntKind.i64.wrap (a1 + a3)) ≤ (ByteArray.size a0 : Int))) (
        O.chk (decide (((ByteArray.size ((ByteArray.extract a0 0 a1.toNat) ++ r1.1) + ByteArray.size (ByteArray.extract a0 (IntKind.i64.wrap (a1 + a3)).toNat (ByteArray.size a0)) : Nat) : Int) ≤ 9223372036854775807)) (
         .ok ((((ByteArray.extract a0 0 a1.toNat) ++ r1.1) ++ (ByteArray.extract a0 (IntKind.i64.wrap (a1 + a3)).toNat (ByteArray.size a0))), (0 : Int)))))))))
theorem F_words_Set.eq (k : Nat) (a0 : ByteArray) (a1 : Int) (a2 : Int) (a3 : Int) (a4 : Bool) : evFn (T := ByteArray × Int) tab (calOf (F_words_Set.cal k)) Go.Proofs.Try.f32 F_words_Set.nt k [.str a0, .int .i64 a1, .int .u64 a2, .int .i64 a3, .bool a4] [] ⟨0, false, []⟩ (fun v st => takeR F_words_Set.rt v st.H .ok) panK = F_words_Set.S k a0 a1 a2 a3 a4 := by kernel_rfl
theorem F_words_Set.ok (k : Nat) : FnOk Try.prog 32 F_words_Set.as F_words_Set.rt (fun (x : ByteArray × Int × Int × Int × Bool) => F_words_Set.S k x.1 x.2.1 x.2.2.1 x.2.2.2.1 x.2.2.2.2) :=
  FnOk.of_ev tab_ok (calOf_ok (F_words_Set.cal_ok k)) mixed Try.func32 F_words_Set.nt k (fun _ => rfl) (fun (x : ByteArray × Int × Int × Int × Bool) => F_words_Set.eq k x.1 x.2.1 x.2.2.1 x.2.2.2.1 x.2.2.2.2)
theorem F_words_Set.hd {T : Type} (k : Nat) : HdOk Try.prog 32 (pureN (T := T) F_words_Set.as F_words_Set.rt (fun (x : ByteArray × Int × Int × Int × Bool) => F_words_Set.S k x.1 x.2.1 x.2.2.1 x.2.2.2.1 x.2.2.2.2)) :=
  pureN_ok rfl rfl (F_words_Set.ok k) Try.call32
/-! ### aqueduct/nethdr.Offload: function 17 -/
noncomputable def F_nethdr_Offload.as : As := .some (.one (.leaf .str))
noncomputable def F_nethdr_Offload.rt : Rt := .tup (.cons (.agg (.cons (.leaf (.int .i64)) (.cons (.leaf (.int .i64)) (.cons (.leaf (.int .i64)) (.cons (.leaf (.int .i64)) (.cons (.leaf (.int .i64)) (.cons (.leaf (.int .i64)) (.one (.leaf (.int .i64)))))))))) (.one (.leaf .str)))
noncomputable def F_nethdr_Offload.nt : Notes := ⟨[], [], [], [], []⟩
noncomputable def F_nethdr_Offload.cal0 {T : Type} (k : Nat) : List (FuncId × Hd T) := [(29, pureN F_nethdr_at.as F_nethdr_at.rt (fun (x : ByteArray) => F_nethdr_at.S k x)), (30, pureN F_csum_On.as F_csum_On.rt (fun (x : Int × ByteArray) => F_csum_On.S k x.1 x.2)), (31, pureN F_ip_Pseudo.as F_ip_Pseudo.rt (fun (x : (Int × ByteArray × ByteArray × Int × Int × Int × Int × Int × Int × Int × ByteArray × ByteArray) × Int) => F_ip_Pseudo.S k x.1 x.2)), (32, pureN F_words_Set.as F_words_Set.rt (fun (x : ByteArray × Int × Int × Int × Bool) => F_words_Set.S k x.1 x.2.1 x.2.2.1 x.2.2.2.1 x.2.2.2.2))]
theorem F_nethdr_Offload.cal0_ok {T : Type} (k : Nat) : HdsOk Try.prog (F_nethdr_Offload.cal0 (T := T) k) := ⟨F_nethdr_at.hd k, F_csum_On.hd k, F_ip_Pseudo.hd k, F_words_Set.hd k, trivial⟩
noncomputable def F_nethdr_Offload.cal {T : Type} (k : Nat) : List (FuncId × Hd T) := F_nethdr_Offload.cal0 k
theorem F_nethdr_Offload.cal_ok {T : Type} (k : Nat) : HdsOk Try.prog (F_nethdr_Offload.cal (T := T) k) := F_nethdr_Offload.cal0_ok k
noncomputable def F_nethdr_Offload.S (k : Nat) (a0 : ByteArray) : O ((Int × Int × Int × Int × Int × Int × Int) × ByteArray) :=
  O.bind (F_nethdr_at.S k a0) fun r1 =>
  O.cond (!r1.2.2.2) (
   .ok (((0 : Int), (0 : Int), (0 : Int), (0 : Int), (0 : Int), (0 : Int), (0 : Int)), a0)) (
   O.bind (F_ip_Pseudo.S k r1.1 (ByteArray.size r1.1.2.2.2.2.2.2.2.2.2.2.2 : Int)) fun r3 =>
   O.bind (F_csum_On.S k (0 : Int) r3) fun r5 =>
   O.bind (F_words_Set.S k a0 (IntKind.i64.wrap (r1.2.1 + r1.2.2.1)) (IntKind.u64.wrap r5) (2 : Int) true) fun r7 =>
   .ok (((1 : Int), (0 : Int), (0 : Int), (0 : Int), r1.2.1, r1.2.2.1, (0 : Int)), r7.1))
theorem F_nethdr_Offload.eq (k : Nat) (a0 : ByteArray) : evFn (T := (Int × Int × Int × Int × Int × Int × Int) × ByteArray) tab (calOf (F_nethdr_Offload.cal k)) Go.Proofs.Try.f17 F_nethdr_Offload.nt k [.str a0] [] ⟨0, false, []⟩ (fun v st => takeR F_nethdr_Offload.rt v st.H .ok) panK = F_nethdr_Offload.S k a0 := by kernel_rfl
theorem F_nethdr_Offload.ok (k : Nat) : FnOk Try.prog 17 F_nethdr_Offload.as F_nethdr_Offload.rt (fun (x : ByteArray) => F_nethdr_Offload.S k x) :=
  FnOk.of_ev tab_ok (calOf_ok (F_nethdr_Offload.cal_ok k)) mixed Try.func17 F_nethdr_Offload.nt k (fun _ => rfl) (fun (x : ByteArray) => F_nethdr_Offload.eq k x)
theorem F_nethdr_Offload.hd {T : Type} (k : Nat) : HdOk Try.prog 17 (pureN (T := T) F_nethdr_Offload.as F_nethdr_Offload.rt (fun (x : ByteArray) => F_nethdr_Offload.S k x)) :=
  pureN_ok rfl rfl (F_nethdr_Offload.ok k) Try.call17
/-! ### aqueduct/aqueductlaw10.fixed: function 14 -/
noncomputable def F_aqueductlaw10_fixed.as : As := .none
noncomputable def F_aqueductlaw10_fixed.rt : Rt := .val (.leaf .bool)
noncomputable def F_aqueductlaw10_fixed.nt : Notes := ⟨[], [], [], [], []⟩
noncomputable def F_aqueductlaw10_fixed.cal0 {T : Type} (k : Nat) : List (FuncId × Hd T) := [(10, pureN F_nethdr_Parse.as F_nethdr_Parse.rt (fun (x : ByteArray) => F_nethdr_Parse.S k x)), (12, pureN F_nethdr_Build.as F_nethdr_Build.rt (fun (x : Int × Int × Int × Int × Int × Int × Int) => F_nethdr_Build.S k x)), (15, pureN F_nethdr_Finish.as F_nethdr_Finish.rt (fun (x : (Int × Int × Int × Int × Int × Int × Int) × ByteArray) => F_nethdr_Finish.S k x.1 x.2)), (17, pureN F_nethdr_Offload.as F_nethdr_Offload.rt (fun (x : ByteArray) => F_nethdr_Offload.S k x))]
theorem F_aqueductlaw10_fixed.cal0_ok {T : Type} (k : Nat) : HdsOk Try.prog (F_aqueductlaw10_fixed.cal0 (T := T) k) := ⟨F_nethdr_Parse.hd k, F_nethdr_Build.hd k, F_nethdr_Finish.hd k, F_nethdr_Offload.hd k, trivial⟩
noncomputable def F_aqueductlaw10_fixed.cal {T : Type} (k : Nat) : List (FuncId × Hd T) := F_aqueductlaw10_fixed.cal0 k
theorem F_aqueductlaw10_fixed.cal_ok {T : Type} (k : Nat) : HdsOk Try.prog (F_aqueductlaw10_fixed.cal (T := T) k) := F_aqueductlaw10_fixed.cal0_ok k
noncomputable def F_aqueductlaw10_fixed.S (k : Nat) : O Bool :=
  O.bind (F_nethdr_Build.S k ((1 : Int), (0 : Int), (0 : Int), (0 : Int), (34 : Int), (6 : Int), (0 : Int))) fun r3 =>
  O.chk (decide (((ByteArray.size r3.1 + ByteArray.size (⟨#[102, 114, 97, 109, 101]⟩ : ByteArray) : Nat) : Int) ≤ 9223372036854775807)) (
   O.bind (F_nethdr_Parse.S k (r3.1 ++ (⟨#[102, 114, 97, 109, 101]⟩ : ByteArray))) fun r7 =>
   O.chk (decide (0 ≤ (min (ByteArray.size r3.1 : Int) (11 : Int)) ∧ (min (ByteArray.size r3.1 : Int) (11 : Int)) ≤ (ByteArray.size r3.1 : Int))) (
    O.bind (F_nethdr_Parse.S k (ByteArray.extract r3.1 0 (min (ByteArray.size r3.1 : Int) (11 : Int)).toNat)) fun r11 =>
    O.bind (F_nethdr_Build.S k ((4 : Int), (0 : Int), (0 : Int), (0 : Int), (0 : Int), (0 : Int), (0 : Int))) fun r15 =>
    O.bind (F_nethdr_Finish.S k ((0 : Int), (0 : Int), (0 : Int), (0 : Int), (0 : Int), (0 : Int), (0 : Int)) (⟨#[102, 114, 97, 109, 101]⟩ : ByteArray)) fun r19 =>
    O.bind (F_nethdr_Finish.S k ((0 : Int), (1 : Int), (0 : Int), (0 : Int), (0 : Int), (0 : Int), (0 : Int)) (⟨#[102, 114, 97, 109, 101]⟩ : ByteArray)) fun r23 =>
    O.bind (F_nethdr_Finish.S k ((1 : Int), (0 : Int), (0 : Int), (0 : Int), (9 : Int), (0 : Int), (0 : Int)) (⟨#[102, 114, 97, 109, 101]⟩ : ByteArray)) fun r27 =>
    O.bind (F_nethdr_Offload.S k (⟨#[102, 114, 97, 109, 101]⟩ : ByteArray)) fun r31 =>
    O.cond (decide (r3.1 = (⟨#[1, 0, 0, 0, 0, 0, 34, 0, 6, 0, 0, 0]⟩ : ByteArray))) (
     O.cond (decide (r3.2 = (0 : Int))) (
      O.cond (decide (r7.1.1 = (1 : Int)) && (decide (r7.1.2.1 = (0 : Int)) && (decide (r7.1.2.2.1 = (0 : Int)) && (decide (r7.1.2.2.2.1 = (0 : Int)) && (decide (r7.1.2.2.2.2.1 = (34 : Int)) && (decide (r7.1.2.2.2.2.2.1 = (6 : Int)) && (decide (r7.1.2.2.2.2.2.2 = (0 : Int)) && true))))))) (
       O.cond (decide (r7.2.1 = (⟨#[102, 114, 97, 109, 101]⟩ : ByteArray))) (
        O.cond (decide (r7.2.2 = (0 : Int))) (
         O.cond (decide (r11.2.2 = (100 : Int))) (
          O.cond (decide (r15.2 = (101 : Int))) (
           O.cond (decide (r19.1 = (⟨#[102, 114, 97, 109, 101]⟩ : ByteArray))) (
            O.cond (decide (r19.2 = (0 : Int))) (
             O.cond (decide (r23.2 = (101 : Int))) (
              O.cond (decide (r27.2 = (102 : Int))) (
               O.cond (decide (r31.1.1 = (0 : Int)) && (decide (r31.1.2.1 = (0 : Int)) && (decide (r31.1.2.2.1 = (0 : Int)) && (decide (r31.1.2.2.2.1 = (0 : Int)) && (decide (r31.1.2.2.2.2.1 = (0 : Int)) && (decide (r31.1.2.2.2.2.2.1 = (0 : Int)) && (decide (r31.1.2.2.2.2.2.2 = (0 : Int)) && true))))))) (
                .ok (decide (r31.2 = (⟨#[102, 114, 97, 109, 101]⟩ : ByteArray)))) (
                .ok false)) (
               .ok false)) (
              .ok false)) (
             .ok false)) (
            .ok false)) (
           .ok false)) (
          .ok false)) (
         .ok false)) (
        .ok false)) (
       .ok false)) (
      .ok false)) (
     .ok false)))
theorem F_aqueductlaw10_fixed.eq (k : Nat) : evFn (T := Bool) tab (calOf (F_aqueductlaw10_fixed.cal k)) Go.Proofs.Try.f14 F_aqueductlaw10_fixed.nt k [] [] ⟨0, false, []⟩ (fun v st => takeR F_aqueductlaw10_fixed.rt v st.H .ok) panK = F_aqueductlaw10_fixed.S k := by kernel_rfl
theorem F_aqueductlaw10_fixed.ok (k : Nat) : FnOk Try.prog 14 F_aqueductlaw10_fixed.as F_aqueductlaw10_fixed.rt (fun (_ : Unit) => F_aqueductlaw10_fixed.S k) :=
  FnOk.of_ev tab_ok (calOf_ok (F_aqueductlaw10_fixed.cal_ok k)) mixed Try.func14 F_aqueductlaw10_fixed.nt k (fun _ => rfl) (fun (_ : Unit) => F_aqueductlaw10_fixed.eq k)
theorem F_aqueductlaw10_fixed.hd {T : Type} (k : Nat) : HdOk Try.prog 14 (pureN (T := T) F_aqueductlaw10_fixed.as F_aqueductlaw10_fixed.rt (fun (_ : Unit) => F_aqueductlaw10_fixed.S k)) :=
  pureN_ok rfl rfl (F_aqueductlaw10_fixed.ok k) Try.call14
/-! ### aqueduct/aqueductlaw10.HdrParses: function 3 -/
noncomputable def F_aqueductlaw10_HdrParses.as : As := .some (.cons (.leaf .str) (.one (.agg (.cons (.leaf (.int .i64)) (.cons (.leaf (.int .i64)) (.cons (.leaf (.int .i64)) (.cons (.leaf (.int .i64)) (.cons (.leaf (.int .i64)) (.cons (.leaf (.int .i64)) (.one (.leaf (.int .i64))))))))))))
noncomputable def F_aqueductlaw10_HdrParses.rt : Rt := .val (.leaf .bool)
noncomputable def F_aqueductlaw10_HdrParses.nt : Notes := ⟨[], [], [], [], []⟩
noncomputable def F_aqueductlaw10_HdrParses.cal0 {T : Type} (k : Nat) : List (FuncId × Hd T) := [(10, pureN F_nethdr_Parse.as F_nethdr_Parse.rt (fun (x : ByteArray) => F_nethdr_Parse.S k x)), (11, pureN F_aqueductref10_Parse.as F_aqueductref10_Parse.rt (fun (x : ByteArray) => F_aqueductref10_Parse.S k x)), (12, pureN F_nethdr_Build.as F_nethdr_Build.rt (fun (x : Int × Int × Int × Int × Int × Int × Int) => F_nethdr_Build.S k x)), (13, pureN F_aqueductref10_Build.as F_aqueductref10_Build.rt (fun (x : Int × Int × Int × Int × Int × Int × Int) => F_aqueductref10_Build.S k x)), (14, pureN F_aqueductlaw10_fixed.as F_aqueductlaw10_fixed.rt (fun (_ : Unit) => F_aqueductlaw10_fixed.S k))]
theorem F_aqueductlaw10_HdrParses.cal0_ok {T : Type} (k : Nat) : HdsOk Try.prog (F_aqueductlaw10_HdrParses.cal0 (T := T) k) := ⟨F_nethdr_Parse.hd k, F_aqueductref10_Parse.hd k, F_nethdr_Build.hd k, F_aqueductref10_Build.hd k, F_aqueductlaw10_fixed.hd k, trivial⟩
noncomputable def F_aqueductlaw10_HdrParses.cal {T : Type} (k : Nat) : List (FuncId × Hd T) := F_aqueductlaw10_HdrParses.cal0 k
theorem F_aqueductlaw10_HdrParses.cal_ok {T : Type} (k : Nat) : HdsOk Try.prog (F_aqueductlaw10_HdrParses.cal (T := T) k) := F_aqueductlaw10_HdrParses.cal0_ok k
noncomputable def F_aqueductlaw10_HdrParses.S (k : Nat) (a0 : ByteArray) (a1 : Int × Int × Int × Int × Int × Int × Int) : O Bool :=
  O.bind (F_nethdr_Parse.S k a0) fun r3 =>
  O.bind (F_aqueductref10_Parse.S k a0) fun r7 =>
  O.bind (F_nethdr_Build.S k a1) fun r9 =>
  O.bind (F_aqueductref10_Build.S k a1) fun r11 =>
  O.bind (F_aqueductlaw10_fixed.S k) fun r13 =>
  O.cond r13 (
   O.cond (decide (r3.1.1 = r7.1.1) && (decide (r3.1.2.1 = r7.1.2.1) && (decide (r3.1.2.2.1 = r7.1.2.2.1) && (decide (r3.1.2.2.2.1 = r7.1.2.2.2.1) && (decide (r3.1.2.2.2.2.1 = r7.1.2.2.2.2.1) && (decide (r3.1.2.2.2.2.2.1 = r7.1.2.2.2.2.2.1) && (decide (r3.1.2.2.2.2.2.2 = r7.1.2.2.2.2.2.2) && true))))))) (
    O.cond (decide (r3.2.1 = r7.2.1)) (
     O.cond (decide (r3.2.2 = r7.2.2)) (
      O.cond (decide (r9.1 = r11.1)) (
       .ok (decide (r9.2 = r11.2))) (
       .ok false)) (
      .ok false)) (
     .ok false)) (
    .ok false)) (
   .ok false)
theorem F_aqueductlaw10_HdrParses.eq (k : Nat) (a0 : ByteArray) (a1 : Int × Int × Int × Int × Int × Int × Int) : evFn (T := Bool) tab (calOf (F_aqueductlaw10_HdrParses.cal k)) Go.Proofs.Try.f3 F_aqueductlaw10_HdrParses.nt k [.str a0, .agg [.int .i64 a1.1, .int .i64 a1.2.1, .int .i64 a1.2.2.1, .int .i64 a1.2.2.2.1, .int .i64 a1.2.2.2.2.1, .int .i64 a1.2.2.2.2.2.1, .int .i64 a1.2.2.2.2.2.2]] [] ⟨0, false, []⟩ (fun v st => takeR F_aqueductlaw10_HdrParses.rt v st.H .ok) panK = F_aqueductlaw10_HdrParses.S k a0 a1 := by kernel_rfl
theorem F_aqueductlaw10_HdrParses.ok (k : Nat) : FnOk Try.prog 3 F_aqueductlaw10_HdrParses.as F_aqueductlaw10_HdrParses.rt (fun (x : ByteArray × (Int × Int × Int × Int × Int × Int × Int)) => F_aqueductlaw10_HdrParses.S k x.1 x.2) :=
  FnOk.of_ev tab_ok (calOf_ok (F_aqueductlaw10_HdrParses.cal_ok k)) mixed Try.func3 F_aqueductlaw10_HdrParses.nt k (fun _ => rfl) (fun (x : ByteArray × (Int × Int × Int × Int × Int × Int × Int)) => F_aqueductlaw10_HdrParses.eq k x.1 x.2)
theorem F_aqueductlaw10_HdrParses.hd {T : Type} (k : Nat) : HdOk Try.prog 3 (pureN (T := T) F_aqueductlaw10_HdrParses.as F_aqueductlaw10_HdrParses.rt (fun (x : ByteArray × (Int × Int × Int × Int × Int × Int × Int)) => F_aqueductlaw10_HdrParses.S k x.1 x.2)) :=
  pureN_ok rfl rfl (F_aqueductlaw10_HdrParses.ok k) Try.call3
/-! ### aqueduct/aqueductref08.in: function 56 -/
noncomputable def F_aqueductref08_in.as : As := .some (.cons (.leaf (.int .i64)) (.one (.leaf (.int .i64))))
noncomputable def F_aqueductref08_in.rt : Rt := .val (.leaf .bool)
noncomputable def F_aqueductref08_in.nt : Notes := ⟨[], [], [], [], []⟩
noncomputable def F_aqueductref08_in.cal0 {T : Type} (k : Nat) : List (FuncId × Hd T) := []
theorem F_aqueductref08_in.cal0_ok {T : Type} (k : Nat) : HdsOk Try.prog (F_aqueductref08_in.cal0 (T := T) k) := trivial
noncomputable def F_aqueductref08_in.cal {T : Type} (k : Nat) : List (FuncId × Hd T) := F_aqueductref08_in.cal0 k
theorem F_aqueductref08_in.cal_ok {T : Type} (k : Nat) : HdsOk Try.prog (F_aqueductref08_in.cal (T := T) k) := F_aqueductref08_in.cal0_ok k
noncomputable def F_aqueductref08_in.S (k : Nat) (a0 : Int) (a1 : Int) : O Bool :=
  O.cond (decide (a0 ≥ (0 : Int))) (
   .ok (decide (a0 ≤ a1))) (
   .ok false)
theorem F_aqueductref08_in.eq (k : Nat) (a0 : Int) (a1 : Int) : evFn (T := Bool) tab (calOf (F_aqueductref08_in.cal k)) Go.Proofs.Try.f56 F_aqueductref08_in.nt k [.int .i64 a0, .int .i64 a1] [] ⟨0, false, []⟩ (fun v st => takeR F_aqueductref08_in.rt v st.H .ok) panK = F_aqueductref08_in.S k a0 a1 := by kernel_rfl
theorem F_aqueductref08_in.ok (k : Nat) : FnOk Try.prog 56 F_aqueductref08_in.as F_aqueductref08_in.rt (fun (x : Int × Int) => F_aqueductref08_in.S k x.1 x.2) :=
  FnOk.of_ev tab_ok (calOf_ok (F_aqueductref08_in.cal_ok k)) mixed Try.func56 F_aqueductref08_in.nt k (fun _ => rfl) (fun (x : Int × Int) => F_aqueductref08_in.eq k x.1 x.2)
theorem F_aqueductref08_in.hd {T : Type} (k : Nat) : HdOk Try.prog 56 (pureN (T := T) F_aqueductref08_in.as F_aqueductref08_in.rt (fun (x : Int × Int) => F_aqueductref08_in.S k x.1 x.2)) :=
  pureN_ok rfl rfl (F_aqueductref08_in.ok k) Try.call56
/-! ### aqueduct/aqueductref01.Put: function 74 -/
noncomputable def F_aqueductref01_Put.as : As := .some (.cons (.leaf (.int .u64)) (.cons (.leaf (.int .i64)) (.one (.leaf .bool))))
noncomputable def F_aqueductref01_Put.rt : Rt := .tup (.cons (.leaf .str) (.one (.leaf (.int .i64))))
noncomputable def F_aqueductref01_Put.nt : Notes := ⟨[(5, [0, 1, 2, 8, 9, 10])], [], [], [], []⟩
noncomputable def F_aqueductref01_Put.cal0 {T : Type} (k : Nat) : List (FuncId × Hd T) := []
theorem F_aqueductref01_Put.cal0_ok {T : Type} (k : Nat) : HdsOk Try.prog (F_aqueductref01_Put.cal0 (T := T) k) := trivial
noncomputable def F_aqueductref01_Put.cal {T : Type} (k : Nat) : List (FuncId × Hd T) := F_aqueductref01_Put.cal0 k
theorem F_aqueductref01_Put.cal_ok {T : Type} (k : Nat) : HdsOk Try.prog (F_aqueductref01_Put.cal (T := T) k) := F_aqueductref01_Put.cal0_ok k
noncomputable def F_aqueductref01_Put.l0_b (k : Nat) (a1 : Int) (a2 : Bool) (R_l0 : Int → ByteArray → ByteArray → Int → O (ByteArray × Int)) (v1 : Int) (v2 : ByteArray) (v3 : ByteArray) (v4 : Int) : O (ByteArray × Int) :=
  O.cond (decide (v4 < a1)) (
   O.chk (decide (((ByteArray.size v2 + ByteArray.size (strOf [(IntKind.u8.wrap (Int.tmod v1 (256 : Int)))]) : Nat) : Int) ≤ 9223372036854775807)) (
    O.chk (decide (((ByteArray.size (strOf [(IntKind.u8.wrap (Int.tmod v1 (256 : Int)))]) + ByteArray.size v3 : Nat) : Int) ≤ 9223372036854775807)) (
     R_l0 (IntKind.u64.wrap (Int.tdiv v1 (256 : Int))) (v2 ++ (strOf [(IntKind.u8.wrap (Int.tmod v1 (256 : Int)))])) ((strOf [(IntKind.u8.wrap (Int.tmod v1 (256 : Int)))]) ++ v3) (IntKind.i64.wrap (v4 + (1 : Int)))))) (
   O.cond (decide (v1 > (0 : Int))) (
    .ok ((⟨#[]⟩ : ByteArray), (1 : Int))) (
    O.cond a2 (
     .ok (v3, (0 : Int))) (
     .ok (v2, (0 : Int)))))
noncomputable def F_aqueductref01_Put.l0 (k : Nat) (a1 : Int) (a2 : Bool) : Nat → Int → ByteArray → ByteArray → Int → O (ByteArray × Int)
  | 0, _, _, _, _ => .no
  | j + 1, v1, v2, v3, v4 => F_aqueductref01_Put.l0_b k a1 a2 (F_aqueductref01_Put.l0 k a1 a2 j) v1 v2 v3 v4
theorem F_aqueductref01_Put.l0_eq (k : Nat) (a1 : Int) (a2 : Bool) : ∀ (j : Nat) (v1 : Int) (v2 : ByteArray) (v3 : ByteArray) (v4 : Int), loopAt (T := ByteArray × Int) tab (calOf (F_aqueductref01_Put.cal k)) Go.Proofs.Try.f74.ntmps F_aqueductref01_Put.nt k [] [.r, .r, .r, .l, .r, .b] (bodyOf Go.Proofs.Try.f74) (finK tab Go.Proofs.Try.f74.results.toList (fun v st => takeR F_aqueductref01_Put.rt v st.H .ok) panK) j ⟨[(0, .int .u64 v1), (1, .int .i64 a1), (2, .bool a2), (8, .str v2), (9, .str v3), (10, .int .i64 v4)], [], 0, []⟩ ⟨0, true, []⟩ = F_aqueductref01_Put.l0 k a1 a2 j v1 v2 v3 v4 := by
  intro j
  induction j with
  | zero => intro v1 v2 v3 v4; rfl
  | succ j ih =>
    intro v1 v2 v3 v4
    have rs : (fun (v1' : Int) (v2' : ByteArray) (v3' : ByteArray) (v4' : Int) => loopAt (T := ByteArray × Int) tab (calOf (F_aqueductref01_Put.cal k)) Go.Proofs.Try.f74.ntmps F_aqueductref01_Put.nt k [] [.r, .r, .r, .l, .r, .b] (bodyOf Go.Proofs.Try.f74) (finK tab Go.Proofs.Try.f74.results.toList (fun v st => takeR F_aqueductref01_Put.rt v st.H .ok) panK) j ⟨[(0, .int .u64 v1'), (1, .int .i64 a1), (2, .bool a2), (8, .str v2'), (9, .str v3'), (10, .int .i64 v4')], [], 0, []⟩ ⟨0, true, []⟩) = F_aqueductref01_Put.l0 k a1 a2 j := by funext v1' v2' v3' v4'; exact ih v1' v2' v3' v4'
    have h : loopAt (T := ByteArray × Int) tab (calOf (F_aqueductref01_Put.cal k)) Go.Proofs.Try.f74.ntmps F_aqueductref01_Put.nt k [] [.r, .r, .r, .l, .r, .b] (bodyOf Go.Proofs.Try.f74) (finK tab Go.Proofs.Try.f74.results.toList (fun v st => takeR F_aqueductref01_Put.rt v st.H .ok) panK) (j + 1) ⟨[(0, .int .u64 v1), (1, .int .i64 a1), (2, .bool a2), (8, .str v2), (9, .str v3), (10, .int .i64 v4)], [], 0, []⟩ ⟨0, true, []⟩ = F_aqueductref01_Put.l0_b k a1 a2 ((fun (v1' : Int) (v2' : ByteArray) (v3' : ByteArray) (v4' : Int) => loopAt (T := ByteArray × Int) tab (calOf (F_aqueductref01_Put.cal k)) Go.Proofs.Try.f74.ntmps F_aqueductref01_Put.nt k [] [.r, .r, .r, .l, .r, .b] (bodyOf Go.Proofs.Try.f74) (finK tab Go.Proofs.Try.f74.results.toList (fun v st => takeR F_aqueductref01_Put.rt v st.H .ok) panK) j ⟨[(0, .int .u64 v1'), (1, .int .i64 a1), (2, .bool a2), (8, .str v2'), (9, .str v3'), (10, .int .i64 v4')], [], 0, []⟩ ⟨0, true, []⟩)) v1 v2 v3 v4 := by kernel_rfl
    exact h.trans (by rw [rs]; rfl)
noncomputable def F_aqueductref01_Put.top (k : Nat) (a0 : Int) (a1 : Int) (a2 : Bool) (D_l0 : Int → ByteArray → ByteArray → Int → O (ByteArray × Int)) : O (ByteArray × Int) :=
  O.cond (decide (a1 < (1 : Int))) (
   .ok ((⟨#[]⟩ : ByteArray), (1 : Int))) (
   O.cond (decide (a1 > (8 : Int))) (
    .ok ((⟨#[]⟩ : ByteArray), (1 : Int))) (
    D_l0 a0 (⟨#[]⟩ : ByteArray) (⟨#[]⟩ : ByteArray) (0 : Int)))
noncomputable def F_aqueductref01_Put.S (k : Nat) (a0 : Int) (a1 : Int) (a2 : Bool) : O (ByteArray × Int) := F_aqueductref01_Put.top k a0 a1 a2 ((fun (v1 : Int) (v2 : ByteArray) (v3 : ByteArray) (v4 : Int) => F_aqueductref01_Put.l0 k a1 a2 k v1 v2 v3 v4))
theorem F_aqueductref01_Put.eq (k : Nat) (a0 : Int) (a1 : Int) (a2 : Bool) : evFn (T := ByteArray × Int) tab (calOf (F_aqueductref01_Put.cal k)) Go.Proofs.Try.f74 F_aqueductref01_Put.nt k [.int .u64 a0, .int .i64 a1, .bool a2] [] ⟨0, false, []⟩ (fun v st => takeR F_aqueductref01_Put.rt v st.H .ok) panK = F_aqueductref01_Put.S k a0 a1 a2 := by
  have e0 : (fun (v1 : Int) (v2 : ByteArray) (v3 : ByteArray) (v4 : Int) => loopAt (T := ByteArray × Int) tab (calOf (F_aqueductref01_Put.cal k)) Go.Proofs.Try.f74.ntmps F_aqueductref01_Put.nt k [] [.r, .r, .r, .l, .r, .b] (bodyOf Go.Proofs.Try.f74) (finK tab Go.Proofs.Try.f74.results.toList (fun v st => takeR F_aqueductref01_Put.rt v st.H .ok) panK) k ⟨[(0, .int .u64 v1), (1, .int .i64 a1), (2, .bool a2), (8, .str v2), (9, .str v3), (10, .int .i64 v4)], [], 0, []⟩ ⟨0, true, []⟩) = (fun (v1 : Int) (v2 : ByteArray) (v3 : ByteArray) (v4 : Int) => F_aqueductref01_Put.l0 k a1 a2 k v1 v2 v3 v4) := by funext v1 v2 v3 v4; exact F_aqueductref01_Put.l0_eq k a1 a2 k v1 v2 v3 v4
  have h : evFn (T := ByteArray × Int) tab (calOf (F_aqueductref01_Put.cal k)) Go.Proofs.Try.f74 F_aqueductref01_Put.nt k [.int .u64 a0, .int .i64 a1, .bool a2] [] ⟨0, false, []⟩ (fun v st => takeR F_aqueductref01_Put.rt v st.H .ok) panK = F_aqueductref01_Put.top k a0 a1 a2 ((fun (v1 : Int) (v2 : ByteArray) (v3 : ByteArray) (v4 : Int) => loopAt (T := ByteArray × Int) tab (calOf (F_aqueductref01_Put.cal k)) Go.Proofs.Try.f74.ntmps F_aqueductref01_Put.nt k [] [.r, .r, .r, .l, .r, .b] (bodyOf Go.Proofs.Try.f74) (finK tab Go.Proofs.Try.f74.results.toList (fun v st => takeR F_aqueductref01_Put.rt v st.H .ok) panK) k ⟨[(0, .int .u64 v1), (1, .int .i64 a1), (2, .bool a2), (8, .str v2), (9, .str v3), (10, .int .i64 v4)], [], 0, []⟩ ⟨0, true, []⟩)) := by kernel_rfl
  exact h.trans (by rw [e0]; rfl)
theorem F_aqueductref01_Put.ok (k : Nat) : FnOk Try.prog 74 F_aqueductref01_Put.as F_aqueductref01_Put.rt (fun (x : Int × Int × Bool) => F_aqueductref01_Put.S k x.1 x.2.1 x.2.2) :=
  FnOk.of_ev tab_ok (calOf_ok (F_aqueductref01_Put.cal_ok k)) mixed Try.func74 F_aqueductref01_Put.nt k (fun _ => rfl) (fun (x : Int × Int × Bool) => F_aqueductref01_Put.eq k x.1 x.2.1 x.2.2)
theorem F_aqueductref01_Put.hd {T : Type} (k : Nat) : HdOk Try.prog 74 (pureN (T := T) F_aqueductref01_Put.as F_aqueductref01_Put.rt (fun (x : Int × Int × Bool) => F_aqueductref01_Put.S k x.1 x.2.1 x.2.2)) :=
  pureN_ok rfl rfl (F_aqueductref01_Put.ok k) Try.call74
/-! ### aqueduct/aqueductref08.put: function 82 -/
noncomputable def F_aqueductref08_put.as : As := .some (.cons (.leaf (.int .i64)) (.one (.leaf (.int .i64))))
noncomputable def F_aqueductref08_put.rt : Rt := .val (.leaf .str)
noncomputable def F_aqueductref08_put.nt : Notes := ⟨[], [], [], [], []⟩
noncomputable def F_aqueductref08_put.cal0 {T : Type} (k : Nat) : List (FuncId × Hd T) := [(74, pureN F_aqueductref01_Put.as F_aqueductref01_Put.rt (fun (x : Int × Int × Bool) => F_aqueductref01_Put.S k x.1 x.2.1 x.2.2))]
theorem F_aqueductref08_put.cal0_ok {T : Type} (k : Nat) : HdsOk Try.prog (F_aqueductref08_put.cal0 (T := T) k) := ⟨F_aqueductref01_Put.hd k, trivial⟩
noncomputable def F_aqueductref08_put.cal {T : Type} (k : Nat) : List (FuncId × Hd T) := F_aqueductref08_put.cal0 k
theorem F_aqueductref08_put.cal_ok {T : Type} (k : Nat) : HdsOk Try.prog (F_aqueductref08_put.cal (T := T) k) := F_aqueductref08_put.cal0_ok k
noncomputable def F_aqueductref08_put.S (k : Nat) (a0 : Int) (a1 : Int) : O ByteArray :=
  O.bind (F_aqueductref01_Put.S k (IntKind.u64.wrap a0) a1 true) fun r1 =>
  .ok r1.1
theorem F_aqueductref08_put.eq (k : Nat) (a0 : Int) (a1 : Int) : evFn (T := ByteArray) tab (calOf (F_aqueductref08_put.cal k)) Go.Proofs.Try.f82 F_aqueductref08_put.nt k [.int .i64 a0, .int .i64 a1] [] ⟨0, false, []⟩ (fun v st => takeR F_aqueductref08_put.rt v st.H .ok) panK = F_aqueductref08_put.S k a0 a1 := by kernel_rfl
theorem F_aqueductref08_put.ok (k : Nat) : FnOk Try.prog 82 F_aqueductref08_put.as F_aqueductref08_put.rt (fun (x : Int × Int) => F_aqueductref08_put.S k x.1 x.2) :=
  FnOk.of_ev tab_ok (calOf_ok (F_aqueductref08_put.cal_ok k)) mixed Try.func82 F_aqueductref08_put.nt k (fun _ => rfl) (fun (x : Int × Int) => F_aqueductref08_put.eq k x.1 x.2)
theorem F_aqueductref08_put.hd {T : Type} (k : Nat) : HdOk Try.prog 82 (pureN (T := T) F_aqueductref08_put.as F_aqueductref08_put.rt (fun (x : Int × Int) => F_aqueductref08_put.S k x.1 x.2)) :=
  pureN_ok rfl rfl (F_aqueductref08_put.ok k) Try.call82
/-! ### aqueduct/aqueductref08.set: function 57 -/
noncomputable def F_aqueductref08_set.as : As := .some (.cons (.leaf .str) (.cons (.leaf (.int .i64)) (.one (.leaf (.int .u16)))))
noncomputable def F_aqueductref08_set.rt : Rt := .val (.leaf .str)
noncomputable def F_aqueductref08_set.nt : Notes := ⟨[], [], [(1, [0, 1, 2, 3, 4, 7, 8, 9, 10, 5, 6, 11, 12])], [], []⟩
noncomputable def F_aqueductref08_set.cal0 {T : Type} (k : Nat) : List (FuncId × Hd T) := [(82, pureN F_aqueductref08_put.as F_aqueductref08_put.rt (fun (x : Int × Int) => F_aqueductref08_put.S k x.1 x.2))]
theorem F_aqueductref08_set.cal0_ok {T : Type} (k : Nat) : HdsOk Try.prog (F_aqueductref08_set.cal0 (T := T) k) := ⟨F_aqueductref08_put.hd k, trivial⟩
noncomputable def F_aqueductref08_set.cal {T : Type} (k : Nat) : List (FuncId × Hd T) := F_aqueductref08_set.cal0 k
theorem F_aqueductref08_set.cal_ok {T : Type} (k : Nat) : HdsOk Try.prog (F_aqueductref08_set.cal (T := T) k) := F_aqueductref08_set.cal0_ok k
noncomputable def F_aqueductref08_set.S (k : Nat) (a0 : ByteArray) (a1 : Int) (a2 : Int) : O ByteArray :=
  O.chk (decide (0 ≤ a1 ∧ a1 ≤ (ByteArray.size a0 : Int))) (
   O.chk (decide (0 ≤ (IntKind.i64.wrap (a1 + (2 : Int))) ∧ (IntKind.i64.wrap (a1 + (2 : Int))) ≤ (ByteArray.size a0 : Int))) (
    O.bind (F_aqueductref08_put.S k (IntKind.i64.wrap a2) (2 : Int)) fun r1 =>
    O.chk (decide (((ByteArray.size (ByteArray.extract a0 0 a1.toNat) + ByteArray.size r1 : Nat) : Int) ≤ 9223372036854775807)) (
     O.chk (decide (((ByteArray.size ((ByteArray.extract a0 0 a1.toNat) ++ r1) + ByteArray.size (ByteArray.extract a0 (IntKind.i64.wrap (a1 + (2 : Int))).toNat (ByteArray.size a0)) : Nat) : Int) ≤ 9223372036854775807)) (
      .ok (((ByteArray.extract a0 0 a1.toNat) ++ r1) ++ (ByteArray.extract a0 (IntKind.i64.wrap (a1 + (2 : Int))).toNat (ByteArray.size a0)))))))
theorem F_aqueductref08_set.eq (k : Nat) (a0 : ByteArray) (a1 : Int) (a2 : Int) : evFn (T := ByteArray) tab (calOf (F_aqueductref08_set.cal k)) Go.Proofs.Try.f57 F_aqueductref08_set.nt k [.str a0, .int .i64 a1, .int .u16 a2] [] ⟨0, false, []⟩ (fun v st => takeR F_aqueductref08_set.rt v st.H .ok) panK = F_aqueductref08_set.S k a0 a1 a2 := by kernel_rfl
theorem F_aqueductref08_set.ok (k : Nat) : FnOk Try.prog 57 F_aqueductref08_set.as F_aqueductref08_set.rt (fun (x : ByteArray × Int × Int) => F_aqueductref08_set.S k x.1 x.2.1 x.2.2) :=
  FnOk.of_ev tab_ok (calOf_ok (F_aqueductref08_set.cal_ok k)) mixed Try.func57 F_aqueductref08_set.nt k (fun _ => rfl) (fun (x : ByteArray × Int × Int) => F_aqueductref08_set.eq k x.1 x.2.1 x.2.2)
theorem F_aqueductref08_set.hd {T : Type} (k : Nat) : HdOk Try.prog 57 (pureN (T := T) F_aqueductref08_set.as F_aqueductref08_set.rt (fun (x : ByteArray × Int × Int) => F_aqueductref08_set.S k x.1 x.2.1 x.2.2)) :=
  pureN_ok rfl rfl (F_aqueductref08_set.ok k) Try.call57
/-! ### aqueduct/aqueductref08.full: function 58 -/
noncomputable def F_aqueductref08_full.as : As := .some (.one (.leaf (.int .u16)))
noncomputable def F_aqueductref08_full.rt : Rt := .val (.leaf (.int .u16))
noncomputable def F_aqueductref08_full.nt : Notes := ⟨[], [], [], [], []⟩
noncomputable def F_aqueductref08_full.cal0 {T : Type} (k : Nat) : List (FuncId × Hd T) := []
theorem F_aqueductref08_full.cal0_ok {T : Type} (k : Nat) : HdsOk Try.prog (F_aqueductref08_full.cal0 (T := T) k) := trivial
noncomputable def F_aqueductref08_full.cal {T : Type} (k : Nat) : List (FuncId × Hd T) := F_aqueductref08_full.cal0 k
theorem F_aqueductref08_full.cal_ok {T : Type} (k : Nat) : HdsOk Try.prog (F_aqueductref08_full.cal (T := T) k) := F_aqueductref08_full.cal0_ok k
noncomputable def F_aqueductref08_full.S (k : Nat) (a0 : Int) : O Int :=
  O.cond (decide (a0 = (0 : Int))) (
   .ok (65535 : Int)) (
   .ok a0)
theorem F_aqueductref08_full.eq (k : Nat) (a0 : Int) : evFn (T := Int) tab (calOf (F_aqueductref08_full.cal k)) Go.Proofs.Try.f58 F_aqueductref08_full.nt k [.int .u16 a0] [] ⟨0, false, []⟩ (fun v st => takeR F_aqueductref08_full.rt v st.H .ok) panK = F_aqueductref08_full.S k a0 := by kernel_rfl
theorem F_aqueductref08_full.ok (k : Nat) : FnOk Try.prog 58 F_aqueductref08_full.as F_aqueductref08_full.rt (fun (x : Int) => F_aqueductref08_full.S k x) :=
  FnOk.of_ev tab_ok (calOf_ok (F_aqueductref08_full.cal_ok k)) mixed Try.func58 F_aqueductref08_full.nt k (fun _ => rfl) (fun (x : Int) => F_aqueductref08_full.eq k x)
theorem F_aqueductref08_full.hd {T : Type} (k : Nat) : HdOk Try.prog 58 (pureN (T := T) F_aqueductref08_full.as F_aqueductref08_full.rt (fun (x : Int) => F_aqueductref08_full.S k x)) :=
  pureN_ok rfl rfl (F_aqueductref08_full.ok k) Try.call58
/-! ### aqueduct/aqueductref02.Ones: function 75 -/
noncomputable def F_aqueductref02_Ones.as : As := .some (.cons (.leaf (.int .i64)) (.one (.leaf (.int .i64))))
noncomputable def F_aqueductref02_Ones.rt : Rt := .val (.leaf (.int .i64))
noncomputable def F_aqueductref02_Ones.nt : Notes := ⟨[], [], [], [], []⟩
noncomputable def F_aqueductref02_Ones.cal0 {T : Type} (k : Nat) : List (FuncId × Hd T) := []
theorem F_aqueductref02_Ones.cal0_ok {T : Type} (k : Nat) : HdsOk Try.prog (F_aqueductref02_Ones.cal0 (T := T) k) := trivial
noncomputable def F_aqueductref02_Ones.cal {T : Type} (k : Nat) : List (FuncId × Hd T) := F_aqueductref02_Ones.cal0 k
theorem F_aqueductref02_Ones.cal_ok {T : Type} (k : Nat) : HdsOk Try.prog (F_aqueductref02_Ones.cal (T := T) k) := F_aqueductref02_Ones.cal0_ok k
noncomputable def F_aqueductref02_Ones.S (k : Nat) (a0 : Int) (a1 : Int) : O Int :=
  O.cond (decide ((IntKind.i64.wrap (a0 + a1)) ≥ (65536 : Int))) (
   .ok (IntKind.i64.wrap ((IntKind.i64.wrap ((IntKind.i64.wrap (a0 + a1)) - (65536 : Int))) + (1 : Int)))) (
   .ok (IntKind.i64.wrap (a0 + a1)))
theorem F_aqueductref02_Ones.eq (k : Nat) (a0 : Int) (a1 : Int) : evFn (T := Int) tab (calOf (F_aqueductref02_Ones.cal k)) Go.Proofs.Try.f75 F_aqueductref02_Ones.nt k [.int .i64 a0, .int .i64 a1] [] ⟨0, false, []⟩ (fun v st => takeR F_aqueductref02_Ones.rt v st.H .ok) panK = F_aqueductref02_Ones.S k a0 a1 := by kernel_rfl
theorem F_aqueductref02_Ones.ok (k : Nat) : FnOk Try.prog 75 F_aqueductref02_Ones.as F_aqueductref02_Ones.rt (fun (x : Int × Int) => F_aqueductref02_Ones.S k x.1 x.2) :=
  FnOk.of_ev tab_ok (calOf_ok (F_aqueductref02_Ones.cal_ok k)) mixed Try.func75 F_aqueductref02_Ones.nt k (fun _ => rfl) (fun (x : Int × Int) => F_aqueductref02_Ones.eq k x.1 x.2)
theorem F_aqueductref02_Ones.hd {T : Type} (k : Nat) : HdOk Try.prog 75 (pureN (T := T) F_aqueductref02_Ones.as F_aqueductref02_Ones.rt (fun (x : Int × Int) => F_aqueductref02_Ones.S k x.1 x.2)) :=
  pureN_ok rfl rfl (F_aqueductref02_Ones.ok k) Try.call75
/-! ### aqueduct/aqueductref02.On: function 38 -/
noncomputable def F_aqueductref02_On.as : As := .some (.cons (.leaf (.int .u16)) (.one (.leaf .str)))
noncomputable def F_aqueductref02_On.rt : Rt := .val (.leaf (.int .u16))
noncomputable def F_aqueductref02_On.nt : Notes := ⟨[(3, [1, 5, 6])], [], [], [], []⟩
noncomputable def F_aqueductref02_On.cal0 {T : Type} (k : Nat) : List (FuncId × Hd T) := [(75, pureN F_aqueductref02_Ones.as F_aqueductref02_Ones.rt (fun (x : Int × Int) => F_aqueductref02_Ones.S k x.1 x.2))]
theorem F_aqueductref02_On.cal0_ok {T : Type} (k : Nat) : HdsOk Try.prog (F_aqueductref02_On.cal0 (T := T) k) := ⟨F_aqueductref02_Ones.hd k, trivial⟩
noncomputable def F_aqueductref02_On.cal {T : Type} (k : Nat) : List (FuncId × Hd T) := F_aqueductref02_On.cal0 k
theorem F_aqueductref02_On.cal_ok {T : Type} (k : Nat) : HdsOk Try.prog (F_aqueductref02_On.cal (T := T) k) := F_aqueductref02_On.cal0_ok k
noncomputable def F_aqueductref02_On.l0_b (k : Nat) (a1 : ByteArray) (R_l0 : Int → Int → O Int) (v5 : Int) (v6 : Int) : O Int :=
  O.cond (decide (v6 < (ByteArray.size a1 : Int))) (
   O.chk (decide (0 ≤ v6 ∧ v6 < (ByteArray.size a1 : Int))) (
    O.cond (decide ((IntKind.i64.wrap (v6 + (1 : Int))) < (ByteArray.size a1 : Int))) (
     O.chk (decide (0 ≤ (IntKind.i64.wrap (v6 + (1 : Int))) ∧ (IntKind.i64.wrap (v6 + (1 : Int))) < (ByteArray.size a1 : Int))) (
      O.bind (F_aqueductref02_Ones.S k v5 (IntKind.i64.wrap ((IntKind.i64.wrap ((IntKind.i64.wrap (bt a1 v6)) * (256 : Int))) + (IntKind.i64.wrap (bt a1 (IntKind.i64.wrap (v6 + (1 : Int)))))))) fun r11 =>
      R_l0 r11 (IntKind.i64.wrap (v6 + (2 : Int))))) (
     O.bind (F_aqueductref02_Ones.S k v5 (IntKind.i64.wrap ((IntKind.i64.wrap (bt a1 v6)) * (256 : Int)))) fun r13 =>
     R_l0 r13 (IntKind.i64.wrap (v6 + (2 : Int)))))) (
   .ok (IntKind.u16.wrap v5))
noncomputable def F_aqueductref02_On.l0 (k : Nat) (a1 : ByteArray) : Nat → Int → Int → O Int
  | 0, _, _ => .no
  | j + 1, v5, v6 => F_aqueductref02_On.l0_b k a1 (F_aqueductref02_On.l0 k a1 j) v5 v6
theorem F_aqueductref02_On.l0_eq (k : Nat) (a1 : ByteArray) : ∀ (j : Nat) (v5 : Int) (v6 : Int), loopAt (T := Int) tab (calOf (F_aqueductref02_On.cal k)) Go.Proofs.Try.f38.ntmps F_aqueductref02_On.nt k [] [.r, .r, .l, .r, .b] (bodyOf Go.Proofs.Try.f38) (finK tab Go.Proofs.Try.f38.results.toList (fun v st => takeR F_aqueductref02_On.rt v st.H .ok) panK) j ⟨[(1, .str a1), (5, .int .i64 v5), (6, .int .i64 v6)], [], 0, []⟩ ⟨0, true, []⟩ = F_aqueductref02_On.l0 k a1 j v5 v6 := by
  intro j
  induction j with
  | zero => intro v5 v6; rfl
  | succ j ih =>
    intro v5 v6
    have rs : (fun (v5' : Int) (v6' : Int) => loopAt (T := Int) tab (calOf (F_aqueductref02_On.cal k)) Go.Proofs.Try.f38.ntmps F_aqueductref02_On.nt k [] [.r, .r, .l, .r, .b] (bodyOf Go.Proofs.Try.f38) (finK tab Go.Proofs.Try.f38.results.toList (fun v st => takeR F_aqueductref02_On.rt v st.H .ok) panK) j ⟨[(1, .str a1), (5, .int .i64 v5'), (6, .int .i64 v6')], [], 0, []⟩ ⟨0, true, []⟩) = F_aqueductref02_On.l0 k a1 j := by funext v5' v6'; exact ih v5' v6'
    have h : loopAt (T := Int) tab (calOf (F_aqueductref02_On.cal k)) Go.Proofs.Try.f38.ntmps F_aqueductref02_On.nt k [] [.r, .r, .l, .r, .b] (bodyOf Go.Proofs.Try.f38) (finK tab Go.Proofs.Try.f38.results.toList (fun v st => takeR F_aqueductref02_On.rt v st.H .ok) panK) (j + 1) ⟨[(1, .str a1), (5, .int .i64 v5), (6, .int .i64 v6)], [], 0, []⟩ ⟨0, true, []⟩ = F_aqueductref02_On.l0_b k a1 ((fun (v5' : Int) (v6' : Int) => loopAt (T := Int) tab (calOf (F_aqueductref02_On.cal k)) Go.Proofs.Try.f38.ntmps F_aqueductref02_On.nt k [] [.r, .r, .l, .r, .b] (bodyOf Go.Proofs.Try.f38) (finK tab Go.Proofs.Try.f38.results.toList (fun v st => takeR F_aqueductref02_On.rt v st.H .ok) panK) j ⟨[(1, .str a1), (5, .int .i64 v5'), (6, .int .i64 v6')], [], 0, []⟩ ⟨0, true, []⟩)) v5 v6 := by kernel_rfl
    exact h.trans (by rw [rs]; rfl)
noncomputable def F_aqueductref02_On.top (k : Nat) (a0 : Int) (a1 : ByteArray) (D_l0 : Int → Int → O Int) : O Int :=
  D_l0 (IntKind.i64.wrap a0) (0 : Int)
noncomputable def F_aqueductref02_On.S (k : Nat) (a0 : Int) (a1 : ByteArray) : O Int := F_aqueductref02_On.top k a0 a1 ((fun (v5 : Int) (v6 : Int) => F_aqueductref02_On.l0 k a1 k v5 v6))
theorem F_aqueductref02_On.eq (k : Nat) (a0 : Int) (a1 : ByteArray) : evFn (T := Int) tab (calOf (F_aqueductref02_On.cal k)) Go.Proofs.Try.f38 F_aqueductref02_On.nt k [.int .u16 a0, .str a1] [] ⟨0, false, []⟩ (fun v st => takeR F_aqueductref02_On.rt v st.H .ok) panK = F_aqueductref02_On.S k a0 a1 := by
  have e0 : (fun (v5 : Int) (v6 : Int) => loopAt (T := Int) tab (calOf (F_aqueductref02_On.cal k)) Go.Proofs.Try.f38.ntmps F_aqueductref02_On.nt k [] [.r, .r, .l, .r, .b] (bodyOf Go.Proofs.Try.f38) (finK tab Go.Proofs.Try.f38.results.toList (fun v st => takeR F_aqueductref02_On.rt v st.H .ok) panK) k ⟨[(1, .str a1), (5, .int .i64 v5), (6, .int .i64 v6)], [], 0, []⟩ ⟨0, true, []⟩) = (fun (v5 : Int) (v6 : Int) => F_aqueductref02_On.l0 k a1 k v5 v6) := by funext v5 v6; exact F_aqueductref02_On.l0_eq k a1 k v5 v6
  have h : evFn (T := Int) tab (calOf (F_aqueductref02_On.cal k)) Go.Proofs.Try.f38 F_aqueductref02_On.nt k [.int .u16 a0, .str a1] [] ⟨0, false, []⟩ (fun v st => takeR F_aqueductref02_On.rt v st.H .ok) panK = F_aqueductref02_On.top k a0 a1 ((fun (v5 : Int) (v6 : Int) => loopAt (T := Int) tab (calOf (F_aqueductref02_On.cal k)) Go.Proofs.Try.f38.ntmps F_aqueductref02_On.nt k [] [.r, .r, .l, .r, .b] (bodyOf Go.Proofs.Try.f38) (finK tab Go.Proofs.Try.f38.results.toList (fun v st => takeR F_aqueductref02_On.rt v st.H .ok) panK) k ⟨[(1, .str a1), (5, .int .i64 v5), (6, .int .i64 v6)], [], 0, []⟩ ⟨0, true, []⟩)) := by kernel_rfl
  exact h.trans (by rw [e0]; rfl)
theorem F_aqueductref02_On.ok (k : Nat) : FnOk Try.prog 38 F_aqueductref02_On.as F_aqueductref02_On.rt (fun (x : Int × ByteArray) => F_aqueductref02_On.S k x.1 x.2) :=
  FnOk.of_ev tab_ok (calOf_ok (F_aqueductref02_On.cal_ok k)) mixed Try.func38 F_aqueductref02_On.nt k (fun _ => rfl) (fun (x : Int × ByteArray) => F_aqueductref02_On.eq k x.1 x.2)
theorem F_aqueductref02_On.hd {T : Type} (k : Nat) : HdOk Try.prog 38 (pureN (T := T) F_aqueductref02_On.as F_aqueductref02_On.rt (fun (x : Int × ByteArray) => F_aqueductref02_On.S k x.1 x.2)) :=
  pureN_ok rfl rfl (F_aqueductref02_On.ok k) Try.call38
/-! ### aqueduct/aqueductref02.Sum: function 59 -/
noncomputable def F_aqueductref02_Sum.as : As := .some (.one (.leaf .str))
noncomputable def F_aqueductref02_Sum.rt : Rt := .val (.leaf (.int .u16))
noncomputable def F_aqueductref02_Sum.nt : Notes := ⟨[], [], [], [], []⟩
noncomputable def F_aqueductref02_Sum.cal0 {T : Type} (k : Nat) : List (FuncId × Hd T) := [(38, pureN F_aqueductref02_On.as F_aqueductref02_On.rt (fun (x : Int × ByteArray) => F_aqueductref02_On.S k x.1 x.2))]
theorem F_aqueductref02_Sum.cal0_ok {T : Type} (k : Nat) : HdsOk Try.prog (F_aqueductref02_Sum.cal0 (T := T) k) := ⟨F_aqueductref02_On.hd k, trivial⟩
noncomputable def F_aqueductref02_Sum.cal {T : Type} (k : Nat) : List (FuncId × Hd T) := F_aqueductref02_Sum.cal0 k
theorem F_aqueductref02_Sum.cal_ok {T : Type} (k : Nat) : HdsOk Try.prog (F_aqueductref02_Sum.cal (T := T) k) := F_aqueductref02_Sum.cal0_ok k
noncomputable def F_aqueductref02_Sum.S (k : Nat) (a0 : ByteArray) : O Int :=
  O.bind (F_aqueductref02_On.S k (0 : Int) a0) fun r1 =>
  .ok (IntKind.u16.wrap (IntKind.i64.wrap ((65535 : Int) - (IntKind.i64.wrap r1))))
theorem F_aqueductref02_Sum.eq (k : Nat) (a0 : ByteArray) : evFn (T := Int) tab (calOf (F_aqueductref02_Sum.cal k)) Go.Proofs.Try.f59 F_aqueductref02_Sum.nt k [.str a0] [] ⟨0, false, []⟩ (fun v st => takeR F_aqueductref02_Sum.rt v st.H .ok) panK = F_aqueductref02_Sum.S k a0 := by kernel_rfl
theorem F_aqueductref02_Sum.ok (k : Nat) : FnOk Try.prog 59 F_aqueductref02_Sum.as F_aqueductref02_Sum.rt (fun (x : ByteArray) => F_aqueductref02_Sum.S k x) :=
  FnOk.of_ev tab_ok (calOf_ok (F_aqueductref02_Sum.cal_ok k)) mixed Try.func59 F_aqueductref02_Sum.nt k (fun _ => rfl) (fun (x : ByteArray) => F_aqueductref02_Sum.eq k x)
theorem F_aqueductref02_Sum.hd {T : Type} (k : Nat) : HdOk Try.prog 59 (pureN (T := T) F_aqueductref02_Sum.as F_aqueductref02_Sum.rt (fun (x : ByteArray) => F_aqueductref02_Sum.S k x)) :=
  pureN_ok rfl rfl (F_aqueductref02_Sum.ok k) Try.call59
/-! ### aqueduct/aqueductref08.Complete: function 28 -/
noncomputable def F_aqueductref08_Complete.as : As := .some (.cons (.leaf .str) (.cons (.leaf (.int .i64)) (.one (.leaf (.int .i64)))))
noncomputable def F_aqueductref08_Complete.rt : Rt := .tup (.cons (.leaf .str) (.one (.leaf (.int .i64))))
noncomputable def F_aqueductref08_Complete.nt : Notes := ⟨[], [], [], [], []⟩
noncomputable def F_aqueductref08_Complete.cal0 {T : Type} (k : Nat) : List (FuncId × Hd T) := [(56, pureN F_aqueductref08_in.as F_aqueductref08_in.rt (fun (x : Int × Int) => F_aqueductref08_in.S k x.1 x.2)), (57, pureN F_aqueductref08_set.as F_aqueductref08_set.rt (fun (x : ByteArray × Int × Int) => F_aqueductref08_set.S k x.1 x.2.1 x.2.2)), (58, pureN F_aqueductref08_full.as F_aqueductref08_full.rt (fun (x : Int) => F_aqueductref08_full.S k x)), (59, pureN F_aqueductref02_Sum.as F_aqueductref02_Sum.rt (fun (x : ByteArray) => F_aqueductref02_Sum.S k x))]
theorem F_aqueductref08_Complete.cal0_ok {T : Type} (k : Nat) : HdsOk Try.prog (F_aqueductref08_Complete.cal0 (T := T) k) := ⟨F_aqueductref08_in.hd k, F_aqueductref08_set.hd k, F_aqueductref08_full.hd k, F_aqueductref02_Sum.hd k, trivial⟩
noncomputable def F_aqueductref08_Complete.cal {T : Type} (k : Nat) : List (FuncId × Hd T) := F_aqueductref08_Complete.cal0 k
theorem F_aqueductref08_Complete.cal_ok {T : Type} (k : Nat) : HdsOk Try.prog (F_aqueductref08_Complete.cal (T := T) k) := F_aqueductref08_Complete.cal0_ok k
noncomputable def F_aqueductref08_Complete.S (k : Nat) (a0 : ByteArray) (a1 : Int) (a2 : Int) : O (ByteArray × Int) :=
  O.bind (F_aqueductref08_in.S k a1 (ByteArray.size a0 : Int)) fun r1 =>
  O.cond (!r1) (
   .ok ((⟨#[]⟩ : ByteArray), (1 : Int))) (
   O.bind (F_aqueductref08_in.S k a2 (ByteArray.size a0 : Int)) fun r3 =>
   O.cond (!r3) (
    .ok ((⟨#[]⟩ : ByteArray), (1 : Int))) (
    O.cond (decide ((IntKind.i64.wrap (a1 + a2)) > (IntKind.i64.wrap ((ByteArray.size a0 : Int) - (2 : Int))))) (
     .ok ((⟨#[]⟩ : ByteArray), (1 : Int))) (
     O.chk (decide (0 ≤ a1 ∧ a1 ≤ (ByteArray.size a0 : Int))) (
      O.bind (F_aqueductref02_Sum.S k (ByteArray.extract a0 a1.toNat (ByteArray.size a0))) fun r5 =>
      O.bind (F_aqueductref08_full.S k r5) fun r7 =>
      O.bind (F_aqueductref08_set.S k a0 (IntKind.i64.wrap (a1 + a2)) r7) fun r9 =>
      .ok (r9, (0 : Int))))))
theorem F_aqueductref08_Complete.eq (k : Nat) (a0 : ByteArray) (a1 : Int) (a2 : Int) : evFn (T := ByteArray × Int) tab (calOf (F_aqueductref08_Complete.cal k)) Go.Proofs.Try.f28 F_aqueductref08_Complete.nt k [.str a0, .int .i64 a1, .int .i64 a2] [] ⟨0, false, []⟩ (fun v st => takeR F_aqueductref08_Complete.rt v st.H .ok) panK = F_aqueductref08_Complete.S k a0 a1 a2 := by kernel_rfl
theorem F_aqueductref08_Complete.ok (k : Nat) : FnOk Try.prog 28 F_aqueductref08_Complete.as F_aqueductref08_Complete.rt (fun (x : ByteArray × Int × Int) => F_aqueductref08_Complete.S k x.1 x.2.1 x.2.2) :=
  FnOk.of_ev tab_ok (calOf_ok (F_aqueductref08_Complete.cal_ok k)) mixed Try.func28 F_aqueductref08_Complete.nt k (fun _ => rfl) (fun (x : ByteArray × Int × Int) => F_aqueductref08_Complete.eq k x.1 x.2.1 x.2.2)
theorem F_aqueductref08_Complete.hd {T : Type} (k : Nat) : HdOk Try.prog 28 (pureN (T := T) F_aqueductref08_Complete.as F_aqueductref08_Complete.rt (fun (x : ByteArray × Int × Int) => F_aqueductref08_Complete.S k x.1 x.2.1 x.2.2)) :=
  pureN_ok rfl rfl (F_aqueductref08_Complete.ok k) Try.call28
/-! ### aqueduct/aqueductref10.Finish: function 16 -/
noncomputable def F_aqueductref10_Finish.as : As := .some (.cons (.agg (.cons (.leaf (.int .i64)) (.cons (.leaf (.int .i64)) (.cons (.leaf (.int .i64)) (.cons (.leaf (.int .i64)) (.cons (.leaf (.int .i64)) (.cons (.leaf (.int .i64)) (.one (.leaf (.int .i64)))))))))) (.one (.leaf .str)))
noncomputable def F_aqueductref10_Finish.rt : Rt := .tup (.cons (.leaf .str) (.one (.leaf (.int .i64))))
noncomputable def F_aqueductref10_Finish.nt : Notes := ⟨[], [], [], [], []⟩
noncomputable def F_aqueductref10_Finish.cal0 {T : Type} (k : Nat) : List (FuncId × Hd T) := [(28, pureN F_aqueductref08_Complete.as F_aqueductref08_Complete.rt (fun (x : ByteArray × Int × Int) => F_aqueductref08_Complete.S k x.1 x.2.1 x.2.2))]
theorem F_aqueductref10_Finish.cal0_ok {T : Type} (k : Nat) : HdsOk Try.prog (F_aqueductref10_Finish.cal0 (T := T) k) := ⟨F_aqueductref08_Complete.hd k, trivial⟩
noncomputable def F_aqueductref10_Finish.cal {T : Type} (k : Nat) : List (FuncId × Hd T) := F_aqueductref10_Finish.cal0 k
theorem F_aqueductref10_Finish.cal_ok {T : Type} (k : Nat) : HdsOk Try.prog (F_aqueductref10_Finish.cal (T := T) k) := F_aqueductref10_Finish.cal0_ok k
noncomputable def F_aqueductref10_Finish.S (k : Nat) (a0 : Int × Int × Int × Int × Int × Int × Int) (a1 : ByteArray) : O (ByteArray × Int) :=
  O.cond (decide (a0.2.1 ≠ (0 : Int))) (
   .ok ((⟨#[]⟩ : ByteArray), (101 : Int))) (
   O.cond (decide ((bAnd .i64 a0.1 (1 : Int)) = (0 : Int))) (
    .ok (a1, (0 : Int))) (
    O.bind (F_aqueductref08_Complete.S k a1 a0.2.2.2.2.1 a0.2.2.2.2.2.1) fun r1 =>
    O.cond (decide (r1.2 ≠ (0 : Int))) (
     .ok ((⟨#[]⟩ : ByteArray), (102 : Int))) (
     .ok (r1.1, (0 : Int)))))
theorem F_aqueductref10_Finish.eq (k : Nat) (a0 : Int × Int × Int × Int × Int × Int × Int) (a1 : ByteArray) : evFn (T := ByteArray × Int) tab (calOf (F_aqueductref10_Finish.cal k)) Go.Proofs.Try.f16 F_aqueductref10_Finish.nt k [.agg [.int .i64 a0.1, .int .i64 a0.2.1, .int .i64 a0.2.2.1, .int .i64 a0.2.2.2.1, .int .i64 a0.2.2.2.2.1, .int .i64 a0.2.2.2.2.2.1, .int .i64 a0.2.2.2.2.2.2], .str a1] [] ⟨0, false, []⟩ (fun v st => takeR F_aqueductref10_Finish.rt v st.H .ok) panK = F_aqueductref10_Finish.S k a0 a1 := by kernel_rfl
theorem F_aqueductref10_Finish.ok (k : Nat) : FnOk Try.prog 16 F_aqueductref10_Finish.as F_aqueductref10_Finish.rt (fun (x : (Int × Int × Int × Int × Int × Int × Int) × ByteArray) => F_aqueductref10_Finish.S k x.1 x.2) :=
  FnOk.of_ev tab_ok (calOf_ok (F_aqueductref10_Finish.cal_ok k)) mixed Try.func16 F_aqueductref10_Finish.nt k (fun _ => rfl) (fun (x : (Int × Int × Int × Int × Int × Int × Int) × ByteArray) => F_aqueductref10_Finish.eq k x.1 x.2)
theorem F_aqueductref10_Finish.hd {T : Type} (k : Nat) : HdOk Try.prog 16 (pureN (T := T) F_aqueductref10_Finish.as F_aqueductref10_Finish.rt (fun (x : (Int × Int × Int × Int × Int × Int × Int) × ByteArray) => F_aqueductref10_Finish.S k x.1 x.2)) :=
  pureN_ok rfl rfl (F_aqueductref10_Finish.ok k) Try.call16
/-! ### aqueduct/aqueductref06.num: function 67 -/
noncomputable def F_aqueductref06_num.as : As := .some (.cons (.leaf .str) (.one (.leaf (.int .i64))))
noncomputable def F_aqueductref06_num.rt : Rt := .val (.leaf (.int .i64))
noncomputable def F_aqueductref06_num.nt : Notes := ⟨[], [], [(1, [0, 1, 2, 3, 4, 5, 6, 7, 8, 9, 10, 11])], [], []⟩
noncomputable def F_aqueductref06_num.cal0 {T : Type} (k : Nat) : List (FuncId × Hd T) := []
theorem F_aqueductref06_num.cal0_ok {T : Type} (k : Nat) : HdsOk Try.prog (F_aqueductref06_num.cal0 (T := T) k) := trivial
noncomputable def F_aqueductref06_num.cal {T : Type} (k : Nat) : List (FuncId × Hd T) := F_aqueductref06_num.cal0 k
theorem F_aqueductref06_num.cal_ok {T : Type} (k : Nat) : HdsOk Try.prog (F_aqueductref06_num.cal (T := T) k) := F_aqueductref06_num.cal0_ok k
noncomputable def F_aqueductref06_num.S (k : Nat) (a0 : ByteArray) (a1 : Int) : O Int :=
  O.chk (decide (0 ≤ a1 ∧ a1 < (ByteArray.size a0 : Int))) (
   O.chk (decide (0 ≤ (IntKind.i64.wrap (a1 + (1 : Int))) ∧ (IntKind.i64.wrap (a1 + (1 : Int))) < (ByteArray.size a0 : Int))) (
    .ok (IntKind.i64.wrap ((IntKind.i64.wrap ((256 : Int) * (IntKind.i64.wrap (bt a0 a1)))) + (IntKind.i64.wrap (bt a0 (IntKind.i64.wrap (a1 + (1 : Int)))))))))
theorem F_aqueductref06_num.eq (k : Nat) (a0 : ByteArray) (a1 : Int) : evFn (T := Int) tab (calOf (F_aqueductref06_num.cal k)) Go.Proofs.Try.f67 F_aqueductref06_num.nt k [.str a0, .int .i64 a1] [] ⟨0, false, []⟩ (fun v st => takeR F_aqueductref06_num.rt v st.H .ok) panK = F_aqueductref06_num.S k a0 a1 := by kernel_rfl
theorem F_aqueductref06_num.ok (k : Nat) : FnOk Try.prog 67 F_aqueductref06_num.as F_aqueductref06_num.rt (fun (x : ByteArray × Int) => F_aqueductref06_num.S k x.1 x.2) :=
  FnOk.of_ev tab_ok (calOf_ok (F_aqueductref06_num.cal_ok k)) mixed Try.func67 F_aqueductref06_num.nt k (fun _ => rfl) (fun (x : ByteArray × Int) => F_aqueductref06_num.eq k x.1 x.2)
theorem F_aqueductref06_num.hd {T : Type} (k : Nat) : HdOk Try.prog 67 (pureN (T := T) F_aqueductref06_num.as F_aqueductref06_num.rt (fun (x : ByteArray × Int) => F_aqueductref06_num.S k x.1 x.2)) :=
  pureN_ok rfl rfl (F_aqueductref06_num.ok k) Try.call67
/-! ### aqueduct/aqueductref06.kind: function 68 -/
noncomputable def F_aqueductref06_kind.as : As := .some (.one (.leaf (.int .i64)))
noncomputable def F_aqueductref06_kind.rt : Rt := .val (.leaf .bool)
noncomputable def F_aqueductref06_kind.nt : Notes := ⟨[], [], [], [], []⟩
noncomputable def F_aqueductref06_kind.cal0 {T : Type} (k : Nat) : List (FuncId × Hd T) := []
theorem F_aqueductref06_kind.cal0_ok {T : Type} (k : Nat) : HdsOk Try.prog (F_aqueductref06_kind.cal0 (T := T) k) := trivial
noncomputable def F_aqueductref06_kind.cal {T : Type} (k : Nat) : List (FuncId × Hd T) := F_aqueductref06_kind.cal0 k
theorem F_aqueductref06_kind.cal_ok {T : Type} (k : Nat) : HdsOk Try.prog (F_aqueductref06_kind.cal (T := T) k) := F_aqueductref06_kind.cal0_ok k
noncomputable def F_aqueductref06_kind.S (k : Nat) (a0 : Int) : O Bool :=
  O.cond (decide (a0 ≥ (1536 : Int))) (
   O.cond (decide (a0 ≤ (65535 : Int))) (
    .ok (decide (a0 ≠ (33024 : Int)))) (
    .ok false)) (
   .ok false)
theorem F_aqueductref06_kind.eq (k : Nat) (a0 : Int) : evFn (T := Bool) tab (calOf (F_aqueductref06_kind.cal k)) Go.Proofs.Try.f68 F_aqueductref06_kind.nt k [.int .i64 a0] [] ⟨0, false, []⟩ (fun v st => takeR F_aqueductref06_kind.rt v st.H .ok) panK = F_aqueductref06_kind.S k a0 := by kernel_rfl
theorem F_aqueductref06_kind.ok (k : Nat) : FnOk Try.prog 68 F_aqueductref06_kind.as F_aqueductref06_kind.rt (fun (x : Int) => F_aqueductref06_kind.S k x) :=
  FnOk.of_ev tab_ok (calOf_ok (F_aqueductref06_kind.cal_ok k)) mixed Try.func68 F_aqueductref06_kind.nt k (fun _ => rfl) (fun (x : Int) => F_aqueductref06_kind.eq k x)
theorem F_aqueductref06_kind.hd {T : Type} (k : Nat) : HdOk Try.prog 68 (pureN (T := T) F_aqueductref06_kind.as F_aqueductref06_kind.rt (fun (x : Int) => F_aqueductref06_kind.S k x)) :=
  pureN_ok rfl rfl (F_aqueductref06_kind.ok k) Try.call68
end Go.Proofs.Ytkmhbpiphepjoaa
