/- Texts of this proof, joined (2 of them): TS2, TS3.
   Conditions: none but those that stand at each theorem. -/
import Derived.Test.YtkihcmcaignmkaaTM4
section
/- What this seat's functions come to, as plain functions, each with the proof that the code does just that. Printed by a program of this repo (wip/gen4/gen.py). -/
namespace Go.Proofs.Ytkihcmcaignmkaa
open Go.Aq
set_option linter.unusedVariables false
set_option maxRecDepth 100000
namespace F_bridge_may
/-! ### aqueduct/bridge.may: function 34 -/
noncomputable def ct : Ct := ⟨.some (.one (.agg (.cons (.leaf (.int .i64)) (.one (.row false 3 [.int .i64]) []))) []), [], [⟨.val (.leaf .bool), [], []⟩]⟩
noncomputable def nt : Notes := ⟨[(3, ⟨[1, 3, 7, 8, 9], []⟩)], [], [], [], []⟩
noncomputable def cal0 {T : Type} (k : Nat) : List (FuncId × Hd T) := []
theorem cal0_ok {T : Type} (k : Nat) : HdsOk Try.prog (cal0 (T := T) k) := trivial
noncomputable def cal {T : Type} (k : Nat) : List (FuncId × Hd T) := cal0 k
theorem cal_ok {T : Type} (k : Nat) : HdsOk Try.prog (cal (T := T) k) := cal0_ok k
noncomputable abbrev la (k : Nat) (Rs : List (Fr → St → O (Bool))) (ds : List Dir) (j : Nat) : Fr → St → O (Bool) := loopAt tab (calOf (cal k)) Go.Proofs.Try.f34.ntmps nt k Rs ds (bodyOf Go.Proofs.Try.f34) (finK tab Go.Proofs.Try.f34.results.toList (fun v st => outK ct.ob (γ0 ct) ct.outs v st .ok) (fun e st => outP ct.ob (γ0 ct) ct.outs e st .ok)) j
noncomputable abbrev zl0 {α : Type} (X : Fr → St → α) (a0 : Int × List Int) (v1 : Int) (v2 : Int) : α := X ⟨[(1, .ptr 0 0), (3, .int .i64 v1), (7, .osl 1), (8, .int .i64 (List.length a0.2 : Int)), (9, .int .i64 v2)], [], 0, []⟩ ⟨2, true, [(0, .cells 55 [.int .i64 a0.1, .osl 1]), (1, .row false 3 [.int .i64] a0.2)]⟩
noncomputable def l0_b (k : Nat) (a0 : Int × List Int) (R_l0 : Int → Int → O Bool) (v1 : Int) (v2 : Int) : O Bool :=
  O.cond (decide (v2 < (List.length a0.2 : Int))) (
   O.chk (decide (0 ≤ v2 ∧ v2 < (List.length a0.2 : Int) ∧ (List.length a0.2 : Int) ≤ (List.length a0.2 : Int))) (
    O.chk (decide (0 ≤ v2 ∧ v2 < (List.length a0.2 : Int))) (
     O.cond (decide ((gt (0 : Int) a0.2 v2) ≤ v1)) (
      .ok false) (
      O.cond (decide ((gt (0 : Int) a0.2 v2) > (4094 : Int))) (
       .ok false) (
       R_l0 (gt (0 : Int) a0.2 v2) (IntKind.i64.wrap (v2 + (1 : Int)))))))) (
   O.cond (decide (a0.1 ≥ (0 : Int))) (
    .ok (decide (a0.1 ≤ (4094 : Int)))) (
    .ok false))
noncomputable def l0 (k : Nat) (a0 : Int × List Int) : Nat → Int → Int → O Bool
  | 0, _, _ => .no
  | j + 1, v1, v2 => l0_b k a0 (l0 k a0 j) v1 v2
theorem l0_eq (k : Nat) (a0 : Int × List Int) : ∀ (j : Nat) (v1 : Int) (v2 : Int), zl0 (la k [] [.r, .r, .l, .r, .b] j) a0 v1 v2 = l0 k a0 j v1 v2 := by
  intro j
  induction j with
  | zero => intro v1 v2; rfl
  | succ j ih =>
    intro v1 v2
    have rs : (fun (v1' : Int) (v2' : Int) => zl0 (la k [] [.r, .r, .l, .r, .b] j) a0 v1' v2') = l0 k a0 j := by funext v1' v2'; exact ih v1' v2'
    have h : zl0 (la k [] [.r, .r, .l, .r, .b] (j + 1)) a0 v1 v2 = l0_b k a0 ((fun (v1' : Int) (v2' : Int) => zl0 (la k [] [.r, .r, .l, .r, .b] j) a0 v1' v2')) v1 v2 := by kernel_rfl
    exact h.trans (by rw [rs]; rfl)
noncomputable def top (k : Nat) (a0 : Int × List Int) (D_l0 : Int → Int → O Bool) : O Bool :=
  D_l0 (-1 : Int) (0 : Int)
noncomputable def S (k : Nat) (a0 : Int × List Int) : O Bool := top k a0 ((fun (v1 : Int) (v2 : Int) => l0 k a0 k v1 v2))
theorem eq (k : Nat) (a0 : Int × List Int) : evFn (T := Bool) tab (calOf (cal k)) Go.Proofs.Try.f34 nt k 0 [.agg [.int .i64 a0.1, .osl 0]] [] ⟨1, false, [(0, .row false 3 [.int .i64] a0.2)]⟩ (fun v st => outK ct.ob (γ0 ct) ct.outs v st .ok) (fun e st => outP ct.ob (γ0 ct) ct.outs e st .ok) = S k a0 := by
  have e0 : (fun (v1 : Int) (v2 : Int) => zl0 (la k [] [.r, .r, .l, .r, .b] k) a0 v1 v2) = (fun (v1 : Int) (v2 : Int) => l0 k a0 k v1 v2) := by funext v1 v2; exact l0_eq k a0 k v1 v2
  have h : evFn (T := Bool) tab (calOf (cal k)) Go.Proofs.Try.f34 nt k 0 [.agg [.int .i64 a0.1, .osl 0]] [] ⟨1, false, [(0, .row false 3 [.int .i64] a0.2)]⟩ (fun v st => outK ct.ob (γ0 ct) ct.outs v st .ok) (fun e st => outP ct.ob (γ0 ct) ct.outs e st .ok) = top k a0 ((fun (v1 : Int) (v2 : Int) => zl0 (la k [] [.r, .r, .l, .r, .b] k) a0 v1 v2)) := by kernel_rfl
  exact h.trans (by rw [e0]; rfl)
theorem ok (k : Nat) : FnOkC Try.prog 34 ct (fun (x : Int × List Int) (_ : Unit) => S k x) :=
  FnOkC.of_ev (C := ct) tab_ok rfl (calOf_ok (cal_ok k)) mixed Try.func34 nt k (fun _ _ => rfl) (fun (x : Int × List Int) (_ : Unit) => eq k x)
theorem hd {T : Type} (k : Nat) : HdOk Try.prog 34 (pureC (T := T) ct [] (fun (x : Int × List Int) (_ : Unit) => S k x)) :=
  pureC_ok rfl [] (ok k) Try.call34
end F_bridge_may
namespace F_slices_Clone_int_int
/-! ### slices.Clone[[]int,int]: function 35 -/
noncomputable def ct : Ct := ⟨.some (.one (.row false 3 [.int .i64]) []), [], [⟨.val (.row true 3 [.int .i64]), [], []⟩]⟩
noncomputable def nt : Notes := ⟨[], [], [], [], []⟩
noncomputable def cal0 {T : Type} (k : Nat) : List (FuncId × Hd T) := []
theorem cal0_ok {T : Type} (k : Nat) : HdsOk Try.prog (cal0 (T := T) k) := trivial
noncomputable def cal {T : Type} (k : Nat) : List (FuncId × Hd T) := cal0 k
theorem cal_ok {T : Type} (k : Nat) : HdsOk Try.prog (cal (T := T) k) := cal0_ok k
noncomputable def S (k : Nat) (a0 : List Int) : O (List Int) :=
  O.cond (decide (0 < (List.length a0 : Int))) (
   O.cond false (
    .ok []) (
    O.chk (decide ((0 : Nat) + List.length a0 ≤ 1073741824)) (
     .ok ([] ++ a0)))) (
   O.same (
    O.cond true (
     .ok []) (
     O.chk (decide ((0 : Nat) + List.length a0 ≤ 1073741824)) (
      .ok ([] ++ a0)))) (
    O.cond false (
     .ok []) (
     O.chk (decide ((0 : Nat) + List.length a0 ≤ 1073741824)) (
      .ok ([] ++ a0)))))
theorem eq (k : Nat) (a0 : List Int) : evFn (T := List Int) tab (calOf (cal k)) Go.Proofs.Try.f35 nt k 0 [.osl 0] [] ⟨1, false, [(0, .row false 3 [.int .i64] a0)]⟩ (fun v st => outK ct.ob (γ0 ct) ct.outs v st .ok) (fun e st => outP ct.ob (γ0 ct) ct.outs e st .ok) = S k a0 := by kernel_rfl
theorem ok (k : Nat) : FnOkC Try.prog 35 ct (fun (x : List Int) (_ : Unit) => S k x) :=
  FnOkC.of_ev (C := ct) tab_ok rfl (calOf_ok (cal_ok k)) mixed Try.func35 nt k (fun _ _ => rfl) (fun (x : List Int) (_ : Unit) => eq k x)
theorem hd {T : Type} (k : Nat) : HdOk Try.prog 35 (pureC (T := T) ct [] (fun (x : List Int) (_ : Unit) => S k x)) :=
  pureC_ok rfl [] (ok k) Try.call35
end F_slices_Clone_int_int
namespace F_lane_New_string
/-! ### aqueduct/lane.New[string]: function 58 -/
noncomputable def ct : Ct := ⟨.some (.one (.leaf (.int .i64)) []), [], [⟨.tup (.pin (.nil) (.one (.leaf (.int .i64)) [])), [], []⟩, ⟨.tup (.pin (.ref 0) (.one (.leaf (.int .i64)) [])), [(121, .cons (.row true 9 [.str]) (.cons (.leaf (.int .i64)) (.one (.leaf (.int .i64)) [])))], [.arg 0 0]⟩]⟩
noncomputable def nt : Notes := ⟨[], [], [], [], []⟩
noncomputable def cal0 {T : Type} (k : Nat) : List (FuncId × Hd T) := []
theorem cal0_ok {T : Type} (k : Nat) : HdsOk Try.prog (cal0 (T := T) k) := trivial
noncomputable def cal {T : Type} (k : Nat) : List (FuncId × Hd T) := cal0 k
theorem cal_ok {T : Type} (k : Nat) : HdsOk Try.prog (cal (T := T) k) := cal0_ok k
noncomputable def S (k : Nat) (a0 : Int) : O (Int ⊕ (Int × List ByteArray × Int × Int)) :=
  O.cond (decide (a0 < (1 : Int))) (
   .ok (.inl (190 : Int))) (
   O.cond (decide (a0 > (1024 : Int))) (
    .ok (.inl (190 : Int))) (
    .ok (.inr ((0 : Int), ([], a0, (0 : Int))))))
theorem eq (k : Nat) (a0 : Int) : evFn (T := Int ⊕ (Int × List ByteArray × Int × Int)) tab (calOf (cal k)) Go.Proofs.Try.f58 nt k 0 [.int .i64 a0] [] ⟨0, false, []⟩ (fun v st => outK ct.ob (γ0 ct) ct.outs v st .ok) (fun e st => outP ct.ob (γ0 ct) ct.outs e st .ok) = S k a0 := by kernel_rfl
theorem ok (k : Nat) : FnOkC Try.prog 58 ct (fun (x : Int) (_ : Unit) => S k x) :=
  FnOkC.of_ev (C := ct) tab_ok rfl (calOf_ok (cal_ok k)) mixed Try.func58 nt k (fun _ _ => rfl) (fun (x : Int) (_ : Unit) => eq k x)
theorem hd {T : Type} (k : Nat) : HdOk Try.prog 58 (pureC (T := T) ct [] (fun (x : Int) (_ : Unit) => S k x)) :=
  pureC_ok rfl [] (ok k) Try.call58
end F_lane_New_string
namespace F_lane_Texts
/-! ### aqueduct/lane.Texts: function 37 -/
noncomputable def ct : Ct := ⟨.some (.one (.leaf (.int .i64)) []), [], [⟨.tup (.pin (.nil) (.one (.leaf (.int .i64)) [])), [], []⟩, ⟨.tup (.pin (.ref 0) (.one (.leaf (.int .i64)) [])), [(121, .cons (.row true 9 [.str]) (.cons (.leaf (.int .i64)) (.one (.leaf (.int .i64)) [])))], [.arg 0 0]⟩]⟩
noncomputable def nt : Notes := ⟨[], [], [], [], []⟩
noncomputable def cal0 {T : Type} (k : Nat) : List (FuncId × Hd T) := [(58, pureC F_lane_New_string.ct [] (fun (x : Int) (_ : Unit) => F_lane_New_string.S k x))]
theorem cal0_ok {T : Type} (k : Nat) : HdsOk Try.prog (cal0 (T := T) k) := ⟨F_lane_New_string.hd k, trivial⟩
noncomputable def cal {T : Type} (k : Nat) : List (FuncId × Hd T) := cal0 k
theorem cal_ok {T : Type} (k : Nat) : HdsOk Try.prog (cal (T := T) k) := cal0_ok k
noncomputable def S (k : Nat) (a0 : Int) : O (Int ⊕ (Int × List ByteArray × Int × Int)) :=
  O.sum (F_lane_New_string.S k a0) (fun r1 =>
   .ok (.inl r1)) fun r2 =>
  .ok (.inr (r2.1, r2.2))
theorem eq (k : Nat) (a0 : Int) : evFn (T := Int ⊕ (Int × List ByteArray × Int × Int)) tab (calOf (cal k)) Go.Proofs.Try.f37 nt k 0 [.int .i64 a0] [] ⟨0, false, []⟩ (fun v st => outK ct.ob (γ0 ct) ct.outs v st .ok) (fun e st => outP ct.ob (γ0 ct) ct.outs e st .ok) = S k a0 := by kernel_rfl
theorem ok (k : Nat) : FnOkC Try.prog 37 ct (fun (x : Int) (_ : Unit) => S k x) :=
  FnOkC.of_ev (C := ct) tab_ok rfl (calOf_ok (cal_ok k)) mixed Try.func37 nt k (fun _ _ => rfl) (fun (x : Int) (_ : Unit) => eq k x)
theorem hd {T : Type} (k : Nat) : HdOk Try.prog 37 (pureC (T := T) ct [] (fun (x : Int) (_ : Unit) => S k x)) :=
  pureC_ok rfl [] (ok k) Try.call37
end F_lane_Texts
namespace F_bridge_New
/-! ### aqueduct/bridge.New: function 14 -/
noncomputable def ct : Ct := ⟨.some (.cons (.tab false 55 (.cons (.leaf (.int .i64)) (.one (.row false 3 [.int .i64]) []))) (.cons (.leaf (.int .i64)) (.cons (.leaf (.int .i64)) (.one (.leaf (.int .i64)) [])))), [], [⟨.tup (.pin (.nil) (.one (.leaf (.int .i64)) [])), [], []⟩, ⟨.tup (.pin (.ref 0) (.one (.leaf (.int .i64)) [])), [(71, .cons (.tab false 55 (.cons (.leaf (.int .i64)) (.one (.row false 3 [.int .i64]) []))) (.pin (.ref 1) (.cons (.tab true 78 (.one (.box 121 (.cons (.row true 9 [.str]) (.cons (.leaf (.int .i64)) (.one (.leaf (.int .i64)) [])))) [])) (.one (.agg (.cons (.leaf (.int .i64)) (.cons (.leaf (.int .i64)) (.cons (.leaf (.int .i64)) (.cons (.leaf (.int .i64)) (.cons (.leaf (.int .i64)) (.one (.leaf (.int .i64)) []))))))) [])))), (115, .cons (.leaf (.int .i64)) (.cons (.leaf (.int .i64)) (.one (.map 113 true true [.int .i64, .str] [.int .i64, .str, .int .i64, .int .i64]) [])))], [.arg 0 0, .fld 0 1]⟩]⟩
noncomputable def nt : Notes := ⟨[(5, ⟨[0, 1, 2, 3, 10, 27, 28, 29], [(.slot 10 [0], 55, .tb (.cons (.leaf (.int .i64)) (.one (.row false 3 [.int .i64]) [])))]⟩), (16, ⟨[3, 10, 66, 67], [(.slot 10 [2], 78, .tb (.one (.box 121 (.cons (.row true 9 [.str]) (.cons (.leaf (.int .i64)) (.one (.leaf (.int .i64)) [])))) []))]⟩), (16, ⟨[3, 10, 66, 67], [(.slot 10 [2], 78, .tb (.one (.box 121 (.cons (.row true 9 [.str]) (.cons (.leaf (.int .i64)) (.one (.leaf (.int .i64)) [])))) []))]⟩)], [], [(9, [0, 1, 2, 3, 4, 5, 6, 7, 8, 9, 10, 11, 12, 13, 14, 15])], [], []⟩
noncomputable def cal0 {T : Type} (k : Nat) : List (FuncId × Hd T) := [(34, pureC F_bridge_may.ct [] (fun (x : Int × List Int) (_ : Unit) => F_bridge_may.S k x)), (35, pureC F_slices_Clone_int_int.ct [] (fun (x : List Int) (_ : Unit) => F_slices_Clone_int_int.S k x)), (36, pureC F_fdb_New.ct [] (fun (x : Int × Int) (_ : Unit) => F_fdb_New.S k x.1 x.2)), (37, pureC F_lane_Texts.ct [] (fun (x : Int) (_ : Unit) => F_lane_Texts.S k x))]
theorem cal0_ok {T : Type} (k : Nat) : HdsOk Try.prog (cal0 (T := T) k) := ⟨F_bridge_may.hd k, F_slices_Clone_int_int.hd k, F_fdb_New.hd k, F_lane_Texts.hd k, trivial⟩
noncomputable def cal {T : Type} (k : Nat) : List (FuncId × Hd T) := cal0 k
theorem cal_ok {T : Type} (k : Nat) : HdsOk Try.prog (cal (T := T) k) := cal0_ok k
noncomputable abbrev la (k : Nat) (Rs : List (Fr → St → O (Int ⊕ TY4))) (ds : List Dir) (j : Nat) : Fr → St → O (Int ⊕ TY4) := loopAt tab (calOf (cal k)) Go.Proofs.Try.f14.ntmps nt k Rs ds (bodyOf Go.Proofs.Try.f14) (finK tab Go.Proofs.Try.f14.results.toList (fun v st => outK ct.ob (γ0 ct) ct.outs v st .ok) (fun e st => outP ct.ob (γ0 ct) ct.outs e st .ok)) j
noncomputable abbrev zl0 {α : Type} (X : Fr → St → α) (a0 : List (Int × List Int)) (a1 : Int) (a2 : Int) (a3 : Int) (v15 : Int) (v16 : List (Int × List Int)) : α := X ⟨[(0, .osl 0), (1, .int .i64 a1), (2, .int .i64 a2), (3, .int .i64 a3), (10, .ptr 1 0), (27, .osl 0), (28, .int .i64 (List.length a0 : Int)), (29, .int .i64 v15)], [], 0, []⟩ ⟨5, true, [(0, .tab false 55 [] 2 (.cons (.leaf (.int .i64)) (.one (.row false 3 [.int .i64]) [])) a0), (1, .cells 71 [.osl 3, .nilp, .nilsl, .int .i64 (0 : Int), .int .i64 (0 : Int), .int .i64 (0 : Int), .int .i64 (0 : Int), .int .i64 (0 : Int), .int .i64 (0 : Int)]), (2, .ghost), (3, .tab true 55 [] 4 (.cons (.leaf (.int .i64)) (.one (.row false 3 [.int .i64]) [])) v16), (4, .ghost)]⟩
noncomputable abbrev zl1 {α : Type} (X : Fr → St → α) (a0 : List (Int × List Int)) (a3 : Int) (v16 : List (Int × List Int)) (v29 : Int) (v30 : List TY7) : α := X ⟨[(3, .int .i64 a3), (10, .ptr 0 0), (66, .int .i64 (List.length a0 : Int)), (67, .int .i64 v29)], [], 0, []⟩ ⟨5, true, [(0, .cells 71 [.osl 1, .nilp, .osl 2, .int .i64 (0 : Int), .int .i64 (0 : Int), .int .i64 (0 : Int), .int .i64 (0 : Int), .int .i64 (0 : Int), .int .i64 (0 : Int)]), (1, .tab true 55 [] 3 (.cons (.leaf (.int .i64)) (.one (.row false 3 [.int .i64]) [])) v16), (2, .tab true 78 [] 4 (.one (.box 121 (.cons (.row true 9 [.str]) (.cons (.leaf (.int .i64)) (.one (.leaf (.int .i64)) [])))) []) v30), (3, .ghost), (4, .ghost)]⟩
noncomputable abbrev zl2 {α : Type} (X : Fr → St → α) (a0 : List (Int × List Int)) (a3 : Int) (v16 : List (Int × List Int)) (r24 : Int × Int × Int × TY0) (v39 : Int) (v40 : List TY7) : α := X ⟨[(3, .int .i64 a3), (10, .ptr 0 0), (66, .int .i64 (List.length a0 : Int)), (67, .int .i64 v39)], [], 0, []⟩ ⟨7, true, [(0, .cells 71 [.osl 1, .ptr 2 0, .osl 3, .int .i64 (0 : Int), .int .i64 (0 : Int), .int .i64 (0 : Int), .int .i64 (0 : Int), .int .i64 (0 : Int), .int .i64 (0 : Int)]), (1, .tab true 55 [] 4 (.cons (.leaf (.int .i64)) (.one (.row false 3 [.int .i64]) [])) v16), (2, .cells 115 [.int .i64 r24.2.1, .int .i64 r24.2.2.1, .mp 5]), (3, .tab true 78 [] 6 (.one (.box 121 (.cons (.row true 9 [.str]) (.cons (.leaf (.int .i64)) (.one (.leaf (.int .i64)) [])))) []) v40), (4, .ghost), (5, .map 113 true true [.int .i64, .str] [.int .i64, .str, .int .i64, .int .i64] r24.2.2.2), (6, .ghost)]⟩
noncomputable def l1_b (k : Nat) (a0 : List (Int × List Int)) (a3 : Int) (v16 : List (Int × List Int)) (R_l0 : Int → TY8 → O (Int ⊕ TY4)) (R_l1 : Int → TY5 → O (Int ⊕ TY4)) (v29 : Int) (v30 : List TY7) : O (Int ⊕ TY4) :=
  O.cond (decide (v29 < (List.length a0 : Int))) (
   O.sum (F_lane_Texts.S k a3) (fun r33 =>
    O.cond (decide (r33 ≠ (0 : Int))) (
     .ok (.inl r33)) (
     .no)) fun r34 =>
   O.cond (decide (r34.1 ≠ (0 : Int))) (
    .ok (.inl r34.1)) (
    O.chk (decide (List.length v30 + 1 ≤ 1073741824)) (
     R_l1 (IntKind.i64.wrap (v29 + (1 : Int))) (v30 ++ [r34.2])))) (
   .no)
noncomputable def l1 (k : Nat) (a0 : List (Int × List Int)) (a3 : Int) (v16 : List (Int × List Int)) (R_l0 : Int → TY8 → O (Int ⊕ TY4)) : Nat → Int → TY5 → O (Int ⊕ TY4)
  | 0, _, _ => .no
  | j + 1, v29, v30 => l1_b k a0 a3 v16 R_l0 (l1 k a0 a3 v16 R_l0 j) v29 v30
theorem l1_eq (k : Nat) (a0 : List (Int × List Int)) (a3 : Int) (v16 : List (Int × List Int)) (a1 : Int) (a2 : Int) (RR_l0 : Fr → St → O (Int ⊕ TY4)) (R_l0 : Int → TY8 → O (Int ⊕ TY4)) (hR_l0 : ∀ (v15' : Int) (v16' : List (Int × List Int)), zl0 RR_l0 a0 a1 a2 a3 v15' v16' = R_l0 v15' v16') : ∀ (j : Nat) (v29 : Int) (v30 : List TY7), zl1 (la k [] [.r, .r, .r, .r, .r, .r, .r, .l, .r, .b] j) a0 a3 v16 v29 v30 = l1 k a0 a3 v16 R_l0 j v29 v30 := by
  intro j
  induction j with
  | zero => intro v29 v30; rfl
  | succ j ih =>
    intro v29 v30
    have rs : (fun (v29' : Int) (v30' : List TY7) => zl1 (la k [] [.r, .r, .r, .r, .r, .r, .r, .l, .r, .b] j) a0 a3 v16 v29' v30') = l1 k a0 a3 v16 R_l0 j := by funext v29' v30'; exact ih v29' v30'
    have r0 : (fun (v15' : Int) (v16' : List (Int × List Int)) => zl0 RR_l0 a0 a1 a2 a3 v15' v16') = R_l0 := by funext v15' v16'; exact hR_l0 v15' v16'
    have h : zl1 (la k [] [.r, .r, .r, .r, .r, .r, .r, .l, .r, .b] (j + 1)) a0 a3 v16 v29 v30 = l1_b k a0 a3 v16 ((fun (v15' : Int) (v16' : List (Int × List Int)) => zl0 RR_l0 a0 a1 a2 a3 v15' v16')) ((fun (v29' : Int) (v30' : List TY7) => zl1 (la k [] [.r, .r, .r, .r, .r, .r, .r, .l, .r, .b] j) a0 a3 v16 v29' v30')) v29 v30 := by kernel_rfl
    exact h.trans (by rw [rs, r0]; rfl)
noncomputable def l2_b (k : Nat) (a0 : List (Int × List Int)) (a3 : Int) (v16 : List (Int × List Int)) (r24 : Int × Int × Int × TY0) (R_l0 : Int → TY8 → O (Int ⊕ TY4)) (R_l2 : Int → TY5 → O (Int ⊕ TY4)) (v39 : Int) (v40 : List TY7) : O (Int ⊕ TY4) :=
  O.cond (decide (v39 < (List.length a0 : Int))) (
   O.sum (F_lane_Texts.S k a3) (fun r43 =>
    O.cond (decide (r43 ≠ (0 : Int))) (
     .ok (.inl r43)) (
     .no)) fun r44 =>
   O.cond (decide (r44.1 ≠ (0 : Int))) (
    .ok (.inl r44.1)) (
    O.chk (decide (List.length v40 + 1 ≤ 1073741824)) (
     R_l2 (IntKind.i64.wrap (v39 + (1 : Int))) (v40 ++ [r44.2])))) (
   .ok (.inr ((0 : Int), ((v16, v40, ((0 : Int), (0 : Int), (0 : Int), (0 : Int), (0 : Int), (0 : Int))), r24.2))))
noncomputable def l2 (k : Nat) (a0 : List (Int × List Int)) (a3 : Int) (v16 : List (Int × List Int)) (r24 : Int × Int × Int × TY0) (R_l0 : Int → TY8 → O (Int ⊕ TY4)) : Nat → Int → TY5 → O (Int ⊕ TY4)
  | 0, _, _ => .no
  | j + 1, v39, v40 => l2_b k a0 a3 v16 r24 R_l0 (l2 k a0 a3 v16 r24 R_l0 j) v39 v40
theorem l2_eq (k : Nat) (a0 : List (Int × List Int)) (a3 : Int) (v16 : List (Int × List Int)) (r24 : Int × Int × Int × TY0) (a1 : Int) (a2 : Int) (RR_l0 : Fr → St → O (Int ⊕ TY4)) (R_l0 : Int → TY8 → O (Int ⊕ TY4)) (hR_l0 : ∀ (v15' : Int) (v16' : List (Int × List Int)), zl0 RR_l0 a0 a1 a2 a3 v15' v16' = R_l0 v15' v16') : ∀ (j : Nat) (v39 : Int) (v40 : List TY7), zl2 (la k [] [.r, .r, .r, .r, .r, .r, .r, .l, .r, .b] j) a0 a3 v16 r24 v39 v40 = l2 k a0 a3 v16 r24 R_l0 j v39 v40 := by
  intro j
  induction j with
  | zero => intro v39 v40; rfl
  | succ j ih =>
    intro v39 v40
    have rs : (fun (v39' : Int) (v40' : List TY7) => zl2 (la k [] [.r, .r, .r, .r, .r, .r, .r, .l, .r, .b] j) a0 a3 v16 r24 v39' v40') = l2 k a0 a3 v16 r24 R_l0 j := by funext v39' v40'; exact ih v39' v40'
    have r0 : (fun (v15' : Int) (v16' : List (Int × List Int)) => zl0 RR_l0 a0 a1 a2 a3 v15' v16') = R_l0 := by funext v15' v16'; exact hR_l0 v15' v16'
    have h : zl2 (la k [] [.r, .r, .r, .r, .r, .r, .r, .l, .r, .b] (j + 1)) a0 a3 v16 r24 v39 v40 = l2_b k a0 a3 v16 r24 ((fun (v15' : Int) (v16' : List (Int × List Int)) => zl0 RR_l0 a0 a1 a2 a3 v15' v16')) ((fun (v39' : Int) (v40' : List TY7) => zl2 (la k [] [.r, .r, .r, .r, .r, .r, .r, .l, .r, .b] j) a0 a3 v16 r24 v39' v40')) v39 v40 := by kernel_rfl
    exact h.trans (by rw [rs, r0]; rfl)
noncomputable def l0_b (k : Nat) (a0 : List (Int × List Int)) (a1 : Int) (a2 : Int) (a3 : Int) (R_l0 : Int → TY8 → O (Int ⊕ TY4)) (D_l1 : TY8 → Int → TY5 → O (Int ⊕ TY4)) (D_l2 : TY8 → (Int × Int × Int × TY0) → Int → TY5 → O (Int ⊕ TY4)) (v15 : Int) (v16 : List (Int × List Int)) : O (Int ⊕ TY4) :=
  O.cond (decide (v15 < (List.length a0 : Int))) (
   O.chk (decide (0 ≤ v15 ∧ v15 < (List.length a0 : Int))) (
    O.chk (decide (0 ≤ v15 ∧ v15 < (List.length a0 : Int))) (
     O.bind (F_bridge_may.S k (gt ((0 : Int), []) a0 v15)) fun r19 =>
     O.cond (!r19) (
      .ok (.inl (200 : Int))) (
      O.bind (F_slices_Clone_int_int.S k ((gt ((0 : Int), []) a0 v15).2)) fun r20 =>
      O.chk (decide (List.length v16 + 1 ≤ 1073741824)) (
       R_l0 (IntKind.i64.wrap (v15 + (1 : Int))) (v16 ++ [((gt ((0 : Int), []) a0 v15).1, r20)])))))) (
   O.sum (F_fdb_New.S k a1 a2) (fun r23 =>
    O.cond (decide (r23 ≠ (0 : Int))) (
     .ok (.inl r23)) (
     D_l1 v16 (0 : Int) [])) fun r24 =>
   O.cond (decide (r24.1 ≠ (0 : Int))) (
    .ok (.inl r24.1)) (
    D_l2 v16 r24 (0 : Int) []))
noncomputable def l0 (k : Nat) (a0 : List (Int × List Int)) (a1 : Int) (a2 : Int) (a3 : Int) : Nat → Int → TY8 → O (Int ⊕ TY4)
  | 0, _, _ => .no
  | j + 1, v15, v16 => l0_b k a0 a1 a2 a3 (l0 k a0 a1 a2 a3 j) ((fun (v16 : List (Int × List Int)) (v29 : Int) (v30 : List TY7) => l1 k a0 a3 v16 (l0 k a0 a1 a2 a3 j) k v29 v30)) ((fun (v16 : List (Int × List Int)) (r24 : Int × Int × Int × TY0) (v39 : Int) (v40 : List TY7) => l2 k a0 a3 v16 r24 (l0 k a0 a1 a2 a3 j) k v39 v40)) v15 v16
theorem l0_eq (k : Nat) (a0 : List (Int × List Int)) (a1 : Int) (a2 : Int) (a3 : Int) : ∀ (j : Nat) (v15 : Int) (v16 : List (Int × List Int)), zl0 (la k [] [.r, .r, .r, .l, .r, .b] j) a0 a1 a2 a3 v15 v16 = l0 k a0 a1 a2 a3 j v15 v16 := by
  intro j
  induction j with
  | zero => intro v15 v16; rfl
  | succ j ih =>
    intro v15 v16
    have rs : (fun (v15' : Int) (v16' : List (Int × List Int)) => zl0 (la k [] [.r, .r, .r, .l, .r, .b] j) a0 a1 a2 a3 v15' v16') = l0 k a0 a1 a2 a3 j := by funext v15' v16'; exact ih v15' v16'
    have e0 : (fun (v16 : List (Int × List Int)) (v29 : Int) (v30 : List TY7) => zl1 (la k [] [.r, .r, .r, .r, .r, .r, .r, .l, .r, .b] k) a0 a3 v16 v29 v30) = (fun (v16 : List (Int × List Int)) (v29 : Int) (v30 : List TY7) => l1 k a0 a3 v16 (l0 k a0 a1 a2 a3 j) k v29 v30) := by funext v16 v29 v30; exact l1_eq k a0 a3 v16 a1 a2 (la k [] [.r, .r, .r, .l, .r, .b] j) (l0 k a0 a1 a2 a3 j) (fun v15 v16 => ih v15 v16) k v29 v30
    have e1 : (fun (v16 : List (Int × List Int)) (r24 : Int × Int × Int × TY0) (v39 : Int) (v40 : List TY7) => zl2 (la k [] [.r, .r, .r, .r, .r, .r, .r, .l, .r, .b] k) a0 a3 v16 r24 v39 v40) = (fun (v16 : List (Int × List Int)) (r24 : Int × Int × Int × TY0) (v39 : Int) (v40 : List TY7) => l2 k a0 a3 v16 r24 (l0 k a0 a1 a2 a3 j) k v39 v40) := by funext v16 r24 v39 v40; exact l2_eq k a0 a3 v16 r24 a1 a2 (la k [] [.r, .r, .r, .l, .r, .b] j) (l0 k a0 a1 a2 a3 j) (fun v15 v16 => ih v15 v16) k v39 v40
    have h : zl0 (la k [] [.r, .r, .r, .l, .r, .b] (j + 1)) a0 a1 a2 a3 v15 v16 = l0_b k a0 a1 a2 a3 ((fun (v15' : Int) (v16' : List (Int × List Int)) => zl0 (la k [] [.r, .r, .r, .l, .r, .b] j) a0 a1 a2 a3 v15' v16')) ((fun (v16 : List (Int × List Int)) (v29 : Int) (v30 : List TY7) => zl1 (la k [] [.r, .r, .r, .r, .r, .r, .r, .l, .r, .b] k) a0 a3 v16 v29 v30)) ((fun (v16 : List (Int × List Int)) (r24 : Int × Int × Int × TY0) (v39 : Int) (v40 : List TY7) => zl2 (la k [] [.r, .r, .r, .r, .r, .r, .r, .l, .r, .b] k) a0 a3 v16 r24 v39 v40)) v15 v16 := by kernel_rfl
    exact h.trans (by rw [rs, e0, e1]; rfl)
noncomputable def top (k : Nat) (a0 : List (Int × List Int)) (a1 : Int) (a2 : Int) (a3 : Int) (D_l0 : Int → TY8 → O (Int ⊕ TY4)) : O (Int ⊕ TY4) :=
  O.cond (decide ((List.length a0 : Int) < (1 : Int))) (
   .ok (.inl (200 : Int))) (
   O.cond (decide ((List.length a0 : Int) > (16 : Int))) (
    .ok (.inl (200 : Int))) (
    D_l0 (0 : Int) []))
noncomputable def S (k : Nat) (a0 : List (Int × List Int)) (a1 : Int) (a2 : Int) (a3 : Int) : O (Int ⊕ TY4) := top k a0 a1 a2 a3 ((fun (v15 : Int) (v16 : List (Int × List Int)) => l0 k a0 a1 a2 a3 k v15 v16))
theorem eq (k : Nat) (a0 : List (Int × List Int)) (a1 : Int) (a2 : Int) (a3 : Int) : evFn (T := Int ⊕ TY4) tab (calOf (cal k)) Go.Proofs.Try.f14 nt k 0 [.osl 1, .int .i64 a1, .int .i64 a2, .int .i64 a3] [] ⟨2, false, [(1, .tab false 55 [] 0 (.cons (.leaf (.int .i64)) (.one (.row false 3 [.int .i64]) [])) a0), (0, .ghost)]⟩ (fun v st => outK ct.ob (γ0 ct) ct.outs v st .ok) (fun e st => outP ct.ob (γ0 ct) ct.outs e st .ok) = S k a0 a1 a2 a3 := by
  have e0 : (fun (v15 : Int) (v16 : List (Int × List Int)) => zl0 (la k [] [.r, .r, .r, .l, .r, .b] k) a0 a1 a2 a3 v15 v16) = (fun (v15 : Int) (v16 : List (Int × List Int)) => l0 k a0 a1 a2 a3 k v15 v16) := by funext v15 v16; exact l0_eq k a0 a1 a2 a3 k v15 v16
  have h : evFn (T := Int ⊕ TY4) tab (calOf (cal k)) Go.Proofs.Try.f14 nt k 0 [.osl 1, .int .i64 a1, .int .i64 a2, .int .i64 a3] [] ⟨2, false, [(1, .tab false 55 [] 0 (.cons (.leaf (.int .i64)) (.one (.row false 3 [.int .i64]) [])) a0), (0, .ghost)]⟩ (fun v st => outK ct.ob (γ0 ct) ct.outs v st .ok) (fun e st => outP ct.ob (γ0 ct) ct.outs e st .ok) = top k a0 a1 a2 a3 ((fun (v15 : Int) (v16 : List (Int × List Int)) => zl0 (la k [] [.r, .r, .r, .l, .r, .b] k) a0 a1 a2 a3 v15 v16)) := by kernel_rfl
  exact h.trans (by rw [e0]; rfl)
theorem ok (k : Nat) : FnOkC Try.prog 14 ct (fun (x : TY8 × Int × Int × Int) (_ : Unit) => S k x.1 x.2.1 x.2.2.1 x.2.2.2) :=
  FnOkC.of_ev (C := ct) tab_ok rfl (calOf_ok (cal_ok k)) mixed Try.func14 nt k (fun _ _ => rfl) (fun (x : TY8 × Int × Int × Int) (_ : Unit) => eq k x.1 x.2.1 x.2.2.1 x.2.2.2)
theorem hd {T : Type} (k : Nat) : HdOk Try.prog 14 (pureC (T := T) ct [] (fun (x : TY8 × Int × Int × Int) (_ : Unit) => S k x.1 x.2.1 x.2.2.1 x.2.2.2)) :=
  pureC_ok rfl [] (ok k) Try.call14
end F_bridge_New
namespace F_aqueductref16_Nets
/-! ### aqueduct/aqueductref16.Nets: function 45 -/
noncomputable def ct : Ct := ⟨.some (.one (.row false 3 [.int .i64]) []), [], [⟨.val (.leaf .bool), [], []⟩]⟩
noncomputable def nt : Notes := ⟨[(2, ⟨[0, 3], []⟩)], [], [(4, [0, 1, 2, 3, 4, 5, 6, 7, 8, 9, 10, 11, 12, 13, 14, 15, 16, 17, 18, 19, 20, 21, 22, 23, 24, 25, 26, 27])], [], []⟩
noncomputable def cal0 {T : Type} (k : Nat) : List (FuncId × Hd T) := []
theorem cal0_ok {T : Type} (k : Nat) : HdsOk Try.prog (cal0 (T := T) k) := trivial
noncomputable def cal {T : Type} (k : Nat) : List (FuncId × Hd T) := cal0 k
theorem cal_ok {T : Type} (k : Nat) : HdsOk Try.prog (cal (T := T) k) := cal0_ok k
noncomputable abbrev la (k : Nat) (Rs : List (Fr → St → O (Bool))) (ds : List Dir) (j : Nat) : Fr → St → O (Bool) := loopAt tab (calOf (cal k)) Go.Proofs.Try.f45.ntmps nt k Rs ds (bodyOf Go.Proofs.Try.f45) (finK tab Go.Proofs.Try.f45.results.toList (fun v st => outK ct.ob (γ0 ct) ct.outs v st .ok) (fun e st => outP ct.ob (γ0 ct) ct.outs e st .ok)) j
noncomputable abbrev zl0 {α : Type} (X : Fr → St → α) (a0 : List Int) (v1 : Int) : α := X ⟨[(0, .osl 0), (3, .int .i64 v1)], [], 0, []⟩ ⟨1, true, [(0, .row false 3 [.int .i64] a0)]⟩
noncomputable def l0_b (k : Nat) (a0 : List Int) (R_l0 : Int → O Bool) (v1 : Int) : O Bool :=
  O.cond (decide (v1 < (List.length a0 : Int))) (
   O.chk (decide (0 ≤ v1 ∧ v1 < (List.length a0 : Int) ∧ (List.length a0 : Int) ≤ (List.length a0 : Int))) (
    O.chk (decide (0 ≤ v1 ∧ v1 < (List.length a0 : Int))) (
     O.cond (decide ((gt (0 : Int) a0 v1) < (0 : Int))) (
      .ok false) (
      O.chk (decide (0 ≤ v1 ∧ v1 < (List.length a0 : Int) ∧ (List.length a0 : Int) ≤ (List.length a0 : Int))) (
       O.chk (decide (0 ≤ v1 ∧ v1 < (List.length a0 : Int))) (
        O.cond (decide ((gt (0 : Int) a0 v1) > (4094 : Int))) (
         .ok false) (
         O.cond (decide (v1 > (0 : Int))) (
          O.chk (decide (0 ≤ v1 ∧ v1 < (List.length a0 : Int) ∧ (List.length a0 : Int) ≤ (List.length a0 : Int))) (
           O.chk (decide (0 ≤ v1 ∧ v1 < (List.length a0 : Int))) (
            O.chk (decide (0 ≤ (IntKind.i64.wrap (v1 - (1 : Int))) ∧ (IntKind.i64.wrap (v1 - (1 : Int))) < (List.length a0 : Int) ∧ (List.length a0 : Int) ≤ (List.length a0 : Int))) (
             O.chk (decide (0 ≤ (IntKind.i64.wrap (v1 - (1 : Int))) ∧ (IntKind.i64.wrap (v1 - (1 : Int))) < (List.length a0 : Int))) (
              O.cond (decide ((gt (0 : Int) a0 v1) ≤ (gt (0 : Int) a0 (IntKind.i64.wrap (v1 - (1 : Int)))))) (
               .ok false) (
               R_l0 (IntKind.i64.wrap (v1 + (1 : Int))))))))) (
          R_l0 (IntKind.i64.wrap (v1 + (1 : Int))))))))))) (
   .ok true)
noncomputable def l0 (k : Nat) (a0 : List Int) : Nat → Int → O Bool
  | 0, _ => .no
  | j + 1, v1 => l0_b k a0 (l0 k a0 j) v1
theorem l0_eq (k : Nat) (a0 : List Int) : ∀ (j : Nat) (v1 : Int), zl0 (la k [] [.r, .l, .r, .b] j) a0 v1 = l0 k a0 j v1 := by
  intro j
  induction j with
  | zero => intro v1; rfl
  | succ j ih =>
    intro v1
    have rs : (fun (v1' : Int) => zl0 (la k [] [.r, .l, .r, .b] j) a0 v1') = l0 k a0 j := by funext v1'; exact ih v1'
    have h : zl0 (la k [] [.r, .l, .r, .b] (j + 1)) a0 v1 = l0_b k a0 ((fun (v1' : Int) => zl0 (la k [] [.r, .l, .r, .b] j) a0 v1')) v1 := by kernel_rfl
    exact h.trans (by rw [rs]; rfl)
noncomputable def top (k : Nat) (a0 : List Int) (D_l0 : Int → O Bool) : O Bool :=
  D_l0 (0 : Int)
noncomputable def S (k : Nat) (a0 : List Int) : O Bool := top k a0 ((fun (v1 : Int) => l0 k a0 k v1))
theorem eq (k : Nat) (a0 : List Int) : evFn (T := Bool) tab (calOf (cal k)) Go.Proofs.Try.f45 nt k 0 [.osl 0] [] ⟨1, false, [(0, .row false 3 [.int .i64] a0)]⟩ (fun v st => outK ct.ob (γ0 ct) ct.outs v st .ok) (fun e st => outP ct.ob (γ0 ct) ct.outs e st .ok) = S k a0 := by
  have e0 : (fun (v1 : Int) => zl0 (la k [] [.r, .l, .r, .b] k) a0 v1) = (fun (v1 : Int) => l0 k a0 k v1) := by funext v1; exact l0_eq k a0 k v1
  have h : evFn (T := Bool) tab (calOf (cal k)) Go.Proofs.Try.f45 nt k 0 [.osl 0] [] ⟨1, false, [(0, .row false 3 [.int .i64] a0)]⟩ (fun v st => outK ct.ob (γ0 ct) ct.outs v st .ok) (fun e st => outP ct.ob (γ0 ct) ct.outs e st .ok) = top k a0 ((fun (v1 : Int) => zl0 (la k [] [.r, .l, .r, .b] k) a0 v1)) := by kernel_rfl
  exact h.trans (by rw [e0]; rfl)
theorem ok (k : Nat) : FnOkC Try.prog 45 ct (fun (x : List Int) (_ : Unit) => S k x) :=
  FnOkC.of_ev (C := ct) tab_ok rfl (calOf_ok (cal_ok k)) mixed Try.func45 nt k (fun _ _ => rfl) (fun (x : List Int) (_ : Unit) => eq k x)
theorem hd {T : Type} (k : Nat) : HdOk Try.prog 45 (pureC (T := T) ct [] (fun (x : List Int) (_ : Unit) => S k x)) :=
  pureC_ok rfl [] (ok k) Try.call45
end F_aqueductref16_Nets
namespace F_aqueductref18_New
/-! ### aqueduct/aqueductref18.New: function 46 -/
noncomputable def ct : Ct := ⟨.some (.cons (.leaf (.int .i64)) (.one (.leaf (.int .i64)) [])), [], [⟨.tup (.pin (.nil) (.one (.leaf (.int .i64)) [])), [], []⟩, ⟨.tup (.pin (.ref 0) (.one (.leaf (.int .i64)) [])), [(125, .cons (.leaf (.int .i64)) (.cons (.leaf (.int .i64)) (.one (.row true 111 [.int .i64, .str, .int .i64, .int .i64]) [])))], [.arg 0 0]⟩]⟩
noncomputable def nt : Notes := ⟨[], [], [], [], []⟩
noncomputable def cal0 {T : Type} (k : Nat) : List (FuncId × Hd T) := []
theorem cal0_ok {T : Type} (k : Nat) : HdsOk Try.prog (cal0 (T := T) k) := trivial
noncomputable def cal {T : Type} (k : Nat) : List (FuncId × Hd T) := cal0 k
theorem cal_ok {T : Type} (k : Nat) : HdsOk Try.prog (cal (T := T) k) := cal0_ok k
noncomputable def S (k : Nat) (a0 : Int) (a1 : Int) : O (Int ⊕ (Int × Int × Int × (List (Int × ByteArray × Int × Int)))) :=
  O.cond (decide (a0 < (1 : Int))) (
   .ok (.inl (180 : Int))) (
   O.cond (decide (a0 > (1024 : Int))) (
    .ok (.inl (180 : Int))) (
    O.cond (decide (a1 < (1 : Int))) (
     .ok (.inl (180 : Int))) (
     O.cond (decide (a1 > (65535 : Int))) (
      .ok (.inl (180 : Int))) (
      .ok (.inr ((0 : Int), (a0, a1, [])))))))
theorem eq (k : Nat) (a0 : Int) (a1 : Int) : evFn (T := Int ⊕ (Int × Int × Int × (List (Int × ByteArray × Int × Int)))) tab (calOf (cal k)) Go.Proofs.Try.f46 nt k 0 [.int .i64 a0, .int .i64 a1] [] ⟨0, false, []⟩ (fun v st => outK ct.ob (γ0 ct) ct.outs v st .ok) (fun e st => outP ct.ob (γ0 ct) ct.outs e st .ok) = S k a0 a1 := by kernel_rfl
theorem ok (k : Nat) : FnOkC Try.prog 46 ct (fun (x : Int × Int) (_ : Unit) => S k x.1 x.2) :=
  FnOkC.of_ev (C := ct) tab_ok rfl (calOf_ok (cal_ok k)) mixed Try.func46 nt k (fun _ _ => rfl) (fun (x : Int × Int) (_ : Unit) => eq k x.1 x.2)
theorem hd {T : Type} (k : Nat) : HdOk Try.prog 46 (pureC (T := T) ct [] (fun (x : Int × Int) (_ : Unit) => S k x.1 x.2)) :=
  pureC_ok rfl [] (ok k) Try.call46
end F_aqueductref18_New
namespace F_aqueductref19_New
/-! ### aqueduct/aqueductref19.New: function 47 -/
noncomputable def ct : Ct := ⟨.some (.one (.leaf (.int .i64)) []), [], [⟨.tup (.pin (.nil) (.one (.leaf (.int .i64)) [])), [], []⟩, ⟨.tup (.pin (.ref 0) (.one (.leaf (.int .i64)) [])), [(127, .cons (.row true 9 [.str]) (.cons (.leaf (.int .i64)) (.one (.leaf (.int .i64)) [])))], [.arg 0 0]⟩]⟩
noncomputable def nt : Notes := ⟨[], [], [], [], []⟩
noncomputable def cal0 {T : Type} (k : Nat) : List (FuncId × Hd T) := []
theorem cal0_ok {T : Type} (k : Nat) : HdsOk Try.prog (cal0 (T := T) k) := trivial
noncomputable def cal {T : Type} (k : Nat) : List (FuncId × Hd T) := cal0 k
theorem cal_ok {T : Type} (k : Nat) : HdsOk Try.prog (cal (T := T) k) := cal0_ok k
noncomputable def S (k : Nat) (a0 : Int) : O (Int ⊕ (Int × List ByteArray × Int × Int)) :=
  O.cond (decide (a0 < (1 : Int))) (
   .ok (.inl (190 : Int))) (
   O.cond (decide (a0 > (1024 : Int))) (
    .ok (.inl (190 : Int))) (
    .ok (.inr ((0 : Int), ([], a0, (0 : Int))))))
theorem eq (k : Nat) (a0 : Int) : evFn (T := Int ⊕ (Int × List ByteArray × Int × Int)) tab (calOf (cal k)) Go.Proofs.Try.f47 nt k 0 [.int .i64 a0] [] ⟨0, false, []⟩ (fun v st => outK ct.ob (γ0 ct) ct.outs v st .ok) (fun e st => outP ct.ob (γ0 ct) ct.outs e st .ok) = S k a0 := by kernel_rfl
theorem ok (k : Nat) : FnOkC Try.prog 47 ct (fun (x : Int) (_ : Unit) => S k x) :=
  FnOkC.of_ev (C := ct) tab_ok rfl (calOf_ok (cal_ok k)) mixed Try.func47 nt k (fun _ _ => rfl) (fun (x : Int) (_ : Unit) => eq k x)
theorem hd {T : Type} (k : Nat) : HdOk Try.prog 47 (pureC (T := T) ct [] (fun (x : Int) (_ : Unit) => S k x)) :=
  pureC_ok rfl [] (ok k) Try.call47
end F_aqueductref19_New
namespace F_aqueductref20_New
/-! ### aqueduct/aqueductref20.New: function 22 -/
noncomputable def ct : Ct := ⟨.some (.cons (.tab false 55 (.cons (.leaf (.int .i64)) (.one (.row false 3 [.int .i64]) []))) (.cons (.leaf (.int .i64)) (.cons (.leaf (.int .i64)) (.one (.leaf (.int .i64)) [])))), [], [⟨.tup (.pin (.nil) (.one (.leaf (.int .i64)) [])), [], []⟩, ⟨.tup (.pin (.ref 0) (.one (.leaf (.int .i64)) [])), [(44, .cons (.tab false 55 (.cons (.leaf (.int .i64)) (.one (.row false 3 [.int .i64]) []))) (.pin (.ref 1) (.cons (.tab true 97 (.one (.box 127 (.cons (.row true 9 [.str]) (.cons (.leaf (.int .i64)) (.one (.leaf (.int .i64)) [])))) [])) (.one (.agg (.cons (.leaf (.int .i64)) (.cons (.leaf (.int .i64)) (.cons (.leaf (.int .i64)) (.cons (.leaf (.int .i64)) (.cons (.leaf (.int .i64)) (.one (.leaf (.int .i64)) []))))))) [])))), (125, .cons (.leaf (.int .i64)) (.cons (.leaf (.int .i64)) (.one (.row true 111 [.int .i64, .str, .int .i64, .int .i64]) [])))], [.arg 0 0, .fld 0 1]⟩]⟩
noncomputable def nt : Notes := ⟨[(3, ⟨[0, 1, 2, 3, 10, 11], []⟩), (13, ⟨[0, 3, 14, 15], [(.slot 14 [2], 97, .tb (.one (.box 127 (.cons (.row true 9 [.str]) (.cons (.leaf (.int .i64)) (.one (.leaf (.int .i64)) [])))) []))]⟩), (13, ⟨[0, 3, 14, 15], [(.slot 14 [2], 97, .tb (.one (.box 127 (.cons (.row true 9 [.str]) (.cons (.leaf (.int .i64)) (.one (.leaf (.int .i64)) [])))) []))]⟩)], [(2, ⟨[0, 1, 2, 3, 10], []⟩)], [], [], []⟩
noncomputable def cal0 {T : Type} (k : Nat) : List (FuncId × Hd T) := [(45, pureC F_aqueductref16_Nets.ct [] (fun (x : List Int) (_ : Unit) => F_aqueductref16_Nets.S k x)), (46, pureC F_aqueductref18_New.ct [] (fun (x : Int × Int) (_ : Unit) => F_aqueductref18_New.S k x.1 x.2)), (47, pureC F_aqueductref19_New.ct [] (fun (x : Int) (_ : Unit) => F_aqueductref19_New.S k x))]
theorem cal0_ok {T : Type} (k : Nat) : HdsOk Try.prog (cal0 (T := T) k) := ⟨F_aqueductref16_Nets.hd k, F_aqueductref18_New.hd k, F_aqueductref19_New.hd k, trivial⟩
noncomputable def cal {T : Type} (k : Nat) : List (FuncId × Hd T) := cal0 k
theorem cal_ok {T : Type} (k : Nat) : HdsOk Try.prog (cal (T := T) k) := cal0_ok k
noncomputable abbrev la (k : Nat) (Rs : List (Fr → St → O (Int ⊕ TY10))) (ds : List Dir) (j : Nat) : Fr → St → O (Int ⊕ TY10) := loopAt tab (calOf (cal k)) Go.Proofs.Try.f22.ntmps nt k Rs ds (bodyOf Go.Proofs.Try.f22) (finK tab Go.Proofs.Try.f22.results.toList (fun v st => outK ct.ob (γ0 ct) ct.outs v st .ok) (fun e st => outP ct.ob (γ0 ct) ct.outs e st .ok)) j
noncomputable abbrev ca (k : Nat) (Rs : List (Fr → St → O (Int ⊕ TY10))) (ds : List Dir) : Fr → St → O (Int ⊕ TY10) := codeAt tab (calOf (cal k)) Go.Proofs.Try.f22.ntmps nt k Rs ds (bodyOf Go.Proofs.Try.f22) (finK tab Go.Proofs.Try.f22.results.toList (fun v st => outK ct.ob (γ0 ct) ct.outs v st .ok) (fun e st => outP ct.ob (γ0 ct) ct.outs e st .ok))
noncomputable abbrev zj1 {α : Type} (X : Fr → St → α) (a0 : List (Int × List Int)) (a1 : Int) (a2 : Int) (a3 : Int) (v1 : Bool) : α := X ⟨[(0, .osl 0), (1, .int .i64 a1), (2, .int .i64 a2), (3, .int .i64 a3), (10, .bool v1)], [], 0, []⟩ ⟨2, true, [(0, .tab false 55 [] 1 (.cons (.leaf (.int .i64)) (.one (.row false 3 [.int .i64]) [])) a0), (1, .ghost)]⟩
noncomputable abbrev zl1 {α : Type} (X : Fr → St → α) (a0 : List (Int × List Int)) (a1 : Int) (a2 : Int) (a3 : Int) (v8 : Bool) (v9 : Int) : α := X ⟨[(0, .osl 0), (1, .int .i64 a1), (2, .int .i64 a2), (3, .int .i64 a3), (10, .bool v8), (11, .int .i64 v9)], [], 0, []⟩ ⟨2, true, [(0, .tab false 55 [] 1 (.cons (.leaf (.int .i64)) (.one (.row false 3 [.int .i64]) [])) a0), (1, .ghost)]⟩
noncomputable abbrev zl2 {α : Type} (X : Fr → St → α) (a0 : List (Int × List Int)) (a3 : Int) (v20 : Int) (v21 : List TY7) : α := X ⟨[(0, .osl 0), (3, .int .i64 a3), (14, .ptr 1 0), (15, .int .i64 v20)], [], 0, []⟩ ⟨5, true, [(0, .tab false 55 [] 2 (.cons (.leaf (.int .i64)) (.one (.row false 3 [.int .i64]) [])) a0), (1, .cells 44 [.osl 0, .nilp, .osl 3, .int .i64 (0 : Int), .int .i64 (0 : Int), .int .i64 (0 : Int), .int .i64 (0 : Int), .int .i64 (0 : Int), .int .i64 (0 : Int)]), (2, .ghost), (3, .tab true 97 [] 4 (.one (.box 127 (.cons (.row true 9 [.str]) (.cons (.leaf (.int .i64)) (.one (.leaf (.int .i64)) [])))) []) v21), (4, .ghost)]⟩
noncomputable abbrev zl3 {α : Type} (X : Fr → St → α) (a0 : List (Int × List Int)) (a3 : Int) (r15 : Int × Int × Int × TY12) (v30 : Int) (v31 : List TY7) : α := X ⟨[(0, .osl 0), (3, .int .i64 a3), (14, .ptr 1 0), (15, .int .i64 v30)], [], 0, []⟩ ⟨7, true, [(0, .tab false 55 [] 2 (.cons (.leaf (.int .i64)) (.one (.row false 3 [.int .i64]) [])) a0), (1, .cells 44 [.osl 0, .ptr 3 0, .osl 4, .int .i64 (0 : Int), .int .i64 (0 : Int), .int .i64 (0 : Int), .int .i64 (0 : Int), .int .i64 (0 : Int), .int .i64 (0 : Int)]), (2, .ghost), (3, .cells 125 [.int .i64 r15.2.1, .int .i64 r15.2.2.1, .osl 5]), (4, .tab true 97 [] 6 (.one (.box 127 (.cons (.row true 9 [.str]) (.cons (.leaf (.int .i64)) (.one (.leaf (.int .i64)) [])))) []) v31), (5, .row true 111 [.int .i64, .str, .int .i64, .int .i64] r15.2.2.2), (6, .ghost)]⟩
noncomputable def l2_b (k : Nat) (a0 : List (Int × List Int)) (a3 : Int) (R_l1 : Bool → Int → O (Int ⊕ TY10)) (R_l2 : Int → TY5 → O (Int ⊕ TY10)) (v20 : Int) (v21 : List TY7) : O (Int ⊕ TY10) :=
  O.cond (decide (v20 < (List.length a0 : Int))) (
   O.sum (F_aqueductref19_New.S k a3) (fun r24 =>
    O.cond (decide (r24 ≠ (0 : Int))) (
     .ok (.inl r24)) (
     .no)) fun r25 =>
   O.cond (decide (r25.1 ≠ (0 : Int))) (
    .ok (.inl r25.1)) (
    O.chk (decide (List.length v21 + 1 ≤ 1073741824)) (
     R_l2 (IntKind.i64.wrap (v20 + (1 : Int))) (v21 ++ [r25.2])))) (
   .no)
noncomputable def l2 (k : Nat) (a0 : List (Int × List Int)) (a3 : Int) (R_l1 : Bool → Int → O (Int ⊕ TY10)) : Nat → Int → TY5 → O (Int ⊕ TY10)
  | 0, _, _ => .no
  | j + 1, v20, v21 => l2_b k a0 a3 R_l1 (l2 k a0 a3 R_l1 j) v20 v21
theorem l2_eq (k : Nat) (a0 : List (Int × List Int)) (a3 : Int) (a1 : Int) (a2 : Int) (RR_l1 : Fr → St → O (Int ⊕ TY10)) (R_l1 : Bool → Int → O (Int ⊕ TY10)) (hR_l1 : ∀ (v8' : Bool) (v9' : Int), zl1 RR_l1 a0 a1 a2 a3 v8' v9' = R_l1 v8' v9') : ∀ (j : Nat) (v20 : Int) (v21 : List TY7), zl2 (la k [] [.r, .r, .r, .r, .r, .r, .r, .l, .r, .b] j) a0 a3 v20 v21 = l2 k a0 a3 R_l1 j v20 v21 := by
  intro j
  induction j with
  | zero => intro v20 v21; rfl
  | succ j ih =>
    intro v20 v21
    have rs : (fun (v20' : Int) (v21' : List TY7) => zl2 (la k [] [.r, .r, .r, .r, .r, .r, .r, .l, .r, .b] j) a0 a3 v20' v21') = l2 k a0 a3 R_l1 j := by funext v20' v21'; exact ih v20' v21'
    have r0 : (fun (v8' : Bool) (v9' : Int) => zl1 RR_l1 a0 a1 a2 a3 v8' v9') = R_l1 := by funext v8' v9'; exact hR_l1 v8' v9'
    have h : zl2 (la k [] [.r, .r, .r, .r, .r, .r, .r, .l, .r, .b] (j + 1)) a0 a3 v20 v21 = l2_b k a0 a3 ((fun (v8' : Bool) (v9' : Int) => zl1 RR_l1 a0 a1 a2 a3 v8' v9')) ((fun (v20' : Int) (v21' : List TY7) => zl2 (la k [] [.r, .r, .r, .r, .r, .r, .r, .l, .r, .b] j) a0 a3 v20' v21')) v20 v21 := by kernel_rfl
    exact h.trans (by rw [rs, r0]; rfl)
noncomputable def l3_b (k : Nat) (a0 : List (Int × List Int)) (a3 : Int) (r15 : Int × Int × Int × TY12) (R_l1 : Bool → Int → O (Int ⊕ TY10)) (R_l3 : Int → TY5 → O (Int ⊕ TY10)) (v30 : Int) (v31 : List TY7) : O (Int ⊕ TY10) :=
  O.cond (decide (v30 < (List.length a0 : Int))) (
   O.sum (F_aqueductref19_New.S k a3) (fun r34 =>
    O.cond (decide (r34 ≠ (0 : Int))) (
     .ok (.inl r34)) (
     .no)) fun r35 =>
   O.cond (decide (r35.1 ≠ (0 : Int))) (
    .ok (.inl r35.1)) (
    O.chk (decide (List.length v31 + 1 ≤ 1073741824)) (
     R_l3 (IntKind.i64.wrap (v30 + (1 : Int))) (v31 ++ [r35.2])))) (
   .ok (.inr ((0 : Int), ((a0, v31, ((0 : Int), (0 : Int), (0 : Int), (0 : Int), (0 : Int), (0 : Int))), r15.2))))
noncomputable def l3 (k : Nat) (a0 : List (Int × List Int)) (a3 : Int) (r15 : Int × Int × Int × TY12) (R_l1 : Bool → Int → O (Int ⊕ TY10)) : Nat → Int → TY5 → O (Int ⊕ TY10)
  | 0, _, _ => .no
  | j + 1, v30, v31 => l3_b k a0 a3 r15 R_l1 (l3 k a0 a3 r15 R_l1 j) v30 v31
theorem l3_eq (k : Nat) (a0 : List (Int × List Int)) (a3 : Int) (r15 : Int × Int × Int × TY12) (a1 : Int) (a2 : Int) (RR_l1 : Fr → St → O (Int ⊕ TY10)) (R_l1 : Bool → Int → O (Int ⊕ TY10)) (hR_l1 : ∀ (v8' : Bool) (v9' : Int), zl1 RR_l1 a0 a1 a2 a3 v8' v9' = R_l1 v8' v9') : ∀ (j : Nat) (v30 : Int) (v31 : List TY7), zl3 (la k [] [.r, .r, .r, .r, .r, .r, .r, .l, .r, .b] j) a0 a3 r15 v30 v31 = l3 k a0 a3 r15 R_l1 j v30 v31 := by
  intro j
  induction j with
  | zero => intro v30 v31; rfl
  | succ j ih =>
    intro v30 v31
    have rs : (fun (v30' : Int) (v31' : List TY7) => zl3 (la k [] [.r, .r, .r, .r, .r, .r, .r, .l, .r, .b] j) a0 a3 r15 v30' v31') = l3 k a0 a3 r15 R_l1 j := by funext v30' v31'; exact ih v30' v31'
    have r0 : (fun (v8' : Bool) (v9' : Int) => zl1 RR_l1 a0 a1 a2 a3 v8' v9') = R_l1 := by funext v8' v9'; exact hR_l1 v8' v9'
    have h : zl3 (la k [] [.r, .r, .r, .r, .r, .r, .r, .l, .r, .b] (j + 1)) a0 a3 r15 v30 v31 = l3_b k a0 a3 r15 ((fun (v8' : Bool) (v9' : Int) => zl1 RR_l1 a0 a1 a2 a3 v8' v9')) ((fun (v30' : Int) (v31' : List TY7) => zl3 (la k [] [.r, .r, .r, .r, .r, .r, .r, .l, .r, .b] j) a0 a3 r15 v30' v31')) v30 v31 := by kernel_rfl
    exact h.trans (by rw [rs, r0]; rfl)
noncomputable def l1_b (k : Nat) (a0 : List (Int × List Int)) (a1 : Int) (a2 : Int) (a3 : Int) (R_l1 : Bool → Int → O (Int ⊕ TY10)) (D_l2 : Int → TY5 → O (Int ⊕ TY10)) (D_l3 : (Int × Int × Int × TY12) → Int → TY5 → O (Int ⊕ TY10)) (v8 : Bool) (v9 : Int) : O (Int ⊕ TY10) :=
  O.cond (decide (v9 < (List.length a0 : Int))) (
   O.cond v8 (
    O.chk (decide (0 ≤ v9 ∧ v9 < (List.length a0 : Int))) (
     O.chk (decide (0 ≤ v9 ∧ v9 < (List.length a0 : Int))) (
      O.cond (decide ((gt ((0 : Int), []) a0 v9).1 ≥ (0 : Int))) (
       O.chk (decide (0 ≤ v9 ∧ v9 < (List.length a0 : Int))) (
        O.chk (decide (0 ≤ v9 ∧ v9 < (List.length a0 : Int))) (
         O.cond (decide ((gt ((0 : Int), []) a0 v9).1 ≤ (4094 : Int))) (
          O.chk (decide (0 ≤ v9 ∧ v9 < (List.length a0 : Int))) (
           O.chk (decide (0 ≤ v9 ∧ v9 < (List.length a0 : Int))) (
            O.bind (F_aqueductref16_Nets.S k ((gt ((0 : Int), []) a0 v9).2)) fun r11 =>
            R_l1 r11 (IntKind.i64.wrap (v9 + (1 : Int)))))) (
          R_l1 false (IntKind.i64.wrap (v9 + (1 : Int))))))) (
       R_l1 false (IntKind.i64.wrap (v9 + (1 : Int))))))) (
    R_l1 false (IntKind.i64.wrap (v9 + (1 : Int))))) (
   O.cond (!v8) (
    .ok (.inl (200 : Int))) (
    O.sum (F_aqueductref18_New.S k a1 a2) (fun r14 =>
     O.cond (decide (r14 ≠ (0 : Int))) (
      .ok (.inl r14)) (
      D_l2 (0 : Int) [])) fun r15 =>
    O.cond (decide (r15.1 ≠ (0 : Int))) (
     .ok (.inl r15.1)) (
     D_l3 r15 (0 : Int) [])))
noncomputable def l1 (k : Nat) (a0 : List (Int × List Int)) (a1 : Int) (a2 : Int) (a3 : Int) : Nat → Bool → Int → O (Int ⊕ TY10)
  | 0, _, _ => .no
  | j + 1, v8, v9 => l1_b k a0 a1 a2 a3 (l1 k a0 a1 a2 a3 j) ((fun (v20 : Int) (v21 : List TY7) => l2 k a0 a3 (l1 k a0 a1 a2 a3 j) k v20 v21)) ((fun (r15 : Int × Int × Int × TY12) (v30 : Int) (v31 : List TY7) => l3 k a0 a3 r15 (l1 k a0 a1 a2 a3 j) k v30 v31)) v8 v9
theorem l1_eq (k : Nat) (a0 : List (Int × List Int)) (a1 : Int) (a2 : Int) (a3 : Int) : ∀ (j : Nat) (v8 : Bool) (v9 : Int), zl1 (la k [] [.r, .r, .l, .r, .b] j) a0 a1 a2 a3 v8 v9 = l1 k a0 a1 a2 a3 j v8 v9 := by
  intro j
  induction j with
  | zero => intro v8 v9; rfl
  | succ j ih =>
    intro v8 v9
    have rs : (fun (v8' : Bool) (v9' : Int) => zl1 (la k [] [.r, .r, .l, .r, .b] j) a0 a1 a2 a3 v8' v9') = l1 k a0 a1 a2 a3 j := by funext v8' v9'; exact ih v8' v9'
    have e0 : (fun (v20 : Int) (v21 : List TY7) => zl2 (la k [] [.r, .r, .r, .r, .r, .r, .r, .l, .r, .b] k) a0 a3 v20 v21) = (fun (v20 : Int) (v21 : List TY7) => l2 k a0 a3 (l1 k a0 a1 a2 a3 j) k v20 v21) := by funext v20 v21; exact l2_eq k a0 a3 a1 a2 (la k [] [.r, .r, .l, .r, .b] j) (l1 k a0 a1 a2 a3 j) (fun v8 v9 => ih v8 v9) k v20 v21
    have e1 : (fun (r15 : Int × Int × Int × TY12) (v30 : Int) (v31 : List TY7) => zl3 (la k [] [.r, .r, .r, .r, .r, .r, .r, .l, .r, .b] k) a0 a3 r15 v30 v31) = (fun (r15 : Int × Int × Int × TY12) (v30 : Int) (v31 : List TY7) => l3 k a0 a3 r15 (l1 k a0 a1 a2 a3 j) k v30 v31) := by funext r15 v30 v31; exact l3_eq k a0 a3 r15 a1 a2 (la k [] [.r, .r, .l, .r, .b] j) (l1 k a0 a1 a2 a3 j) (fun v8 v9 => ih v8 v9) k v30 v31
    have h : zl1 (la k [] [.r, .r, .l, .r, .b] (j + 1)) a0 a1 a2 a3 v8 v9 = l1_b k a0 a1 a2 a3 ((fun (v8' : Bool) (v9' : Int) => zl1 (la k [] [.r, .r, .l, .r, .b] j) a0 a1 a2 a3 v8' v9')) ((fun (v20 : Int) (v21 : List TY7) => zl2 (la k [] [.r, .r, .r, .r, .r, .r, .r, .l, .r, .b] k) a0 a3 v20 v21)) ((fun (r15 : Int × Int × Int × TY12) (v30 : Int) (v31 : List TY7) => zl3 (la k [] [.r, .r, .r, .r, .r, .r, .r, .l, .r, .b] k) a0 a3 r15 v30 v31)) v8 v9 := by kernel_rfl
    exact h.trans (by rw [rs, e0, e1]; rfl)
noncomputable def j1_b (k : Nat) (a0 : List (Int × List Int)) (a1 : Int) (a2 : Int) (a3 : Int) (D_l1 : Bool → Int → O (Int ⊕ TY10)) (v1 : Bool) : O (Int ⊕ TY10) :=
  D_l1 v1 (0 : Int)
noncomputable def j1 (k : Nat) (a0 : List (Int × List Int)) (a1 : Int) (a2 : Int) (a3 : Int) (v1 : Bool) : O (Int ⊕ TY10) := j1_b k a0 a1 a2 a3 ((fun (v8 : Bool) (v9 : Int) => l1 k a0 a1 a2 a3 k v8 v9)) v1
theorem j1_eq (k : Nat) (a0 : List (Int × List Int)) (a1 : Int) (a2 : Int) (a3 : Int) (v1 : Bool) : zj1 (ca k [] [.r, .r]) a0 a1 a2 a3 v1 = j1 k a0 a1 a2 a3 v1 := by
    have e0 : (fun (v8 : Bool) (v9 : Int) => zl1 (la k [] [.r, .r, .l, .r, .b] k) a0 a1 a2 a3 v8 v9) = (fun (v8 : Bool) (v9 : Int) => l1 k a0 a1 a2 a3 k v8 v9) := by funext v8 v9; exact l1_eq k a0 a1 a2 a3 k v8 v9
    have h : zj1 (ca k [] [.r, .r]) a0 a1 a2 a3 v1 = j1_b k a0 a1 a2 a3 ((fun (v8 : Bool) (v9 : Int) => zl1 (la k [] [.r, .r, .l, .r, .b] k) a0 a1 a2 a3 v8 v9)) v1 := (codeAt_eq _ _ _ _ _ _ _ _ _ _ _).trans (by show _ = _; kernel_rfl)
    exact h.trans (by rw [e0]; rfl)
noncomputable def top (k : Nat) (a0 : List (Int × List Int)) (a1 : Int) (a2 : Int) (a3 : Int) (D_j1 : Bool → O (Int ⊕ TY10)) : O (Int ⊕ TY10) :=
  O.cond (decide ((List.length a0 : Int) ≥ (1 : Int))) (
   D_j1 (decide ((List.length a0 : Int) ≤ (16 : Int)))) (
   D_j1 false)
noncomputable def S (k : Nat) (a0 : List (Int × List Int)) (a1 : Int) (a2 : Int) (a3 : Int) : O (Int ⊕ TY10) := top k a0 a1 a2 a3 ((fun (v1 : Bool) => j1 k a0 a1 a2 a3 v1))
theorem eq (k : Nat) (a0 : List (Int × List Int)) (a1 : Int) (a2 : Int) (a3 : Int) : evFn (T := Int ⊕ TY10) tab (calOf (cal k)) Go.Proofs.Try.f22 nt k 0 [.osl 1, .int .i64 a1, .int .i64 a2, .int .i64 a3] [] ⟨2, false, [(1, .tab false 55 [] 0 (.cons (.leaf (.int .i64)) (.one (.row false 3 [.int .i64]) [])) a0), (0, .ghost)]⟩ (fun v st => outK ct.ob (γ0 ct) ct.outs v st .ok) (fun e st => outP ct.ob (γ0 ct) ct.outs e st .ok) = S k a0 a1 a2 a3 := by
  have e0 : (fun (v1 : Bool) => zj1 (ca k [] [.r, .r]) a0 a1 a2 a3 v1) = (fun (v1 : Bool) => j1 k a0 a1 a2 a3 v1) := by funext v1; exact j1_eq k a0 a1 a2 a3 v1
  have h : evFn (T := Int ⊕ TY10) tab (calOf (cal k)) Go.Proofs.Try.f22 nt k 0 [.osl 1, .int .i64 a1, .int .i64 a2, .int .i64 a3] [] ⟨2, false, [(1, .tab false 55 [] 0 (.cons (.leaf (.int .i64)) (.one (.row false 3 [.int .i64]) [])) a0), (0, .ghost)]⟩ (fun v st => outK ct.ob (γ0 ct) ct.outs v st .ok) (fun e st => outP ct.ob (γ0 ct) ct.outs e st .ok) = top k a0 a1 a2 a3 ((fun (v1 : Bool) => zj1 (ca k [] [.r, .r]) a0 a1 a2 a3 v1)) := by kernel_rfl
  exact h.trans (by rw [e0]; rfl)
theorem ok (k : Nat) : FnOkC Try.prog 22 ct (fun (x : TY8 × Int × Int × Int) (_ : Unit) => S k x.1 x.2.1 x.2.2.1 x.2.2.2) :=
  FnOkC.of_ev (C := ct) tab_ok rfl (calOf_ok (cal_ok k)) mixed Try.func22 nt k (fun _ _ => rfl) (fun (x : TY8 × Int × Int × Int) (_ : Unit) => eq k x.1 x.2.1 x.2.2.1 x.2.2.2)
theorem hd {T : Type} (k : Nat) : HdOk Try.prog 22 (pureC (T := T) ct [] (fun (x : TY8 × Int × Int × Int) (_ : Unit) => S k x.1 x.2.1 x.2.2.1 x.2.2.2)) :=
  pureC_ok rfl [] (ok k) Try.call22
end F_aqueductref20_New
namespace F_aqueductlaw20_laid
/-! ### aqueduct/aqueductlaw20.laid: function 8 -/
noncomputable def ct : Ct := ⟨.some (.one (.agg (.cons (.tab false 55 (.cons (.leaf (.int .i64)) (.one (.row false 3 [.int .i64]) []))) (.cons (.leaf (.int .i64)) (.cons (.leaf (.int .i64)) (.cons (.leaf (.int .i64)) (.one (.row false 31 [.int .i64, .int .i64, .str]) [])))))) []), [], [⟨.tup (.pin (.nil) (.pin (.nil) (.one (.leaf .bool) []))), [], []⟩, ⟨.tup (.pin (.nil) (.pin (.ref 0) (.one (.leaf .bool) []))), [(44, .cons (.tab false 55 (.cons (.leaf (.int .i64)) (.one (.row false 3 [.int .i64]) []))) (.pin (.ref 1) (.cons (.tab true 97 (.one (.box 127 (.cons (.row true 9 [.str]) (.cons (.leaf (.int .i64)) (.one (.leaf (.int .i64)) [])))) [])) (.one (.agg (.cons (.leaf (.int .i64)) (.cons (.leaf (.int .i64)) (.cons (.leaf (.int .i64)) (.cons (.leaf (.int .i64)) (.cons (.leaf (.int .i64)) (.one (.leaf (.int .i64)) []))))))) [])))), (125, .cons (.leaf (.int .i64)) (.cons (.leaf (.int .i64)) (.one (.row true 111 [.int .i64, .str, .int .i64, .int .i64]) [])))], [.arg 1 0, .fld 0 1]⟩, ⟨.tup (.pin (.ref 0) (.pin (.nil) (.one (.leaf .bool) []))), [(71, .cons (.tab false 55 (.cons (.leaf (.int .i64)) (.one (.row false 3 [.int .i64]) []))) (.pin (.ref 1) (.cons (.tab true 78 (.one (.box 121 (.cons (.row true 9 [.str]) (.cons (.leaf (.int .i64)) (.one (.leaf (.int .i64)) [])))) [])) (.one (.agg (.cons (.leaf (.int .i64)) (.cons (.leaf (.int .i64)) (.cons (.leaf (.int .i64)) (.cons (.leaf (.int .i64)) (.cons (.leaf (.int .i64)) (.one (.leaf (.int .i64)) []))))))) [])))), (115, .cons (.leaf (.int .i64)) (.cons (.leaf (.int .i64)) (.one (.map 113 true true [.int .i64, .str] [.int .i64, .str, .int .i64, .int .i64]) [])))], [.arg 0 0, .fld 0 1]⟩, ⟨.tup (.pin (.ref 0) (.pin (.ref 2) (.one (.leaf .bool) []))), [(71, .cons (.tab false 55 (.cons (.leaf (.int .i64)) (.one (.row false 3 [.int .i64]) []))) (.pin (.ref 1) (.cons (.tab true 78 (.one (.box 121 (.cons (.row true 9 [.str]) (.cons (.leaf (.int .i64)) (.one (.leaf (.int .i64)) [])))) [])) (.one (.agg (.cons (.leaf (.int .i64)) (.cons (.leaf (.int .i64)) (.cons (.leaf (.int .i64)) (.cons (.leaf (.int .i64)) (.cons (.leaf (.int .i64)) (.one (.leaf (.int .i64)) []))))))) [])))), (115, .cons (.leaf (.int .i64)) (.cons (.leaf (.int .i64)) (.one (.map 113 true true [.int .i64, .str] [.int .i64, .str, .int .i64, .int .i64]) []))), (44, .cons (.tab false 55 (.cons (.leaf (.int .i64)) (.one (.row false 3 [.int .i64]) []))) (.pin (.ref 3) (.cons (.tab true 97 (.one (.box 127 (.cons (.row true 9 [.str]) (.cons (.leaf (.int .i64)) (.one (.leaf (.int .i64)) [])))) [])) (.one (.agg (.cons (.leaf (.int .i64)) (.cons (.leaf (.int .i64)) (.cons (.leaf (.int .i64)) (.cons (.leaf (.int .i64)) (.cons (.leaf (.int .i64)) (.one (.leaf (.int .i64)) []))))))) [])))), (125, .cons (.leaf (.int .i64)) (.cons (.leaf (.int .i64)) (.one (.row true 111 [.int .i64, .str, .int .i64, .int .i64]) [])))], [.arg 0 0, .fld 0 1, .arg 1 0, .fld 2 1]⟩]⟩
noncomputable def nt : Notes := ⟨[(3, ⟨[1, 5, 6], []⟩)], [(6, ⟨[1, 5], []⟩)], [(5, [0, 1, 2, 3, 4, 5, 6, 7, 8, 9, 10, 11, 13, 14, 15, 16, 17, 12, 18, 19, 20, 21, 22, 23, 24, 25])], [], [(5, [], [], [35, 41])]⟩
noncomputable def cal0 {T : Type} (k : Nat) : List (FuncId × Hd T) := [(14, pureC F_bridge_New.ct [] (fun (x : TY8 × Int × Int × Int) (_ : Unit) => F_bridge_New.S k x.1 x.2.1 x.2.2.1 x.2.2.2)), (22, pureC F_aqueductref20_New.ct [] (fun (x : TY8 × Int × Int × Int) (_ : Unit) => F_aqueductref20_New.S k x.1 x.2.1 x.2.2.1 x.2.2.2))]
theorem cal0_ok {T : Type} (k : Nat) : HdsOk Try.prog (cal0 (T := T) k) := ⟨F_bridge_New.hd k, F_aqueductref20_New.hd k, trivial⟩
noncomputable def cal {T : Type} (k : Nat) : List (FuncId × Hd T) := cal0 k
theorem cal_ok {T : Type} (k : Nat) : HdsOk Try.prog (cal (T := T) k) := cal0_ok k
noncomputable abbrev la (k : Nat) (Rs : List (Fr → St → O (Bool ⊕ TY16 ⊕ TY15 ⊕ TY14))) (ds : List Dir) (j : Nat) : Fr → St → O (Bool ⊕ TY16 ⊕ TY15 ⊕ TY14) := loopAt tab (calOf (cal k)) Go.Proofs.Try.f8.ntmps nt k Rs ds (bodyOf Go.Proofs.Try.f8) (finK tab Go.Proofs.Try.f8.results.toList (fun v st => outK ct.ob (γ0 ct) ct.outs v st .ok) (fun e st => outP ct.ob (γ0 ct) ct.outs e st .ok)) j
noncomputable abbrev ca (k : Nat) (Rs : List (Fr → St → O (Bool ⊕ TY16 ⊕ TY15 ⊕ TY14))) (ds : List Dir) : Fr → St → O (Bool ⊕ TY16 ⊕ TY15 ⊕ TY14) := codeAt tab (calOf (cal k)) Go.Proofs.Try.f8.ntmps nt k Rs ds (bodyOf Go.Proofs.Try.f8) (finK tab Go.Proofs.Try.f8.results.toList (fun v st => outK ct.ob (γ0 ct) ct.outs v st .ok) (fun e st => outP ct.ob (γ0 ct) ct.outs e st .ok))
noncomputable abbrev zl0 {α : Type} (X : Fr → St → α) (a0 : TY8 × Int × Int × Int × TY17) (v4 : Int) (v5 : List (Int × List Int)) : α := X ⟨[(1, .ptr 0 0), (5, .osl 1), (6, .int .i64 v4)], [], 0, []⟩ ⟨6, true, [(0, .cells 25 [.osl 2, .int .i64 a0.2.1, .int .i64 a0.2.2.1, .int .i64 a0.2.2.2.1, .osl 3]), (1, .tab true 55 [] 4 (.cons (.leaf (.int .i64)) (.one (.row false 3 [.int .i64]) [])) v5), (2, .tab false 55 [] 5 (.cons (.leaf (.int .i64)) (.one (.row false 3 [.int .i64]) [])) a0.1), (3, .row false 31 [.int .i64, .int .i64, .str] a0.2.2.2.2), (4, .ghost), (5, .ghost)]⟩
noncomputable abbrev zj2 {α : Type} (X : Fr → St → α) (a0 : TY8 × Int × Int × Int × TY17) (v3 : List (Int × List Int)) : α := X ⟨[(1, .ptr 0 0), (5, .osl 1)], [], 0, []⟩ ⟨6, true, [(0, .cells 25 [.osl 2, .int .i64 a0.2.1, .int .i64 a0.2.2.1, .int .i64 a0.2.2.2.1, .osl 3]), (1, .tab true 55 [] 4 (.cons (.leaf (.int .i64)) (.one (.row false 3 [.int .i64]) [])) v3), (2, .tab false 55 [] 5 (.cons (.leaf (.int .i64)) (.one (.row false 3 [.int .i64]) [])) a0.1), (3, .row false 31 [.int .i64, .int .i64, .str] a0.2.2.2.2), (4, .ghost), (5, .ghost)]⟩
noncomputable def j2_b (k : Nat) (a0 : TY8 × Int × Int × Int × TY17) (v3 : List (Int × List Int)) : O (Bool ⊕ TY16 ⊕ TY15 ⊕ TY14) :=
  O.sum (F_bridge_New.S k v3 a0.2.1 a0.2.2.1 a0.2.2.2.1) (fun r6 =>
   O.sum (F_aqueductref20_New.S k v3 a0.2.1 a0.2.2.1 a0.2.2.2.1) (fun r8 =>
    O.cond (decide (r6 = r8)) (
     .ok (.inl true)) (
     .ok (.inl false))) fun r9 =>
   O.cond (decide (r6 = r9.1)) (
    .ok (.inr (.inl (false, (r9.2.1, r9.2.2))))) (
    .ok (.inr (.inl (false, (r9.2.1, r9.2.2)))))) fun r7 =>
  O.sum (F_aqueductref20_New.S k v3 a0.2.1 a0.2.2.1 a0.2.2.2.1) (fun r10 =>
   O.cond (decide (r7.1 = r10)) (
    .ok (.inr (.inr (.inl (false, (r7.2.1, r7.2.2)))))) (
    .ok (.inr (.inr (.inl (false, (r7.2.1, r7.2.2))))))) fun r11 =>
  O.cond (decide (r7.1 = r11.1)) (
   .ok (.inr (.inr (.inr (true, (r7.2.1, r7.2.2, r11.2.1, r11.2.2)))))) (
   .ok (.inr (.inr (.inr (false, (r7.2.1, r7.2.2, r11.2.1, r11.2.2))))))
noncomputable def j2 (k : Nat) (a0 : TY8 × Int × Int × Int × TY17) (v3 : List (Int × List Int)) : O (Bool ⊕ TY16 ⊕ TY15 ⊕ TY14) := j2_b k a0 v3
theorem j2_eq (k : Nat) (a0 : TY8 × Int × Int × Int × TY17) (v3 : List (Int × List Int)) : zj2 (ca k [] [.r, .r, .r]) a0 v3 = j2 k a0 v3 := by
    have h : zj2 (ca k [] [.r, .r, .r]) a0 v3 = j2_b k a0 v3 := (codeAt_eq _ _ _ _ _ _ _ _ _ _ _).trans (by show _ = _; kernel_rfl)
    exact h.trans (by rfl)
noncomputable def l0_b (k : Nat) (a0 : TY8 × Int × Int × Int × TY17) (R_l0 : Int → TY8 → O (Bool ⊕ TY16 ⊕ TY15 ⊕ TY14)) (D_j2 : TY8 → O (Bool ⊕ TY16 ⊕ TY15 ⊕ TY14)) (v4 : Int) (v5 : List (Int × List Int)) : O (Bool ⊕ TY16 ⊕ TY15 ⊕ TY14) :=
  O.cond (decide (v4 < (List.length a0.1 : Int))) (
   O.cond (decide (v4 < (17 : Int))) (
    O.chk (decide (0 ≤ v4 ∧ v4 < (List.length a0.1 : Int))) (
     O.chk (decide (0 ≤ v4 ∧ v4 < (List.length a0.1 : Int))) (
      O.chk (decide (0 ≤ v4 ∧ v4 < (List.length a0.1 : Int))) (
       O.chk (decide (0 ≤ v4 ∧ v4 < (List.length a0.1 : Int))) (
        O.twice (
         O.chk (decide (0 ≤ v4 ∧ v4 < (List.length a0.1 : Int))) (
          O.chk (decide (0 ≤ v4 ∧ v4 < (List.length a0.1 : Int))) (
           O.chk (decide (0 ≤ (min (List.length ((gt ((0 : Int), []) a0.1 v4).2) : Int) (20 : Int)) ∧ (min (List.length ((gt ((0 : Int), []) a0.1 v4).2) : Int) (20 : Int)) ≤ (List.length ((gt ((0 : Int), []) a0.1 v4).2) : Int)) && (decide (0 ≤ (List.length ((gt ((0 : Int), []) a0.1 v4).2) : Int) ∧ (List.length ((gt ((0 : Int), []) a0.1 v4).2) : Int) ≤ (List.length ((gt ((0 : Int), []) a0.1 v4).2) : Int)))) (
            O.chk (decide (0 ≤ (min (List.length ((gt ((0 : Int), []) a0.1 v4).2) : Int) (20 : Int)) ∧ (min (List.length ((gt ((0 : Int), []) a0.1 v4).2) : Int) (20 : Int)) ≤ (List.length ((gt ((0 : Int), []) a0.1 v4).2) : Int))) (
             O.chk (decide (List.length v5 + 1 ≤ 1073741824)) (
              R_l0 (IntKind.i64.wrap (v4 + (1 : Int))) (v5 ++ [((gt ((0 : Int), []) a0.1 v4).1, (sub ((gt ((0 : Int), []) a0.1 v4).2) (sumI []) (min (List.length ((gt ((0 : Int), []) a0.1 v4).2) : Int) (20 : Int))))])))))))))))) (
    D_j2 v5)) (
   D_j2 v5)
noncomputable def l0 (k : Nat) (a0 : TY8 × Int × Int × Int × TY17) : Nat → Int → TY8 → O (Bool ⊕ TY16 ⊕ TY15 ⊕ TY14)
  | 0, _, _ => .no
  | j + 1, v4, v5 => l0_b k a0 (l0 k a0 j) ((fun (v3 : List (Int × List Int)) => j2 k a0 v3)) v4 v5
theorem l0_eq (k : Nat) (a0 : TY8 × Int × Int × Int × TY17) : ∀ (j : Nat) (v4 : Int) (v5 : List (Int × List Int)), zl0 (la k [] [.r, .r, .l, .r, .b] j) a0 v4 v5 = l0 k a0 j v4 v5 := by
  intro j
  induction j with
  | zero => intro v4 v5; rfl
  | succ j ih =>
    intro v4 v5
    have rs : (fun (v4' : Int) (v5' : List (Int × List Int)) => zl0 (la k [] [.r, .r, .l, .r, .b] j) a0 v4' v5') = l0 k a0 j := by funext v4' v5'; exact ih v4' v5'
    have e0 : (fun (v3 : List (Int × List Int)) => zj2 (ca k [] [.r, .r, .r]) a0 v3) = (fun (v3 : List (Int × List Int)) => j2 k a0 v3) := by funext v3; exact j2_eq k a0 v3
    have h : zl0 (la k [] [.r, .r, .l, .r, .b] (j + 1)) a0 v4 v5 = l0_b k a0 ((fun (v4' : Int) (v5' : List (Int × List Int)) => zl0 (la k [] [.r, .r, .l, .r, .b] j) a0 v4' v5')) ((fun (v3 : List (Int × List Int)) => zj2 (ca k [] [.r, .r, .r]) a0 v3)) v4 v5 := by kernel_rfl
    exact h.trans (by rw [rs, e0]; rfl)
noncomputable def top (k : Nat) (a0 : TY8 × Int × Int × Int × TY17) (D_l0 : Int → TY8 → O (Bool ⊕ TY16 ⊕ TY15 ⊕ TY14)) : O (Bool ⊕ TY16 ⊕ TY15 ⊕ TY14) :=
  D_l0 (0 : Int) []
noncomputable def S (k : Nat) (a0 : TY8 × Int × Int × Int × TY17) : O (Bool ⊕ TY16 ⊕ TY15 ⊕ TY14) := top k a0 ((fun (v4 : Int) (v5 : List (Int × List Int)) => l0 k a0 k v4 v5))
theorem eq (k : Nat) (a0 : TY8 × Int × Int × Int × TY17) : evFn (T := Bool ⊕ TY16 ⊕ TY15 ⊕ TY14) tab (calOf (cal k)) Go.Proofs.Try.f8 nt k 0 [.agg [.osl 1, .int .i64 a0.2.1, .int .i64 a0.2.2.1, .int .i64 a0.2.2.2.1, .osl 2]] [] ⟨3, false, [(2, .row false 31 [.int .i64, .int .i64, .str] a0.2.2.2.2), (1, .tab false 55 [] 0 (.cons (.leaf (.int .i64)) (.one (.row false 3 [.int .i64]) [])) a0.1), (0, .ghost)]⟩ (fun v st => outK ct.ob (γ0 ct) ct.outs v st .ok) (fun e st => outP ct.ob (γ0 ct) ct.outs e st .ok) = S k a0 := by
  have e0 : (fun (v4 : Int) (v5 : List (Int × List Int)) => zl0 (la k [] [.r, .r, .l, .r, .b] k) a0 v4 v5) = (fun (v4 : Int) (v5 : List (Int × List Int)) => l0 k a0 k v4 v5) := by funext v4 v5; exact l0_eq k a0 k v4 v5
  have h : evFn (T := Bool ⊕ TY16 ⊕ TY15 ⊕ TY14) tab (calOf (cal k)) Go.Proofs.Try.f8 nt k 0 [.agg [.osl 1, .int .i64 a0.2.1, .int .i64 a0.2.2.1, .int .i64 a0.2.2.2.1, .osl 2]] [] ⟨3, false, [(2, .row false 31 [.int .i64, .int .i64, .str] a0.2.2.2.2), (1, .tab false 55 [] 0 (.cons (.leaf (.int .i64)) (.one (.row false 3 [.int .i64]) [])) a0.1), (0, .ghost)]⟩ (fun v st => outK ct.ob (γ0 ct) ct.outs v st .ok) (fun e st => outP ct.ob (γ0 ct) ct.outs e st .ok) = top k a0 ((fun (v4 : Int) (v5 : List (Int × List Int)) => zl0 (la k [] [.r, .r, .l, .r, .b] k) a0 v4 v5)) := by kernel_rfl
  exact h.trans (by rw [e0]; rfl)
theorem ok (k : Nat) : FnOkC Try.prog 8 ct (fun (x : TY8 × Int × Int × Int × TY17) (_ : Unit) => S k x) :=
  FnOkC.of_ev (C := ct) tab_ok rfl (calOf_ok (cal_ok k)) mixed Try.func8 nt k (fun _ _ => rfl) (fun (x : TY8 × Int × Int × Int × TY17) (_ : Unit) => eq k x)
theorem hd {T : Type} (k : Nat) : HdOk Try.prog 8 (pureC (T := T) ct [] (fun (x : TY8 × Int × Int × Int × TY17) (_ : Unit) => S k x)) :=
  pureC_ok rfl [] (ok k) Try.call8
end F_aqueductlaw20_laid
namespace F_bridge_Bridge_In
/-! ### (*aqueduct/bridge.Bridge).In: function 10 -/
noncomputable def ct : Ct := ⟨.some (.pin (.ref 0) (.cons (.leaf (.int .i64)) (.one (.leaf .str) []))), [(71, .cons (.tab false 55 (.cons (.leaf (.int .i64)) (.one (.row false 3 [.int .i64]) []))) (.pin (.ref 1) (.cons (.tab true 78 (.one (.box 121 (.cons (.row true 9 [.str]) (.cons (.leaf (.int .i64)) (.one (.leaf (.int .i64)) [])))) [])) (.one (.agg (.cons (.leaf (.int .i64)) (.cons (.leaf (.int .i64)) (.cons (.leaf (.int .i64)) (.cons (.leaf (.int .i64)) (.cons (.leaf (.int .i64)) (.one (.leaf (.int .i64)) []))))))) [])))), (115, .cons (.leaf (.int .i64)) (.cons (.leaf (.int .i64)) (.one (.map 113 true true [.int .i64, .str] [.int .i64, .str, .int .i64, .int .i64]) [])))], [⟨.tup (.cons (.row true 3 [.int .i64]) (.one (.leaf (.int .i64)) [])), [], []⟩]⟩
noncomputable def nt : Notes := ⟨[(17, ⟨[0, 2, 10, 11, 105, 106, 107], [(.slot 11 [], 3, .pl [.int .i64])]⟩)], [(8, ⟨[0, 1, 2, 8, 9, 10], []⟩)], [(14, [0, 1, 2, 3, 4, 5, 6, 7, 8])], [], []⟩
noncomputable def cal0 {T : Type} (k : Nat) : List (FuncId × Hd T) := [(23, pureC F_eth_Parse.ct [] (fun (x : ByteArray) (_ : Unit) => F_eth_Parse.S k x)), (24, pureC F_addr_Kind.ct [] (fun (x : ByteArray) (_ : Unit) => F_addr_Kind.S k x)), (25, pureR F_bridge_Bridge_fits.ct [.arg 0 0, .fld 0 1] (fun (x : Int × ByteArray) (g : TY2 × TY3) => F_bridge_Bridge_fits.S k x.1 x.2 g.1 g.2)), (26, pureC F_bridge_Bridge_has.ct [.arg 0 0, .fld 0 1] (fun (x : Int × Int) (g : TY2 × TY3) => F_bridge_Bridge_has.S k x.1 x.2 g.1 g.2)), (27, pureC F_fdb_Table_Learn.ct [.arg 0 0] (fun (x : Int × ByteArray × Int) (g : Int × Int × TY0) => F_fdb_Table_Learn.S k x.1 x.2.1 x.2.2 g)), (28, pureC F_bridge_Bridge_to.ct [.arg 0 0, .fld 0 1] (fun (x : Int × Int × ByteArray) (g : TY2 × TY3) => F_bridge_Bridge_to.S k x.1 x.2.1 x.2.2 g.1 g.2)), (29, pureR F_bridge_Bridge_leaves.ct [.arg 0 0, .fld 0 1] (fun (x : Int × Int × ByteArray) (g : TY2 × TY3) => F_bridge_Bridge_leaves.S k x.1 x.2.1 x.2.2 g.1 g.2))]
theorem cal0_ok {T : Type} (k : Nat) : HdsOk Try.prog (cal0 (T := T) k) := ⟨F_eth_Parse.hd k, F_addr_Kind.hd k, F_bridge_Bridge_fits.hd k, F_bridge_Bridge_has.hd k, F_fdb_Table_Learn.hd k, F_bridge_Bridge_to.hd k, F_bridge_Bridge_leaves.hd k, trivial⟩
noncomputable def nt30 : Notes := ⟨[], [], [(1, [0, 1, 2, 3, 4, 5, 6, 7, 8, 9])], [], []⟩
noncomputable def cal1 {T : Type} (k : Nat) : List (FuncId × Hd T) := (30, inlH tab (calOf (cal0 k)) Go.Proofs.Try.f30 nt30 k) :: cal0 k
theorem cal1_ok {T : Type} (k : Nat) : HdsOk Try.prog (cal1 (T := T) k) := ⟨inlH_ok tab_ok (calOf_ok (cal0_ok k)) mixed Try.func30 nt30 k Try.call30, cal0_ok k⟩
noncomputable def cal {T : Type} (k : Nat) : List (FuncId × Hd T) := cal1 k
theorem cal_ok {T : Type} (k : Nat) : HdsOk Try.prog (cal (T := T) k) := cal1_ok k
noncomputable abbrev la (k : Nat) (Rs : List (Fr → St → O TY19)) (ds : List Dir) (j : Nat) : Fr → St → O TY19 := loopAt tab (calOf (cal k)) Go.Proofs.Try.f10.ntmps nt k Rs ds (bodyOf Go.Proofs.Try.f10) (finK tab Go.Proofs.Try.f10.results.toList (fun v st => outK ct.ob (γ0 ct) ct.outs v st .ok) (fun e st => outP ct.ob (γ0 ct) ct.outs e st .ok)) j
noncomputable abbrev ca (k : Nat) (Rs : List (Fr → St → O TY19)) (ds : List Dir) : Fr → St → O TY19 := codeAt tab (calOf (cal k)) Go.Proofs.Try.f10.ntmps nt k Rs ds (bodyOf Go.Proofs.Try.f10) (finK tab Go.Proofs.Try.f10.results.toList (fun v st => outK ct.ob (γ0 ct) ct.outs v st .ok) (fun e st => outP ct.ob (γ0 ct) ct.outs e st .ok))
noncomputable abbrev zj5 {α : Type} (X : Fr → St → α) (a1 : Int) (a2 : ByteArray) (g0 : TY8 × TY5 × TY6) (g1 : Int × Int × TY0) (r2 : TY20 × Int) (v3 : Int) : α := X ⟨[(0, .ptr 0 0), (1, .int .i64 a1), (2, .str a2), (8, .ptr 2 0), (9, .int .i64 r2.2), (10, .int .i64 v3)], [], 2, []⟩ ⟨8, true, [(2, .cells 58 [.str r2.1.1, .str r2.1.2.1, .int .i64 r2.1.2.2.1, .int .i64 r2.1.2.2.2.1, .int .i64 r2.1.2.2.2.2.1, .str r2.1.2.2.2.2.2]), (3, .tab false 55 [] 6 (.cons (.leaf (.int .i64)) (.one (.row false 3 [.int .i64]) [])) g0.1), (4, .tab true 78 [] 7 (.one (.box 121 (.cons (.row true 9 [.str]) (.cons (.leaf (.int .i64)) (.one (.leaf (.int .i64)) [])))) []) g0.2.1), (5, .map 113 true true [.int .i64, .str] [.int .i64, .str, .int .i64, .int .i64] g1.2.2), (6, .ghost), (7, .ghost), (0, .cells 71 [.osl 3, .ptr 1 0, .osl 4, .int .i64 (IntKind.i64.wrap (g0.2.2.1 + (1 : Int))), .int .i64 g0.2.2.2.1, .int .i64 g0.2.2.2.2.1, .int .i64 g0.2.2.2.2.2.1, .int .i64 g0.2.2.2.2.2.2.1, .int .i64 g0.2.2.2.2.2.2.2]), (1, .cells 115 [.int .i64 g1.1, .int .i64 g1.2.1, .mp 5])]⟩
noncomputable abbrev zl1 {α : Type} (X : Fr → St → α) (a2 : ByteArray) (v3 : Int) (r13 : List Int × TY2 × TY3) (v19 : Int) (v20 : List TY7) (v21 : Int) (v22 : List Int) (v23 : Int) : α := X ⟨[(0, .ptr 0 0), (2, .str a2), (10, .int .i64 v3), (11, .osl 2), (105, .osl 3), (106, .int .i64 (List.length r13.1 : Int)), (107, .int .i64 v19)], [], 2, []⟩ ⟨9, true, [(2, .row true 3 [.int .i64] v22), (3, .row true 3 [.int .i64] r13.1), (4, .tab false 55 [] 7 (.cons (.leaf (.int .i64)) (.one (.row false 3 [.int .i64]) [])) r13.2.1.1), (5, .tab true 78 [] 8 (.one (.box 121 (.cons (.row true 9 [.str]) (.cons (.leaf (.int .i64)) (.one (.leaf (.int .i64)) [])))) []) v20), (6, .map 113 true true [.int .i64, .str] [.int .i64, .str, .int .i64, .int .i64] r13.2.2.2.2), (7, .ghost), (8, .ghost), (0, .cells 71 [.osl 4, .ptr 1 0, .osl 5, .int .i64 r13.2.1.2.2.1, .int .i64 r13.2.1.2.2.2.1, .int .i64 r13.2.1.2.2.2.2.1, .int .i64 r13.2.1.2.2.2.2.2.1, .int .i64 v23, .int .i64 v21]), (1, .cells 115 [.int .i64 r13.2.2.1, .int .i64 r13.2.2.2.1, .mp 6])]⟩
noncomputable def l1_b (k : Nat) (a2 : ByteArray) (v3 : Int) (r13 : List Int × TY2 × TY3) (R_l1 : Int → (List Int) → TY5 → Int → Int → O TY19) (v19 : Int) (v22 : List Int) (v20 : List TY7) (v23 : Int) (v21 : Int) : O TY19 :=
  O.cond (decide (v19 < (List.length r13.1 : Int))) (
   O.chk (decide (0 ≤ v19 ∧ v19 < (List.length r13.1 : Int) ∧ (List.length r13.1 : Int) ≤ (List.length r13.1 : Int))) (
    O.chk (decide (0 ≤ v19 ∧ v19 < (List.length r13.1 : Int))) (
     O.bind (F_bridge_Bridge_leaves.S k (gt (0 : Int) r13.1 v19) v3 a2 (r13.2.1.1, v20, (r13.2.1.2.2.1, r13.2.1.2.2.2.1, r13.2.1.2.2.2.2.1, r13.2.1.2.2.2.2.2.1, v23, v21)) r13.2.2) fun r25 =>
     O.chk (decide (0 ≤ (gt (0 : Int) r13.1 v19) ∧ (gt (0 : Int) r13.1 v19) < (List.length v20 : Int))) (
      O.chk (decide (0 ≤ (gt (0 : Int) r13.1 v19) ∧ (gt (0 : Int) r13.1 v19) < (List.length v20 : Int))) (
       O.cond (decide ((List.length ((gt ([], (0 : Int), (0 : Int)) v20 (gt (0 : Int) r13.1 v19)).1) : Int) ≥ (gt ([], (0 : Int), (0 : Int)) v20 (gt (0 : Int) r13.1 v19)).2.1)) (
        O.cond true (
         R_l1 (IntKind.i64.wrap (v19 + (1 : Int))) v22 (su v20 (gt (0 : Int) r13.1 v19) ((gt ([], (0 : Int), (0 : Int)) v20 (gt (0 : Int) r13.1 v19)).1, (gt ([], (0 : Int), (0 : Int)) v20 (gt (0 : Int) r13.1 v19)).2.1, (IntKind.i64.wrap ((gt ([], (0 : Int), (0 : Int)) v20 (gt (0 : Int) r13.1 v19)).2.2 + (1 : Int))))) v23 (IntKind.i64.wrap (v21 + (1 : Int)))) (
         O.chk (decide (List.length v22 + List.length [(gt (0 : Int) r13.1 v19)] ≤ 1073741824)) (
          R_l1 (IntKind.i64.wrap (v19 + (1 : Int))) (v22 ++ [(gt (0 : Int) r13.1 v19)]) (su v20 (gt (0 : Int) r13.1 v19) ((gt ([], (0 : Int), (0 : Int)) v20 (gt (0 : Int) r13.1 v19)).1, (gt ([], (0 : Int), (0 : Int)) v20 (gt (0 : Int) r13.1 v19)).2.1, (IntKind.i64.wrap ((gt ([], (0 : Int), (0 : Int)) v20 (gt (0 : Int) r13.1 v19)).2.2 + (1 : Int))))) (IntKind.i64.wrap (v23 + (1 : Int))) v21))) (
        O.chk (decide (List.length ((gt ([], (0 : Int), (0 : Int)) v20 (gt (0 : Int) r13.1 v19)).1) + List.length [r25.1] ≤ 1073741824)) (
         O.cond false (
          R_l1 (IntKind.i64.wrap (v19 + (1 : Int))) v22 (su v20 (gt (0 : Int) r13.1 v19) (((gt ([], (0 : Int), (0 : Int)) v20 (gt (0 : Int) r13.1 v19)).1 ++ [r25.1]), (gt ([], (0 : Int), (0 : Int)) v20 (gt (0 : Int) r13.1 v19)).2.1, (gt ([], (0 : Int), (0 : Int)) v20 (gt (0 : Int) r13.1 v19)).2.2)) v23 (IntKind.i64.wrap (v21 + (1 : Int)))) (
          O.chk (decide (List.length v22 + List.length [(gt (0 : Int) r13.1 v19)] ≤ 1073741824)) (
           R_l1 (IntKind.i64.wrap (v19 + (1 : Int))) (v22 ++ [(gt (0 : Int) r13.1 v19)]) (su v20 (gt (0 : Int) r13.1 v19) (((gt ([], (0 : Int), (0 : Int)) v20 (gt (0 : Int) r13.1 v19)).1 ++ [r25.1]), (gt ([], (0 : Int), (0 : Int)) v20 (gt (0 : Int) r13.1 v19)).2.1, (gt ([], (0 : Int), (0 : Int)) v20 (gt (0 : Int) r13.1 v19)).2.2)) (IntKind.i64.wrap (v23 + (1 : Int))) v21))))))))) (
   .ok ((v22, (0 : Int)), ((r13.2.1.1, v20, (r13.2.1.2.2.1, r13.2.1.2.2.2.1, r13.2.1.2.2.2.2.1, r13.2.1.2.2.2.2.2.1, v23, v21)), r13.2.2)))
noncomputable def l1 (k : Nat) (a2 : ByteArray) (v3 : Int) (r13 : List Int × TY2 × TY3) : Nat → Int → (List Int) → TY5 → Int → Int → O TY19
  | 0, _, _, _, _, _ => .no
  | j + 1, v19, v22, v20, v23, v21 => l1_b k a2 v3 r13 (l1 k a2 v3 r13 j) v19 v22 v20 v23 v21
theorem l1_eq (k : Nat) (a2 : ByteArray) (v3 : Int) (r13 : List Int × TY2 × TY3) : ∀ (j : Nat) (v19 : Int) (v22 : List Int) (v20 : List TY7) (v23 : Int) (v21 : Int), zl1 (la k [] [.r, .r, .r, .r, .r, .r, .r, .r, .r, .r, .l, .r, .b] j) a2 v3 r13 v19 v20 v21 v22 v23 = l1 k a2 v3 r13 j v19 v22 v20 v23 v21 := by
  intro j
  induction j with
  | zero => intro v19 v22 v20 v23 v21; rfl
  | succ j ih =>
    intro v19 v22 v20 v23 v21
    have rs : (fun (v19' : Int) (v22' : List Int) (v20' : List TY7) (v23' : Int) (v21' : Int) => zl1 (la k [] [.r, .r, .r, .r, .r, .r, .r, .r, .r, .r, .l, .r, .b] j) a2 v3 r13 v19' v20' v21' v22' v23') = l1 k a2 v3 r13 j := by funext v19' v22' v20' v23' v21'; exact ih v19' v22' v20' v23' v21'
    have h : zl1 (la k [] [.r, .r, .r, .r, .r, .r, .r, .r, .r, .r, .l, .r, .b] (j + 1)) a2 v3 r13 v19 v20 v21 v22 v23 = l1_b k a2 v3 r13 ((fun (v19' : Int) (v22' : List Int) (v20' : List TY7) (v23' : Int) (v21' : Int) => zl1 (la k [] [.r, .r, .r, .r, .r, .r, .r, .r, .r, .r, .l, .r, .b] j) a2 v3 r13 v19' v20' v21' v22' v23')) v19 v22 v20 v23 v21 := by kernel_rfl
    exact h.trans (by rw [rs]; rfl)
noncomputable def j5_b (k : Nat) (a1 : Int) (a2 : ByteArray) (g0 : TY8 × TY5 × TY6) (g1 : Int × Int × TY0) (r2 : TY20 × Int) (D_l1 : Int → (List Int × TY2 × TY3) → Int → (List Int) → TY5 → Int → Int → O TY19) (v3 : Int) : O TY19 :=
  O.cond (decide (r2.2 ≠ (0 : Int))) (
   .ok (([], (0 : Int)), ((g0.1, g0.2.1, ((IntKind.i64.wrap (g0.2.2.1 + (1 : Int))), (IntKind.i64.wrap (g0.2.2.2.1 + (1 : Int))), g0.2.2.2.2.1, g0.2.2.2.2.2.1, g0.2.2.2.2.2.2.1, g0.2.2.2.2.2.2.2)), g1))) (
   O.bind (F_addr_Kind.S k r2.1.2.1) fun r6 =>
   O.cond (decide (r6 ≠ (1 : Int))) (
    .ok (([], (0 : Int)), ((g0.1, g0.2.1, ((IntKind.i64.wrap (g0.2.2.1 + (1 : Int))), (IntKind.i64.wrap (g0.2.2.2.1 + (1 : Int))), g0.2.2.2.2.1, g0.2.2.2.2.2.1, g0.2.2.2.2.2.2.1, g0.2.2.2.2.2.2.2)), g1))) (
    O.bind (F_bridge_Bridge_fits.S k v3 a2 (g0.1, g0.2.1, ((IntKind.i64.wrap (g0.2.2.1 + (1 : Int))), g0.2.2.2.1, g0.2.2.2.2.1, g0.2.2.2.2.2.1, g0.2.2.2.2.2.2.1, g0.2.2.2.2.2.2.2)) g1) fun r7 =>
    O.cond (!r7) (
     .ok (([], (0 : Int)), ((g0.1, g0.2.1, ((IntKind.i64.wrap (g0.2.2.1 + (1 : Int))), (IntKind.i64.wrap (g0.2.2.2.1 + (1 : Int))), g0.2.2.2.2.1, g0.2.2.2.2.2.1, g0.2.2.2.2.2.2.1, g0.2.2.2.2.2.2.2)), g1))) (
     O.bind (F_bridge_Bridge_has.S k a1 v3 (g0.1, g0.2.1, ((IntKind.i64.wrap (g0.2.2.1 + (1 : Int))), g0.2.2.2.1, g0.2.2.2.2.1, g0.2.2.2.2.2.1, g0.2.2.2.2.2.2.1, g0.2.2.2.2.2.2.2)) g1) fun r9 =>
     O.cond (!r9.1) (
      .ok (([], (0 : Int)), ((r9.2.1.1, r9.2.1.2.1, (r9.2.1.2.2.1, r9.2.1.2.2.2.1, (IntKind.i64.wrap (r9.2.1.2.2.2.2.1 + (1 : Int))), r9.2.1.2.2.2.2.2.1, r9.2.1.2.2.2.2.2.2.1, r9.2.1.2.2.2.2.2.2.2)), r9.2.2))) (
      O.bind (F_fdb_Table_Learn.S k v3 r2.1.2.1 a1 r9.2.2) fun r11 =>
      O.bind (F_bridge_Bridge_to.S k a1 v3 r2.1.1 r9.2.1 r11.2) fun r13 =>
      D_l1 v3 r13 (0 : Int) [] r13.2.1.2.1 r13.2.1.2.2.2.2.2.2.1 r13.2.1.2.2.2.2.2.2.2))))
noncomputable def j5 (k : Nat) (a1 : Int) (a2 : ByteArray) (g0 : TY8 × TY5 × TY6) (g1 : Int × Int × TY0) (r2 : TY20 × Int) (v3 : Int) : O TY19 := j5_b k a1 a2 g0 g1 r2 ((fun (v3 : Int) (r13 : List Int × TY2 × TY3) (v19 : Int) (v22 : List Int) (v20 : List TY7) (v23 : Int) (v21 : Int) => l1 k a2 v3 r13 k v19 v22 v20 v23 v21)) v3
theorem j5_eq (k : Nat) (a1 : Int) (a2 : ByteArray) (g0 : TY8 × TY5 × TY6) (g1 : Int × Int × TY0) (r2 : TY20 × Int) (v3 : Int) : zj5 (ca k [] [.r, .r, .r, .r, .r, .r]) a1 a2 g0 g1 r2 v3 = j5 k a1 a2 g0 g1 r2 v3 := by
    have e0 : (fun (v3 : Int) (r13 : List Int × TY2 × TY3) (v19 : Int) (v22 : List Int) (v20 : List TY7) (v23 : Int) (v21 : Int) => zl1 (la k [] [.r, .r, .r, .r, .r, .r, .r, .r, .r, .r, .l, .r, .b] k) a2 v3 r13 v19 v20 v21 v22 v23) = (fun (v3 : Int) (r13 : List Int × TY2 × TY3) (v19 : Int) (v22 : List Int) (v20 : List TY7) (v23 : Int) (v21 : Int) => l1 k a2 v3 r13 k v19 v22 v20 v23 v21) := by funext v3 r13 v19 v22 v20 v23 v21; exact l1_eq k a2 v3 r13 k v19 v22 v20 v23 v21
    have h : zj5 (ca k [] [.r, .r, .r, .r, .r, .r]) a1 a2 g0 g1 r2 v3 = j5_b k a1 a2 g0 g1 r2 ((fun (v3 : Int) (r13 : List Int × TY2 × TY3) (v19 : Int) (v22 : List Int) (v20 : List TY7) (v23 : Int) (v21 : Int) => zl1 (la k [] [.r, .r, .r, .r, .r, .r, .r, .r, .r, .r, .l, .r, .b] k) a2 v3 r13 v19 v20 v21 v22 v23)) v3 := (codeAt_eq _ _ _ _ _ _ _ _ _ _ _).trans (by show _ = _; kernel_rfl)
    exact h.trans (by rw [e0]; rfl)
noncomputable def top (k : Nat) (a1 : Int) (a2 : ByteArray) (g0 : TY8 × TY5 × TY6) (g1 : Int × Int × TY0) (D_j5 : (TY20 × Int) → Int → O TY19) : O TY19 :=
  O.cond (decide (a1 < (0 : Int))) (
   .ok (([], (1 : Int)), (g0, g1))) (
   O.cond (decide (a1 ≥ (List.length g0.1 : Int))) (
    .ok (([], (1 : Int)), (g0, g1))) (
    O.bind (F_eth_Parse.S k a2) fun r2 =>
    O.cond (decide (r2.1.2.2.1 = (-1 : Int))) (
     O.chk (decide (0 ≤ a1 ∧ a1 < (List.length g0.1 : Int))) (
      O.chk (decide (0 ≤ a1 ∧ a1 < (List.length g0.1 : Int))) (
       D_j5 r2 ((gt ((0 : Int), []) g0.1 a1).1)))) (
     D_j5 r2 r2.1.2.2.1)))
noncomputable def S (k : Nat) (a1 : Int) (a2 : ByteArray) (g0 : TY8 × TY5 × TY6) (g1 : Int × Int × TY0) : O TY19 := top k a1 a2 g0 g1 ((fun (r2 : TY20 × Int) (v3 : Int) => j5 k a1 a2 g0 g1 r2 v3))
theorem eq (k : Nat) (a1 : Int) (a2 : ByteArray) (g0 : TY8 × TY5 × TY6) (g1 : Int × Int × TY0) : evFn (T := (List Int × Int) × TY2 × TY3) tab (calOf (cal k)) Go.Proofs.Try.f10 nt k 2 [.ptr 0 0, .int .i64 a1, .str a2] [] ⟨7, false, [(1, .cells 115 [.int .i64 g1.1, .int .i64 g1.2.1, .mp 6]), (6, .map 113 true true [.int .i64, .str] [.int .i64, .str, .int .i64, .int .i64] g1.2.2), (0, .cells 71 [.osl 3, .ptr 1 0, .osl 5, .int .i64 g0.2.2.1, .int .i64 g0.2.2.2.1, .int .i64 g0.2.2.2.2.1, .int .i64 g0.2.2.2.2.2.1, .int .i64 g0.2.2.2.2.2.2.1, .int .i64 g0.2.2.2.2.2.2.2]), (5, .tab true 78 [] 4 (.one (.box 121 (.cons (.row true 9 [.str]) (.cons (.leaf (.int .i64)) (.one (.leaf (.int .i64)) [])))) []) g0.2.1), (4, .ghost), (3, .tab false 55 [] 2 (.cons (.leaf (.int .i64)) (.one (.row false 3 [.int .i64]) [])) g0.1), (2, .ghost)]⟩ (fun v st => outK ct.ob (γ0 ct) ct.outs v st .ok) (fun e st => outP ct.ob (γ0 ct) ct.outs e st .ok) = S k a1 a2 g0 g1 := by
  have e0 : (fun (r2 : TY20 × Int) (v3 : Int) => zj5 (ca k [] [.r, .r, .r, .r, .r, .r]) a1 a2 g0 g1 r2 v3) = (fun (r2 : TY20 × Int) (v3 : Int) => j5 k a1 a2 g0 g1 r2 v3) := by funext r2 v3; exact j5_eq k a1 a2 g0 g1 r2 v3
  have h : evFn (T := (List Int × Int) × TY2 × TY3) tab (calOf (cal k)) Go.Proofs.Try.f10 nt k 2 [.ptr 0 0, .int .i64 a1, .str a2] [] ⟨7, false, [(1, .cells 115 [.int .i64 g1.1, .int .i64 g1.2.1, .mp 6]), (6, .map 113 true true [.int .i64, .str] [.int .i64, .str, .int .i64, .int .i64] g1.2.2), (0, .cells 71 [.osl 3, .ptr 1 0, .osl 5, .int .i64 g0.2.2.1, .int .i64 g0.2.2.2.1, .int .i64 g0.2.2.2.2.1, .int .i64 g0.2.2.2.2.2.1, .int .i64 g0.2.2.2.2.2.2.1, .int .i64 g0.2.2.2.2.2.2.2]), (5, .tab true 78 [] 4 (.one (.box 121 (.cons (.row true 9 [.str]) (.cons (.leaf (.int .i64)) (.one (.leaf (.int .i64)) [])))) []) g0.2.1), (4, .ghost), (3, .tab false 55 [] 2 (.cons (.leaf (.int .i64)) (.one (.row false 3 [.int .i64]) [])) g0.1), (2, .ghost)]⟩ (fun v st => outK ct.ob (γ0 ct) ct.outs v st .ok) (fun e st => outP ct.ob (γ0 ct) ct.outs e st .ok) = top k a1 a2 g0 g1 ((fun (r2 : TY20 × Int) (v3 : Int) => zj5 (ca k [] [.r, .r, .r, .r, .r, .r]) a1 a2 g0 g1 r2 v3)) := by kernel_rfl
  exact h.trans (by rw [e0]; rfl)
theorem ok (k : Nat) : FnOkC Try.prog 10 ct (fun (x : Int × ByteArray) (g : TY2 × TY3) => S k x.1 x.2 g.1 g.2) :=
  FnOkC.of_ev (C := ct) tab_ok rfl (calOf_ok (cal_ok k)) mixed Try.func10 nt k (fun _ _ => rfl) (fun (x : Int × ByteArray) (g : TY2 × TY3) => eq k x.1 x.2 g.1 g.2)
theorem hd {T : Type} (k : Nat) : HdOk Try.prog 10 (pureC (T := T) ct [.arg 0 0, .fld 0 1] (fun (x : Int × ByteArray) (g : TY2 × TY3) => S k x.1 x.2 g.1 g.2)) :=
  pureC_ok rfl [.arg 0 0, .fld 0 1] (ok k) Try.call10
end F_bridge_Bridge_In
namespace F_bridge_Bridge_Out
/-! ### (*aqueduct/bridge.Bridge).Out: function 11 -/
noncomputable def ct : Ct := ⟨.some (.pin (.ref 0) (.one (.leaf (.int .i64)) [])), [(71, .cons (.tab false 55 (.cons (.leaf (.int .i64)) (.one (.row false 3 [.int .i64]) []))) (.pin (.ref 1) (.cons (.tab true 78 (.one (.box 121 (.cons (.row true 9 [.str]) (.cons (.leaf (.int .i64)) (.one (.leaf (.int .i64)) [])))) [])) (.one (.agg (.cons (.leaf (.int .i64)) (.cons (.leaf (.int .i64)) (.cons (.leaf (.int .i64)) (.cons (.leaf (.int .i64)) (.cons (.leaf (.int .i64)) (.one (.leaf (.int .i64)) []))))))) [])))), (115, .cons (.leaf (.int .i64)) (.cons (.leaf (.int .i64)) (.one (.map 113 true true [.int .i64, .str] [.int .i64, .str, .int .i64, .int .i64]) [])))], [⟨.tup (.cons (.leaf .str) (.one (.leaf .bool) [])), [], []⟩]⟩
noncomputable def nt : Notes := ⟨[], [], [], [], []⟩
noncomputable def cal0 {T : Type} (k : Nat) : List (FuncId × Hd T) := []
theorem cal0_ok {T : Type} (k : Nat) : HdsOk Try.prog (cal0 (T := T) k) := trivial
noncomputable def nt56 : Notes := ⟨[], [], [], [], []⟩
noncomputable def cal1 {T : Type} (k : Nat) : List (FuncId × Hd T) := (56, inlH tab (calOf (cal0 k)) Go.Proofs.Try.f56 nt56 k) :: cal0 k
theorem cal1_ok {T : Type} (k : Nat) : HdsOk Try.prog (cal1 (T := T) k) := ⟨inlH_ok tab_ok (calOf_ok (cal0_ok k)) mixed Try.func56 nt56 k Try.call56, cal0_ok k⟩
noncomputable def nt31 : Notes := ⟨[], [], [], [], []⟩
noncomputable def cal2 {T : Type} (k : Nat) : List (FuncId × Hd T) := (31, inlH tab (calOf (cal1 k)) Go.Proofs.Try.f31 nt31 k) :: cal1 k
theorem cal2_ok {T : Type} (k : Nat) : HdsOk Try.prog (cal2 (T := T) k) := ⟨inlH_ok tab_ok (calOf_ok (cal1_ok k)) mixed Try.func31 nt31 k Try.call31, cal1_ok k⟩
noncomputable def cal {T : Type} (k : Nat) : List (FuncId × Hd T) := cal2 k
theorem cal_ok {T : Type} (k : Nat) : HdsOk Try.prog (cal (T := T) k) := cal2_ok k
noncomputable def S (k : Nat) (a1 : Int) (g0 : TY8 × TY5 × TY6) (g1 : Int × Int × TY0) : O ((ByteArray × Bool) × TY2 × TY3) :=
  O.cond (decide (a1 < (0 : Int))) (
   .ok (((⟨#[]⟩ : ByteArray), false), (g0, g1))) (
   O.cond (decide (a1 ≥ (List.length g0.1 : Int))) (
    .ok (((⟨#[]⟩ : ByteArray), false), (g0, g1))) (
    O.chk (decide (0 ≤ a1 ∧ a1 < (List.length g0.2.1 : Int))) (
     O.chk (decide (0 ≤ a1 ∧ a1 < (List.length g0.2.1 : Int))) (
      O.cond (decide ((List.length ((gt ([], (0 : Int), (0 : Int)) g0.2.1 a1).1) : Int) = (0 : Int))) (
       .ok (((⟨#[]⟩ : ByteArray), false), ((g0.1, (su g0.2.1 a1 (gt ([], (0 : Int), (0 : Int)) g0.2.1 a1)), g0.2.2), g1))) (
       O.chk (decide (0 ≤ (0 : Int) ∧ (0 : Int) < (List.length ((gt ([], (0 : Int), (0 : Int)) g0.2.1 a1).1) : Int) ∧ (List.length ((gt ([], (0 : Int), (0 : Int)) g0.2.1 a1).1) : Int) ≤ (List.length ((gt ([], (0 : Int), (0 : Int)) g0.2.1 a1).1) : Int))) (
        O.chk (decide (0 ≤ (0 : Int) ∧ (0 : Int) < (List.length ((gt ([], (0 : Int), (0 : Int)) g0.2.1 a1).1) : Int))) (
         O.chk (decide (0 ≤ (1 : Int) ∧ (1 : Int) ≤ (List.length ((gt ([], (0 : Int), (0 : Int)) g0.2.1 a1).1) : Int)) && (decide (0 ≤ (List.length ((gt ([], (0 : Int), (0 : Int)) g0.2.1 a1).1) : Int) ∧ (List.length ((gt ([], (0 : Int), (0 : Int)) g0.2.1 a1).1) : Int) ≤ (List.length ((gt ([], (0 : Int), (0 : Int)) g0.2.1 a1).1) : Int)))) (
          O.chk (posI [(1 : Int)] && decide (0 ≤ ((List.length ((gt ([], (0 : Int), (0 : Int)) g0.2.1 a1).1) : Int) - (1 : Int)) ∧ sumI [(1 : Int)] + ((List.length ((gt ([], (0 : Int), (0 : Int)) g0.2.1 a1).1) : Int) - (1 : Int)) ≤ (List.length ((gt ([], (0 : Int), (0 : Int)) g0.2.1 a1).1) : Int))) (
           O.cond (decide (0 < ((List.length ((gt ([], (0 : Int), (0 : Int)) g0.2.1 a1).1) : Int) - (1 : Int)))) (
            O.cond false (
             .ok (((gt ByteArray.empty ((gt ([], (0 : Int), (0 : Int)) g0.2.1 a1).1) (0 : Int)), true), ((g0.1, (su g0.2.1 a1 ([], (gt ([], (0 : Int), (0 : Int)) g0.2.1 a1).2.1, (gt ([], (0 : Int), (0 : Int)) g0.2.1 a1).2.2)), g0.2.2), g1))) (
             O.chk (posI [(1 : Int)] && decide (0 ≤ ((List.length ((gt ([], (0 : Int), (0 : Int)) g0.2.1 a1).1) : Int) - (1 : Int)) ∧ sumI [(1 : Int)] + ((List.length ((gt ([], (0 : Int), (0 : Int)) g0.2.1 a1).1) : Int) - (1 : Int)) ≤ (List.length ((gt ([], (0 : Int), (0 : Int)) g0.2.1 a1).1) : Int))) (
              O.chk (decide ((0 : Nat) + List.length (sub ((gt ([], (0 : Int), (0 : Int)) g0.2.1 a1).1) (sumI [(1 : Int)]) ((List.length ((gt ([], (0 : Int), (0 : Int)) g0.2.1 a1).1) : Int) - (1 : Int))) ≤ 1073741824)) (
               .ok (((gt ByteArray.empty ((gt ([], (0 : Int), (0 : Int)) g0.2.1 a1).1) (0 : Int)), true), ((g0.1, (su g0.2.1 a1 (([] ++ (sub ((gt ([], (0 : Int), (0 : Int)) g0.2.1 a1).1) (sumI [(1 : Int)]) ((List.length ((gt ([], (0 : Int), (0 : Int)) g0.2.1 a1).1) : Int) - (1 : Int)))), (gt ([], (0 : Int), (0 : Int)) g0.2.1 a1).2.1, (gt ([], (0 : Int), (0 : Int)) g0.2.1 a1).2.2)), g0.2.2), g1)))))) (
            O.same (
             O.cond true (
              .ok (((gt ByteArray.empty ((gt ([], (0 : Int), (0 : Int)) g0.2.1 a1).1) (0 : Int)), true), ((g0.1, (su g0.2.1 a1 ([], (gt ([], (0 : Int), (0 : Int)) g0.2.1 a1).2.1, (gt ([], (0 : Int), (0 : Int)) g0.2.1 a1).2.2)), g0.2.2), g1))) (
              O.chk (posI [(1 : Int)] && decide (0 ≤ ((List.length ((gt ([], (0 : Int), (0 : Int)) g0.2.1 a1).1) : Int) - (1 : Int)) ∧ sumI [(1 : Int)] + ((List.length ((gt ([], (0 : Int), (0 : Int)) g0.2.1 a1).1) : Int) - (1 : Int)) ≤ (List.length ((gt ([], (0 : Int), (0 : Int)) g0.2.1 a1).1) : Int))) (
               O.chk (decide ((0 : Nat) + List.length (sub ((gt ([], (0 : Int), (0 : Int)) g0.2.1 a1).1) (sumI [(1 : Int)]) ((List.length ((gt ([], (0 : Int), (0 : Int)) g0.2.1 a1).1) : Int) - (1 : Int))) ≤ 1073741824)) (
                .ok (((gt ByteArray.empty ((gt ([], (0 : Int), (0 : Int)) g0.2.1 a1).1) (0 : Int)), true), ((g0.1, (su g0.2.1 a1 (([] ++ (sub ((gt ([], (0 : Int), (0 : Int)) g0.2.1 a1).1) (sumI [(1 : Int)]) ((List.length ((gt ([], (0 : Int), (0 : Int)) g0.2.1 a1).1) : Int) - (1 : Int)))), (gt ([], (0 : Int), (0 : Int)) g0.2.1 a1).2.1, (gt ([], (0 : Int), (0 : Int)) g0.2.1 a1).2.2)), g0.2.2), g1)))))) (
             O.cond false (
              .ok (((gt ByteArray.empty ((gt ([], (0 : Int), (0 : Int)) g0.2.1 a1).1) (0 : Int)), true), ((g0.1, (su g0.2.1 a1 ([], (gt ([], (0 : Int), (0 : Int)) g0.2.1 a1).2.1, (gt ([], (0 : Int), (0 : Int)) g0.2.1 a1).2.2)), g0.2.2), g1))) (
              O.chk (posI [(1 : Int)] && decide (0 ≤ ((List.length ((gt ([], (0 : Int), (0 : Int)) g0.2.1 a1).1) : Int) - (1 : Int)) ∧ sumI [(1 : Int)] + ((List.length ((gt ([], (0 : Int), (0 : Int)) g0.2.1 a1).1) : Int) - (1 : Int)) ≤ (List.length ((gt ([], (0 : Int), (0 : Int)) g0.2.1 a1).1) : Int))) (
               O.chk (decide ((0 : Nat) + List.length (sub ((gt ([], (0 : Int), (0 : Int)) g0.2.1 a1).1) (sumI [(1 : Int)]) ((List.length ((gt ([], (0 : Int), (0 : Int)) g0.2.1 a1).1) : Int) - (1 : Int))) ≤ 1073741824)) (
                .ok (((gt ByteArray.empty ((gt ([], (0 : Int), (0 : Int)) g0.2.1 a1).1) (0 : Int)), true), ((g0.1, (su g0.2.1 a1 (([] ++ (sub ((gt ([], (0 : Int), (0 : Int)) g0.2.1 a1).1) (sumI [(1 : Int)]) ((List.length ((gt ([], (0 : Int), (0 : Int)) g0.2.1 a1).1) : Int) - (1 : Int)))), (gt ([], (0 : Int), (0 : Int)) g0.2.1 a1).2.1, (gt ([], (0 : Int), (0 : Int)) g0.2.1 a1).2.2)), g0.2.2), g1))))))))))))))))
theorem eq (k : Nat) (a1 : Int) (g0 : TY8 × TY5 × TY6) (g1 : Int × Int × TY0) : evFn (T := (ByteArray × Bool) × TY2 × TY3) tab (calOf (cal k)) Go.Proofs.Try.f11 nt k 2 [.ptr 0 0, .int .i64 a1] [] ⟨7, false, [(1, .cells 115 [.int .i64 g1.1, .int .i64 g1.2.1, .mp 6]), (6, .map 113 true true [.int .i64, .str] [.int .i64, .str, .int .i64, .int .i64] g1.2.2), (0, .cells 71 [.osl 3, .ptr 1 0, .osl 5, .int .i64 g0.2.2.1, .int .i64 g0.2.2.2.1, .int .i64 g0.2.2.2.2.1, .int .i64 g0.2.2.2.2.2.1, .int .i64 g0.2.2.2.2.2.2.1, .int .i64 g0.2.2.2.2.2.2.2]), (5, .tab true 78 [] 4 (.one (.box 121 (.cons (.row true 9 [.str]) (.cons (.leaf (.int .i64)) (.one (.leaf (.int .i64)) [])))) []) g0.2.1), (4, .ghost), (3, .tab false 55 [] 2 (.cons (.leaf (.int .i64)) (.one (.row false 3 [.int .i64]) [])) g0.1), (2, .ghost)]⟩ (fun v st => outK ct.ob (γ0 ct) ct.outs v st .ok) (fun e st => outP ct.ob (γ0 ct) ct.outs e st .ok) = S k a1 g0 g1 := by kernel_rfl
theorem ok (k : Nat) : FnOkC Try.prog 11 ct (fun (x : Int) (g : TY2 × TY3) => S k x g.1 g.2) :=
  FnOkC.of_ev (C := ct) tab_ok rfl (calOf_ok (cal_ok k)) mixed Try.func11 nt k (fun _ _ => rfl) (fun (x : Int) (g : TY2 × TY3) => eq k x g.1 g.2)
theorem hd {T : Type} (k : Nat) : HdOk Try.prog 11 (pureC (T := T) ct [.arg 0 0, .fld 0 1] (fun (x : Int) (g : TY2 × TY3) => S k x g.1 g.2)) :=
  pureC_ok rfl [.arg 0 0, .fld 0 1] (ok k) Try.call11
end F_bridge_Bridge_Out
namespace F_aqueductlaw20_own
/-! ### aqueduct/aqueductlaw20.own: function 38 -/
noncomputable def ct : Ct := ⟨.some (.one (.leaf (.int .i64)) []), [], [⟨.val (.leaf .str), [], []⟩]⟩
noncomputable def nt : Notes := ⟨[], [], [], [], []⟩
noncomputable def cal0 {T : Type} (k : Nat) : List (FuncId × Hd T) := []
theorem cal0_ok {T : Type} (k : Nat) : HdsOk Try.prog (cal0 (T := T) k) := trivial
noncomputable def cal {T : Type} (k : Nat) : List (FuncId × Hd T) := cal0 k
theorem cal_ok {T : Type} (k : Nat) : HdsOk Try.prog (cal (T := T) k) := cal0_ok k
noncomputable def S (k : Nat) (a0 : Int) : O ByteArray :=
  O.chk (decide (((ByteArray.size (⟨#[2, 0, 0, 0, 0]⟩ : ByteArray) + ByteArray.size (Go.Aq.strOf [(IntKind.u8.wrap a0)]) : Nat) : Int) ≤ 9223372036854775807)) (
   .ok ((⟨#[2, 0, 0, 0, 0]⟩ : ByteArray) ++ (Go.Aq.strOf [(IntKind.u8.wrap a0)])))
theorem eq (k : Nat) (a0 : Int) : evFn (T := ByteArray) tab (calOf (cal k)) Go.Proofs.Try.f38 nt k 0 [.int .i64 a0] [] ⟨0, false, []⟩ (fun v st => outK ct.ob (γ0 ct) ct.outs v st .ok) (fun e st => outP ct.ob (γ0 ct) ct.outs e st .ok) = S k a0 := by kernel_rfl
theorem ok (k : Nat) : FnOkC Try.prog 38 ct (fun (x : Int) (_ : Unit) => S k x) :=
  FnOkC.of_ev (C := ct) tab_ok rfl (calOf_ok (cal_ok k)) mixed Try.func38 nt k (fun _ _ => rfl) (fun (x : Int) (_ : Unit) => eq k x)
theorem hd {T : Type} (k : Nat) : HdOk Try.prog 38 (pureC (T := T) ct [] (fun (x : Int) (_ : Unit) => S k x)) :=
  pureC_ok rfl [] (ok k) Try.call38
end F_aqueductlaw20_own
namespace F_aqueductlaw20_from
/-! ### aqueduct/aqueductlaw20.from: function 15 -/
noncomputable def ct : Ct := ⟨.some (.cons (.leaf (.int .i64)) (.one (.leaf (.int .i64)) [])), [], [⟨.val (.leaf .str), [], []⟩]⟩
noncomputable def nt : Notes := ⟨[], [], [], [], []⟩
noncomputable def cal0 {T : Type} (k : Nat) : List (FuncId × Hd T) := [(38, pureC F_aqueductlaw20_own.ct [] (fun (x : Int) (_ : Unit) => F_aqueductlaw20_own.S k x))]
theorem cal0_ok {T : Type} (k : Nat) : HdsOk Try.prog (cal0 (T := T) k) := ⟨F_aqueductlaw20_own.hd k, trivial⟩
noncomputable def cal {T : Type} (k : Nat) : List (FuncId × Hd T) := cal0 k
theorem cal_ok {T : Type} (k : Nat) : HdsOk Try.prog (cal (T := T) k) := cal0_ok k
noncomputable def S (k : Nat) (a0 : Int) (a1 : Int) : O ByteArray :=
  O.bind (F_aqueductlaw20_own.S k a1) fun r1 =>
  O.bind (F_aqueductlaw20_own.S k a0) fun r2 =>
  O.chk (decide (((ByteArray.size r1 + ByteArray.size r2 : Nat) : Int) ≤ 9223372036854775807)) (
   O.chk (decide (((ByteArray.size (r1 ++ r2) + ByteArray.size (⟨#[8, 0, 98, 111, 100, 121]⟩ : ByteArray) : Nat) : Int) ≤ 9223372036854775807)) (
    .ok ((r1 ++ r2) ++ (⟨#[8, 0, 98, 111, 100, 121]⟩ : ByteArray))))
theorem eq (k : Nat) (a0 : Int) (a1 : Int) : evFn (T := ByteArray) tab (calOf (cal k)) Go.Proofs.Try.f15 nt k 0 [.int .i64 a0, .int .i64 a1] [] ⟨0, false, []⟩ (fun v st => outK ct.ob (γ0 ct) ct.outs v st .ok) (fun e st => outP ct.ob (γ0 ct) ct.outs e st .ok) = S k a0 a1 := by kernel_rfl
theorem ok (k : Nat) : FnOkC Try.prog 15 ct (fun (x : Int × Int) (_ : Unit) => S k x.1 x.2) :=
  FnOkC.of_ev (C := ct) tab_ok rfl (calOf_ok (cal_ok k)) mixed Try.func15 nt k (fun _ _ => rfl) (fun (x : Int × Int) (_ : Unit) => eq k x.1 x.2)
theorem hd {T : Type} (k : Nat) : HdOk Try.prog 15 (pureC (T := T) ct [] (fun (x : Int × Int) (_ : Unit) => S k x.1 x.2)) :=
  pureC_ok rfl [] (ok k) Try.call15
end F_aqueductlaw20_from
namespace F_aqueductref11_Same
/-! ### aqueduct/aqueductref11.Same: function 16 -/
noncomputable def ct : Ct := ⟨.some (.cons (.row false 3 [.int .i64]) (.one (.row false 3 [.int .i64]) [])), [], [⟨.val (.leaf .bool), [], []⟩]⟩
noncomputable def nt : Notes := ⟨[(4, ⟨[0, 1, 5], []⟩)], [], [(6, [0, 1, 2, 3, 4, 5, 6, 7, 8])], [], []⟩
noncomputable def cal0 {T : Type} (k : Nat) : List (FuncId × Hd T) := []
theorem cal0_ok {T : Type} (k : Nat) : HdsOk Try.prog (cal0 (T := T) k) := trivial
noncomputable def cal {T : Type} (k : Nat) : List (FuncId × Hd T) := cal0 k
theorem cal_ok {T : Type} (k : Nat) : HdsOk Try.prog (cal (T := T) k) := cal0_ok k
noncomputable abbrev la (k : Nat) (Rs : List (Fr → St → O (Bool))) (ds : List Dir) (j : Nat) : Fr → St → O (Bool) := loopAt tab (calOf (cal k)) Go.Proofs.Try.f16.ntmps nt k Rs ds (bodyOf Go.Proofs.Try.f16) (finK tab Go.Proofs.Try.f16.results.toList (fun v st => outK ct.ob (γ0 ct) ct.outs v st .ok) (fun e st => outP ct.ob (γ0 ct) ct.outs e st .ok)) j
noncomputable abbrev zl0 {α : Type} (X : Fr → St → α) (a0 : List Int) (a1 : List Int) (v1 : Int) : α := X ⟨[(0, .osl 0), (1, .osl 1), (5, .int .i64 v1)], [], 0, []⟩ ⟨2, true, [(0, .row false 3 [.int .i64] a0), (1, .row false 3 [.int .i64] a1)]⟩
noncomputable def l0_b (k : Nat) (a0 : List Int) (a1 : List Int) (R_l0 : Int → O Bool) (v1 : Int) : O Bool :=
  O.cond (decide (v1 < (List.length a0 : Int))) (
   O.chk (decide (0 ≤ v1 ∧ v1 < (List.length a0 : Int) ∧ (List.length a0 : Int) ≤ (List.length a0 : Int))) (
    O.chk (decide (0 ≤ v1 ∧ v1 < (List.length a0 : Int))) (
     O.chk (decide (0 ≤ v1 ∧ v1 < (List.length a1 : Int) ∧ (List.length a1 : Int) ≤ (List.length a1 : Int))) (
      O.chk (decide (0 ≤ v1 ∧ v1 < (List.length a1 : Int))) (
       O.cond (decide ((gt (0 : Int) a0 v1) ≠ (gt (0 : Int) a1 v1))) (
        .ok false) (
        R_l0 (IntKind.i64.wrap (v1 + (1 : Int))))))))) (
   .ok true)
noncomputable def l0 (k : Nat) (a0 : List Int) (a1 : List Int) : Nat → Int → O Bool
  | 0, _ => .no
  | j + 1, v1 => l0_b k a0 a1 (l0 k a0 a1 j) v1
theorem l0_eq (k : Nat) (a0 : List Int) (a1 : List Int) : ∀ (j : Nat) (v1 : Int), zl0 (la k [] [.r, .r, .l, .r, .b] j) a0 a1 v1 = l0 k a0 a1 j v1 := by
  intro j
  induction j with
  | zero => intro v1; rfl
  | succ j ih =>
    intro v1
    have rs : (fun (v1' : Int) => zl0 (la k [] [.r, .r, .l, .r, .b] j) a0 a1 v1') = l0 k a0 a1 j := by funext v1'; exact ih v1'
    have h : zl0 (la k [] [.r, .r, .l, .r, .b] (j + 1)) a0 a1 v1 = l0_b k a0 a1 ((fun (v1' : Int) => zl0 (la k [] [.r, .r, .l, .r, .b] j) a0 a1 v1')) v1 := by kernel_rfl
    exact h.trans (by rw [rs]; rfl)
noncomputable def top (k : Nat) (a0 : List Int) (a1 : List Int) (D_l0 : Int → O Bool) : O Bool :=
  O.cond (decide ((List.length a0 : Int) ≠ (List.length a1 : Int))) (
   .ok false) (
   D_l0 (0 : Int))
noncomputable def S (k : Nat) (a0 : List Int) (a1 : List Int) : O Bool := top k a0 a1 ((fun (v1 : Int) => l0 k a0 a1 k v1))
theorem eq (k : Nat) (a0 : List Int) (a1 : List Int) : evFn (T := Bool) tab (calOf (cal k)) Go.Proofs.Try.f16 nt k 0 [.osl 0, .osl 1] [] ⟨2, false, [(1, .row false 3 [.int .i64] a1), (0, .row false 3 [.int .i64] a0)]⟩ (fun v st => outK ct.ob (γ0 ct) ct.outs v st .ok) (fun e st => outP ct.ob (γ0 ct) ct.outs e st .ok) = S k a0 a1 := by
  have e0 : (fun (v1 : Int) => zl0 (la k [] [.r, .r, .l, .r, .b] k) a0 a1 v1) = (fun (v1 : Int) => l0 k a0 a1 k v1) := by funext v1; exact l0_eq k a0 a1 k v1
  have h : evFn (T := Bool) tab (calOf (cal k)) Go.Proofs.Try.f16 nt k 0 [.osl 0, .osl 1] [] ⟨2, false, [(1, .row false 3 [.int .i64] a1), (0, .row false 3 [.int .i64] a0)]⟩ (fun v st => outK ct.ob (γ0 ct) ct.outs v st .ok) (fun e st => outP ct.ob (γ0 ct) ct.outs e st .ok) = top k a0 a1 ((fun (v1 : Int) => zl0 (la k [] [.r, .r, .l, .r, .b] k) a0 a1 v1)) := by kernel_rfl
  exact h.trans (by rw [e0]; rfl)
theorem ok (k : Nat) : FnOkC Try.prog 16 ct (fun (x : List Int × List Int) (_ : Unit) => S k x.1 x.2) :=
  FnOkC.of_ev (C := ct) tab_ok rfl (calOf_ok (cal_ok k)) mixed Try.func16 nt k (fun _ _ => rfl) (fun (x : List Int × List Int) (_ : Unit) => eq k x.1 x.2)
theorem hd {T : Type} (k : Nat) : HdOk Try.prog 16 (pureC (T := T) ct [] (fun (x : List Int × List Int) (_ : Unit) => S k x.1 x.2)) :=
  pureC_ok rfl [] (ok k) Try.call16
end F_aqueductref11_Same
end Go.Proofs.Ytkihcmcaignmkaa
end
section
/- What this seat's functions come to, as plain functions, each with the proof that the code does just that. Printed by a program of this repo (wip/gen4/gen.py). -/
namespace Go.Proofs.Ytkihcmcaignmkaa
open Go.Aq
set_option linter.unusedVariables false
set_option maxRecDepth 100000
namespace F_aqueductlaw20_fixed
/-! ### aqueduct/aqueductlaw20.fixed: function 13 -/
noncomputable def ct : Ct := ⟨.none, [], [⟨.val (.leaf .bool), [], []⟩]⟩
noncomputable def nt : Notes := ⟨[], [], [], [], []⟩
noncomputable def cal0 {T : Type} (k : Nat) : List (FuncId × Hd T) := [(10, pureC F_bridge_Bridge_In.ct [.arg 0 0, .fld 0 1] (fun (x : Int × ByteArray) (g : TY2 × TY3) => F_bridge_Bridge_In.S k x.1 x.2 g.1 g.2)), (11, pureC F_bridge_Bridge_Out.ct [.arg 0 0, .fld 0 1] (fun (x : Int) (g : TY2 × TY3) => F_bridge_Bridge_Out.S k x g.1 g.2)), (14, pureC F_bridge_New.ct [] (fun (x : TY8 × Int × Int × Int) (_ : Unit) => F_bridge_New.S k x.1 x.2.1 x.2.2.1 x.2.2.2)), (15, pureC F_aqueductlaw20_from.ct [] (fun (x : Int × Int) (_ : Unit) => F_aqueductlaw20_from.S k x.1 x.2)), (16, pureC F_aqueductref11_Same.ct [] (fun (x : List Int × List Int) (_ : Unit) => F_aqueductref11_Same.S k x.1 x.2)), (57, pureC F_fdb_Table_Rows.ct [.arg 0 0] (fun (_ : Unit) (g : Int × Int × TY0) => F_fdb_Table_Rows.S k g))]
theorem cal0_ok {T : Type} (k : Nat) : HdsOk Try.prog (cal0 (T := T) k) := ⟨F_bridge_Bridge_In.hd k, F_bridge_Bridge_Out.hd k, F_bridge_New.hd k, F_aqueductlaw20_from.hd k, F_aqueductref11_Same.hd k, F_fdb_Table_Rows.hd k, trivial⟩
noncomputable def nt9 : Notes := ⟨[], [], [], [], []⟩
noncomputable def cal1 {T : Type} (k : Nat) : List (FuncId × Hd T) := (9, inlH tab (calOf (cal0 k)) Go.Proofs.Try.f9 nt9 k) :: cal0 k
theorem cal1_ok {T : Type} (k : Nat) : HdsOk Try.prog (cal1 (T := T) k) := ⟨inlH_ok tab_ok (calOf_ok (cal0_ok k)) mixed Try.func9 nt9 k Try.call9, cal0_ok k⟩
noncomputable def nt32 : Notes := ⟨[], [], [], [], []⟩
noncomputable def cal2 {T : Type} (k : Nat) : List (FuncId × Hd T) := (32, inlH tab (calOf (cal1 k)) Go.Proofs.Try.f32 nt32 k) :: cal1 k
theorem cal2_ok {T : Type} (k : Nat) : HdsOk Try.prog (cal2 (T := T) k) := ⟨inlH_ok tab_ok (calOf_ok (cal1_ok k)) mixed Try.func32 nt32 k Try.call32, cal1_ok k⟩
noncomputable def nt12 : Notes := ⟨[], [], [], [], []⟩
noncomputable def cal3 {T : Type} (k : Nat) : List (FuncId × Hd T) := (12, inlH tab (calOf (cal2 k)) Go.Proofs.Try.f12 nt12 k) :: cal2 k
theorem cal3_ok {T : Type} (k : Nat) : HdsOk Try.prog (cal3 (T := T) k) := ⟨inlH_ok tab_ok (calOf_ok (cal2_ok k)) mixed Try.func12 nt12 k Try.call12, cal2_ok k⟩
noncomputable def nt33 : Notes := ⟨[], [], [], [], []⟩
noncomputable def cal4 {T : Type} (k : Nat) : List (FuncId × Hd T) := (33, inlH tab (calOf (cal3 k)) Go.Proofs.Try.f33 nt33 k) :: cal3 k
theorem cal4_ok {T : Type} (k : Nat) : HdsOk Try.prog (cal4 (T := T) k) := ⟨inlH_ok tab_ok (calOf_ok (cal3_ok k)) mixed Try.func33 nt33 k Try.call33, cal3_ok k⟩
noncomputable def cal {T : Type} (k : Nat) : List (FuncId × Hd T) := cal4 k
theorem cal_ok {T : Type} (k : Nat) : HdsOk Try.prog (cal (T := T) k) := cal4_ok k
noncomputable def S (k : Nat) : O Bool :=
  O.chk (decide (0 ≤ (3 : Int) ∧ (3 : Int) = (3 : Int) ∧ (3 : Int) ≤ 1073741824)) (
   O.sum (F_bridge_New.S k (List.replicate (3 : Int).toNat ((0 : Int), [])) (9 : Int) (9 : Int) (2 : Int)) (fun r3 =>
    O.sum (F_bridge_New.S k [] (9 : Int) (9 : Int) (2 : Int)) (fun r5 =>
     O.chk (decide (0 ≤ (3 : Int) ∧ (3 : Int) = (3 : Int) ∧ (3 : Int) ≤ 1073741824)) (
      O.sum (F_bridge_New.S k (List.replicate (3 : Int).toNat ((0 : Int), [])) (0 : Int) (9 : Int) (2 : Int)) (fun r7 =>
       O.chk (decide (0 ≤ (3 : Int) ∧ (3 : Int) = (3 : Int) ∧ (3 : Int) ≤ 1073741824)) (
        O.sum (F_bridge_New.S k (List.replicate (3 : Int).toNat ((0 : Int), [])) (9 : Int) (9 : Int) (0 : Int)) (fun r9 =>
         .ok false) fun r10 =>
        .ok false)) fun r8 =>
      O.chk (decide (0 ≤ (3 : Int) ∧ (3 : Int) = (3 : Int) ∧ (3 : Int) ≤ 1073741824)) (
       O.sum (F_bridge_New.S k (List.replicate (3 : Int).toNat ((0 : Int), [])) (9 : Int) (9 : Int) (0 : Int)) (fun r11 =>
        .ok false) fun r12 =>
       .ok false))) fun r6 =>
    O.chk (decide (0 ≤ (3 : Int) ∧ (3 : Int) = (3 : Int) ∧ (3 : Int) ≤ 1073741824)) (
     O.sum (F_bridge_New.S k (List.replicate (3 : Int).toNat ((0 : Int), [])) (0 : Int) (9 : Int) (2 : Int)) (fun r13 =>
      O.chk (decide (0 ≤ (3 : Int) ∧ (3 : Int) = (3 : Int) ∧ (3 : Int) ≤ 1073741824)) (
       O.sum (F_bridge_New.S k (List.replicate (3 : Int).toNat ((0 : Int), [])) (9 : Int) (9 : Int) (0 : Int)) (fun r15 =>
        .ok false) fun r16 =>
       .ok false)) fun r14 =>
     O.chk (decide (0 ≤ (3 : Int) ∧ (3 : Int) = (3 : Int) ∧ (3 : Int) ≤ 1073741824)) (
      O.sum (F_bridge_New.S k (List.replicate (3 : Int).toNat ((0 : Int), [])) (9 : Int) (9 : Int) (0 : Int)) (fun r17 =>
       .ok false) fun r18 =>
      .ok false))) fun r4 =>
   O.sum (F_bridge_New.S k [] (9 : Int) (9 : Int) (2 : Int)) (fun r19 =>
    O.chk (decide (0 ≤ (3 : Int) ∧ (3 : Int) = (3 : Int) ∧ (3 : Int) ≤ 1073741824)) (
     O.sum (F_bridge_New.S k (List.replicate (3 : Int).toNat ((0 : Int), [])) (0 : Int) (9 : Int) (2 : Int)) (fun r21 =>
      O.chk (decide (0 ≤ (3 : Int) ∧ (3 : Int) = (3 : Int) ∧ (3 : Int) ≤ 1073741824)) (
       O.sum (F_bridge_New.S k (List.replicate (3 : Int).toNat ((0 : Int), [])) (9 : Int) (9 : Int) (0 : Int)) (fun r23 =>
        O.cond (decide (r4.1 ≠ (0 : Int))) (
         .ok false) (
         O.bind (F_aqueductlaw20_from.S k (1 : Int) (2 : Int)) fun r27 =>
         O.bind (F_bridge_Bridge_In.S k (0 : Int) r27 r4.2.1 r4.2.2) fun r28 =>
         O.bind (F_aqueductlaw20_from.S k (2 : Int) (1 : Int)) fun r31 =>
         O.bind (F_bridge_Bridge_In.S k (1 : Int) r31 r28.2.1 r28.2.2) fun r32 =>
         O.bind (F_aqueductlaw20_from.S k (3 : Int) (1 : Int)) fun r35 =>
         O.bind (F_bridge_Bridge_In.S k (0 : Int) r35 r32.2.1 r32.2.2) fun r36 =>
         O.bind (F_aqueductlaw20_from.S k (3 : Int) (1 : Int)) fun r39 =>
         O.bind (F_bridge_Bridge_In.S k (3 : Int) r39 r36.2.1 r36.2.2) fun r40 =>
         O.bind (F_bridge_Bridge_Out.S k (2 : Int) r40.2.1 r40.2.2) fun r42 =>
         O.bind (F_bridge_Bridge_Out.S k (2 : Int) r42.2.1 r42.2.2) fun r44 =>
         O.cond (decide (r19 = (200 : Int))) (
          O.cond (decide (r21 = (180 : Int))) (
           O.cond (decide (r23 = (190 : Int))) (
            O.bind (F_aqueductref11_Same.S k r28.1.1 [(1 : Int), (2 : Int)]) fun r45 =>
            O.cond r45 (
             O.cond (decide (r28.1.2 = (0 : Int))) (
              O.bind (F_aqueductref11_Same.S k r32.1.1 [(0 : Int)]) fun r46 =>
              O.cond r46 (
               O.cond (decide (r32.1.2 = (0 : Int))) (
                O.cond (decide ((List.length r36.1.1 : Int) = (0 : Int))) (
                 O.cond (decide (r36.1.2 = (0 : Int))) (
                  O.cond (decide (r40.1.2 = (1 : Int))) (
                   O.bind (F_aqueductlaw20_from.S k (1 : Int) (2 : Int)) fun r47 =>
                   O.cond (decide (r42.1.1 = r47)) (
                    O.cond r42.1.2 (
                     O.cond (decide (r44.1.1 = (⟨#[]⟩ : ByteArray))) (
                      O.cond (!r44.1.2) (
                       O.cond (decide (r44.2.1.2.2.1 = (3 : Int)) && (decide (r44.2.1.2.2.2.1 = (0 : Int)) && (decide (r44.2.1.2.2.2.2.1 = (0 : Int)) && (decide (r44.2.1.2.2.2.2.2.1 = (1 : Int)) && (decide (r44.2.1.2.2.2.2.2.2.1 = (3 : Int)) && (decide (r44.2.1.2.2.2.2.2.2.2 = (0 : Int)) && true)))))) (
                        O.cond (decide ((1 : Int) ≥ (List.length r44.2.1.1 : Int))) (
                         O.cond false (
                          O.bind (F_fdb_Table_Rows.S k r44.2.2) fun r48 =>
                          .ok (decide ((List.length r48.1 : Int) = (3 : Int)))) (
                          .ok false)) (
                         O.chk (decide (0 ≤ (1 : Int) ∧ (1 : Int) < (List.length r44.2.1.2.1 : Int))) (
                          O.chk (decide (0 ≤ (1 : Int) ∧ (1 : Int) < (List.length r44.2.1.2.1 : Int))) (
                           O.cond (decide ((List.length ((gt ([], (0 : Int), (0 : Int)) r44.2.1.2.1 (1 : Int)).1) : Int) = (1 : Int))) (
                            O.bind (F_fdb_Table_Rows.S k r44.2.2) fun r49 =>
                            .ok (decide ((List.length r49.1 : Int) = (3 : Int)))) (
                            .ok false))))) (
                        .ok false)) (
                       .ok false)) (
                      .ok false)) (
                     .ok false)) (
                    .ok false)) (
                   .ok false)) (
                  .ok false)) (
                 .ok false)) (
                .ok false)) (
               .ok false)) (
              .ok false)) (
             .ok false)) (
            .ok false)) (
           .ok false)) (
          .ok false))) fun r24 =>
       O.cond (decide (r4.1 ≠ (0 : Int))) (
        .ok false) (
        O.bind (F_aqueductlaw20_from.S k (1 : Int) (2 : Int)) fun r50 =>
        O.bind (F_bridge_Bridge_In.S k (0 : Int) r50 r4.2.1 r4.2.2) fun r51 =>
        O.bind (F_aqueductlaw20_from.S k (2 : Int) (1 : Int)) fun r52 =>
        O.bind (F_bridge_Bridge_In.S k (1 : Int) r52 r51.2.1 r51.2.2) fun r53 =>
        O.bind (F_aqueductlaw20_from.S k (3 : Int) (1 : Int)) fun r54 =>
        O.bind (F_bridge_Bridge_In.S k (0 : Int) r54 r53.2.1 r53.2.2) fun r55 =>
        O.bind (F_aqueductlaw20_from.S k (3 : Int) (1 : Int)) fun r56 =>
        O.bind (F_bridge_Bridge_In.S k (3 : Int) r56 r55.2.1 r55.2.2) fun r57 =>
        O.bind (F_bridge_Bridge_Out.S k (2 : Int) r57.2.1 r57.2.2) fun r58 =>
        O.bind (F_bridge_Bridge_Out.S k (2 : Int) r58.2.1 r58.2.2) fun r59 =>
        O.cond (decide (r19 = (200 : Int))) (
         O.cond (decide (r21 = (180 : Int))) (
          O.cond (decide (r24.1 = (190 : Int))) (
           O.bind (F_aqueductref11_Same.S k r51.1.1 [(1 : Int), (2 : Int)]) fun r60 =>
           O.cond r60 (
            O.cond (decide (r51.1.2 = (0 : Int))) (
             O.bind (F_aqueductref11_Same.S k r53.1.1 [(0 : Int)]) fun r61 =>
             O.cond r61 (
              O.cond (decide (r53.1.2 = (0 : Int))) (
               O.cond (decide ((List.length r55.1.1 : Int) = (0 : Int))) (
                O.cond (decide (r55.1.2 = (0 : Int))) (
                 O.cond (decide (r57.1.2 = (1 : Int))) (
                  O.bind (F_aqueductlaw20_from.S k (1 : Int) (2 : Int)) fun r62 =>
                  O.cond (decide (r58.1.1 = r62)) (
                   O.cond r58.1.2 (
                    O.cond (decide (r59.1.1 = (⟨#[]⟩ : ByteArray))) (
                     O.cond (!r59.1.2) (
                      O.cond (decide (r59.2.1.2.2.1 = (3 : Int)) && (decide (r59.2.1.2.2.2.1 = (0 : Int)) && (decide (r59.2.1.2.2.2.2.1 = (0 : Int)) && (decide (r59.2.1.2.2.2.2.2.1 = (1 : Int)) && (decide (r59.2.1.2.2.2.2.2.2.1 = (3 : Int)) && (decide (r59.2.1.2.2.2.2.2.2.2 = (0 : Int)) && true)))))) (
                       O.cond (decide ((1 : Int) ≥ (List.length r59.2.1.1 : Int))) (
                        O.cond false (
                         O.bind (F_fdb_Table_Rows.S k r59.2.2) fun r63 =>
                         .ok (decide ((List.length r63.1 : Int) = (3 : Int)))) (
                         .ok false)) (
                        O.chk (decide (0 ≤ (1 : Int) ∧ (1 : Int) < (List.length r59.2.1.2.1 : Int))) (
                         O.chk (decide (0 ≤ (1 : Int) ∧ (1 : Int) < (List.length r59.2.1.2.1 : Int))) (
                          O.cond (decide ((List.length ((gt ([], (0 : Int), (0 : Int)) r59.2.1.2.1 (1 : Int)).1) : Int) = (1 : Int))) (
                           O.bind (F_fdb_Table_Rows.S k r59.2.2) fun r64 =>
                           .ok (decide ((List.length r64.1 : Int) = (3 : Int)))) (
                           .ok false))))) (
                       .ok false)) (
                      .ok false)) (
                     .ok false)) (
                    .ok false)) (
                   .ok false)) (
                  .ok false)) (
                 .ok false)) (
                .ok false)) (
               .ok false)) (
              .ok false)) (
             .ok false)) (
            .ok false)) (
           .ok false)) (
          .ok false)) (
         .ok false)))) fun r22 =>
     O.chk (decide (0 ≤ (3 : Int) ∧ (3 : Int) = (3 : Int) ∧ (3 : Int) ≤ 1073741824)) (
      O.sum (F_bridge_New.S k (List.replicate (3 : Int).toNat ((0 : Int), [])) (9 : Int) (9 : Int) (0 : Int)) (fun r65 =>
       O.cond (decide (r4.1 ≠ (0 : Int))) (
        .ok false) (
        O.bind (F_aqueductlaw20_from.S k (1 : Int) (2 : Int)) fun r67 =>
        O.bind (F_bridge_Bridge_In.S k (0 : Int) r67 r4.2.1 r4.2.2) fun r68 =>
        O.bind (F_aqueductlaw20_from.S k (2 : Int) (1 : Int)) fun r69 =>
        O.bind (F_bridge_Bridge_In.S k (1 : Int) r69 r68.2.1 r68.2.2) fun r70 =>
        O.bind (F_aqueductlaw20_from.S k (3 : Int) (1 : Int)) fun r71 =>
        O.bind (F_bridge_Bridge_In.S k (0 : Int) r71 r70.2.1 r70.2.2) fun r72 =>
        O.bind (F_aqueductlaw20_from.S k (3 : Int) (1 : Int)) fun r73 =>
        O.bind (F_bridge_Bridge_In.S k (3 : Int) r73 r72.2.1 r72.2.2) fun r74 =>
        O.bind (F_bridge_Bridge_Out.S k (2 : Int) r74.2.1 r74.2.2) fun r75 =>
        O.bind (F_bridge_Bridge_Out.S k (2 : Int) r75.2.1 r75.2.2) fun r76 =>
        O.cond (decide (r19 = (200 : Int))) (
         O.cond (decide (r22.1 = (180 : Int))) (
          O.cond (decide (r65 = (190 : Int))) (
           O.bind (F_aqueductref11_Same.S k r68.1.1 [(1 : Int), (2 : Int)]) fun r77 =>
           O.cond r77 (
            O.cond (decide (r68.1.2 = (0 : Int))) (
             O.bind (F_aqueductref11_Same.S k r70.1.1 [(0 : Int)]) fun r78 =>
             O.cond r78 (
              O.cond (decide (r70.1.2 = (0 : Int))) (
               O.cond (decide ((List.length r72.1.1 : Int) = (0 : Int))) (
                O.cond (decide (r72.1.2 = (0 : Int))) (
                 O.cond (decide (r74.1.2 = (1 : Int))) (
                  O.bind (F_aqueductlaw20_from.S k (1 : Int) (2 : Int)) fun r79 =>
                  O.cond (decide (r75.1.1 = r79)) (
                   O.cond r75.1.2 (
                    O.cond (decide (r76.1.1 = (⟨#[]⟩ : ByteArray))) (
                     O.cond (!r76.1.2) (
                      O.cond (decide (r76.2.1.2.2.1 = (3 : Int)) && (decide (r76.2.1.2.2.2.1 = (0 : Int)) && (decide (r76.2.1.2.2.2.2.1 = (0 : Int)) && (decide (r76.2.1.2.2.2.2.2.1 = (1 : Int)) && (decide (r76.2.1.2.2.2.2.2.2.1 = (3 : Int)) && (decide (r76.2.1.2.2.2.2.2.2.2 = (0 : Int)) && true)))))) (
                       O.cond (decide ((1 : Int) ≥ (List.length r76.2.1.1 : Int))) (
                        O.cond false (
                         O.bind (F_fdb_Table_Rows.S k r76.2.2) fun r80 =>
                         .ok (decide ((List.length r80.1 : Int) = (3 : Int)))) (
                         .ok false)) (
                        O.chk (decide (0 ≤ (1 : Int) ∧ (1 : Int) < (List.length r76.2.1.2.1 : Int))) (
                         O.chk (decide (0 ≤ (1 : Int) ∧ (1 : Int) < (List.length r76.2.1.2.1 : Int))) (
                          O.cond (decide ((List.length ((gt ([], (0 : Int), (0 : Int)) r76.2.1.2.1 (1 : Int)).1) : Int) = (1 : Int))) (
                           O.bind (F_fdb_Table_Rows.S k r76.2.2) fun r81 =>
                           .ok (decide ((List.length r81.1 : Int) = (3 : Int)))) (
                           .ok false))))) (
                       .ok false)) (
                      .ok false)) (
                     .ok false)) (
                    .ok false)) (
                   .ok false)) (
                  .ok false)) (
                 .ok false)) (
                .ok false)) (
               .ok false)) (
              .ok false)) (
             .ok false)) (
            .ok false)) (
           .ok false)) (
          .ok false)) (
         .ok false))) fun r66 =>
      O.cond (decide (r4.1 ≠ (0 : Int))) (
       .ok false) (
       O.bind (F_aqueductlaw20_from.S k (1 : Int) (2 : Int)) fun r82 =>
       O.bind (F_bridge_Bridge_In.S k (0 : Int) r82 r4.2.1 r4.2.2) fun r83 =>
       O.bind (F_aqueductlaw20_from.S k (2 : Int) (1 : Int)) fun r84 =>
       O.bind (F_bridge_Bridge_In.S k (1 : Int) r84 r83.2.1 r83.2.2) fun r85 =>
       O.bind (F_aqueductlaw20_from.S k (3 : Int) (1 : Int)) fun r86 =>
       O.bind (F_bridge_Bridge_In.S k (0 : Int) r86 r85.2.1 r85.2.2) fun r87 =>
       O.bind (F_aqueductlaw20_from.S k (3 : Int) (1 : Int)) fun r88 =>
       O.bind (F_bridge_Bridge_In.S k (3 : Int) r88 r87.2.1 r87.2.2) fun r89 =>
       O.bind (F_bridge_Bridge_Out.S k (2 : Int) r89.2.1 r89.2.2) fun r90 =>
       O.bind (F_bridge_Bridge_Out.S k (2 : Int) r90.2.1 r90.2.2) fun r91 =>
       O.cond (decide (r19 = (200 : Int))) (
        O.cond (decide (r22.1 = (180 : Int))) (
         O.cond (decide (r66.1 = (190 : Int))) (
          O.bind (F_aqueductref11_Same.S k r83.1.1 [(1 : Int), (2 : Int)]) fun r92 =>
          O.cond r92 (
           O.cond (decide (r83.1.2 = (0 : Int))) (
            O.bind (F_aqueductref11_Same.S k r85.1.1 [(0 : Int)]) fun r93 =>
            O.cond r93 (
             O.cond (decide (r85.1.2 = (0 : Int))) (
              O.cond (decide ((List.length r87.1.1 : Int) = (0 : Int))) (
               O.cond (decide (r87.1.2 = (0 : Int))) (
                O.cond (decide (r89.1.2 = (1 : Int))) (
                 O.bind (F_aqueductlaw20_from.S k (1 : Int) (2 : Int)) fun r94 =>
                 O.cond (decide (r90.1.1 = r94)) (
                  O.cond r90.1.2 (
                   O.cond (decide (r91.1.1 = (⟨#[]⟩ : ByteArray))) (
                    O.cond (!r91.1.2) (
                     O.cond (decide (r91.2.1.2.2.1 = (3 : Int)) && (decide (r91.2.1.2.2.2.1 = (0 : Int)) && (decide (r91.2.1.2.2.2.2.1 = (0 : Int)) && (decide (r91.2.1.2.2.2.2.2.1 = (1 : Int)) && (decide (r91.2.1.2.2.2.2.2.2.1 = (3 : Int)) && (decide (r91.2.1.2.2.2.2.2.2.2 = (0 : Int)) && true)))))) (
                      O.cond (decide ((1 : Int) ≥ (List.length r91.2.1.1 : Int))) (
                       O.cond false (
                        O.bind (F_fdb_Table_Rows.S k r91.2.2) fun r95 =>
                        .ok (decide ((List.length r95.1 : Int) = (3 : Int)))) (
                        .ok false)) (
                       O.chk (decide (0 ≤ (1 : Int) ∧ (1 : Int) < (List.length r91.2.1.2.1 : Int))) (
                        O.chk (decide (0 ≤ (1 : Int) ∧ (1 : Int) < (List.length r91.2.1.2.1 : Int))) (
                         O.cond (decide ((List.length ((gt ([], (0 : Int), (0 : Int)) r91.2.1.2.1 (1 : Int)).1) : Int) = (1 : Int))) (
                          O.bind (F_fdb_Table_Rows.S k r91.2.2) fun r96 =>
                          .ok (decide ((List.length r96.1 : Int) = (3 : Int)))) (
                          .ok false))))) (
                      .ok false)) (
                     .ok false)) (
                    .ok false)) (
                   .ok false)) (
                  .ok false)) (
                 .ok false)) (
                .ok false)) (
               .ok false)) (
              .ok false)) (
             .ok false)) (
            .ok false)) (
           .ok false)) (
          .ok false)) (
         .ok false)) (
        .ok false))))) fun r20 =>
   O.chk (decide (0 ≤ (3 : Int) ∧ (3 : Int) = (3 : Int) ∧ (3 : Int) ≤ 1073741824)) (
    O.sum (F_bridge_New.S k (List.replicate (3 : Int).toNat ((0 : Int), [])) (0 : Int) (9 : Int) (2 : Int)) (fun r97 =>
     O.chk (decide (0 ≤ (3 : Int) ∧ (3 : Int) = (3 : Int) ∧ (3 : Int) ≤ 1073741824)) (
      O.sum (F_bridge_New.S k (List.replicate (3 : Int).toNat ((0 : Int), [])) (9 : Int) (9 : Int) (0 : Int)) (fun r99 =>
       O.cond (decide (r4.1 ≠ (0 : Int))) (
        .ok false) (
        O.bind (F_aqueductlaw20_from.S k (1 : Int) (2 : Int)) fun r101 =>
        O.bind (F_bridge_Bridge_In.S k (0 : Int) r101 r4.2.1 r4.2.2) fun r102 =>
        O.bind (F_aqueductlaw20_from.S k (2 : Int) (1 : Int)) fun r103 =>
        O.bind (F_bridge_Bridge_In.S k (1 : Int) r103 r102.2.1 r102.2.2) fun r104 =>
        O.bind (F_aqueductlaw20_from.S k (3 : Int) (1 : Int)) fun r105 =>
        O.bind (F_bridge_Bridge_In.S k (0 : Int) r105 r104.2.1 r104.2.2) fun r106 =>
        O.bind (F_aqueductlaw20_from.S k (3 : Int) (1 : Int)) fun r107 =>
        O.bind (F_bridge_Bridge_In.S k (3 : Int) r107 r106.2.1 r106.2.2) fun r108 =>
        O.bind (F_bridge_Bridge_Out.S k (2 : Int) r108.2.1 r108.2.2) fun r109 =>
        O.bind (F_bridge_Bridge_Out.S k (2 : Int) r109.2.1 r109.2.2) fun r110 =>
        O.cond (decide (r20.1 = (200 : Int))) (
         O.cond (decide (r97 = (180 : Int))) (
          O.cond (decide (r99 = (190 : Int))) (
           O.bind (F_aqueductref11_Same.S k r102.1.1 [(1 : Int), (2 : Int)]) fun r111 =>
           O.cond r111 (
            O.cond (decide (r102.1.2 = (0 : Int))) (
             O.bind (F_aqueductref11_Same.S k r104.1.1 [(0 : Int)]) fun r112 =>
             O.cond r112 (
              O.cond (decide (r104.1.2 = (0 : Int))) (
               O.cond (decide ((List.length r106.1.1 : Int) = (0 : Int))) (
                O.cond (decide (r106.1.2 = (0 : Int))) (
                 O.cond (decide (r108.1.2 = (1 : Int))) (
                  O.bind (F_aqueductlaw20_from.S k (1 : Int) (2 : Int)) fun r113 =>
                  O.cond (decide (r109.1.1 = r113)) (
                   O.cond r109.1.2 (
                    O.cond (decide (r110.1.1 = (⟨#[]⟩ : ByteArray))) (
                     O.cond (!r110.1.2) (
                      O.cond (decide (r110.2.1.2.2.1 = (3 : Int)) && (decide (r110.2.1.2.2.2.1 = (0 : Int)) && (decide (r110.2.1.2.2.2.2.1 = (0 : Int)) && (decide (r110.2.1.2.2.2.2.2.1 = (1 : Int)) && (decide (r110.2.1.2.2.2.2.2.2.1 = (3 : Int)) && (decide (r110.2.1.2.2.2.2.2.2.2 = (0 : Int)) && true)))))) (
                       O.cond (decide ((1 : Int) ≥ (List.length r110.2.1.1 : Int))) (
                        O.cond false (
                         O.bind (F_fdb_Table_Rows.S k r110.2.2) fun r114 =>
                         .ok (decide ((List.length r114.1 : Int) = (3 : Int)))) (
                         .ok false)) (
                        O.chk (decide (0 ≤ (1 : Int) ∧ (1 : Int) < (List.length r110.2.1.2.1 : Int))) (
                         O.chk (decide (0 ≤ (1 : Int) ∧ (1 : Int) < (List.length r110.2.1.2.1 : Int))) (
                          O.cond (decide ((List.length ((gt ([], (0 : Int), (0 : Int)) r110.2.1.2.1 (1 : Int)).1) : Int) = (1 : Int))) (
                           O.bind (F_fdb_Table_Rows.S k r110.2.2) fun r115 =>
                           .ok (decide ((List.length r115.1 : Int) = (3 : Int)))) (
                           .ok false))))) (
                       .ok false)) (
                      .ok false)) (
                     .ok false)) (
                    .ok false)) (
                   .ok false)) (
                  .ok false)) (
                 .ok false)) (
                .ok false)) (
               .ok false)) (
              .ok false)) (
             .ok false)) (
            .ok false)) (
           .ok false)) (
          .ok false)) (
         .ok false))) fun r100 =>
      O.cond (decide (r4.1 ≠ (0 : Int))) (
       .ok false) (
       O.bind (F_aqueductlaw20_from.S k (1 : Int) (2 : Int)) fun r116 =>
       O.bind (F_bridge_Bridge_In.S k (0 : Int) r116 r4.2.1 r4.2.2) fun r117 =>
       O.bind (F_aqueductlaw20_from.S k (2 : Int) (1 : Int)) fun r118 =>
       O.bind (F_bridge_Bridge_In.S k (1 : Int) r118 r117.2.1 r117.2.2) fun r119 =>
       O.bind (F_aqueductlaw20_from.S k (3 : Int) (1 : Int)) fun r120 =>
       O.bind (F_bridge_Bridge_In.S k (0 : Int) r120 r119.2.1 r119.2.2) fun r121 =>
       O.bind (F_aqueductlaw20_from.S k (3 : Int) (1 : Int)) fun r122 =>
       O.bind (F_bridge_Bridge_In.S k (3 : Int) r122 r121.2.1 r121.2.2) fun r123 =>
       O.bind (F_bridge_Bridge_Out.S k (2 : Int) r123.2.1 r123.2.2) fun r124 =>
       O.bind (F_bridge_Bridge_Out.S k (2 : Int) r124.2.1 r124.2.2) fun r125 =>
       O.cond (decide (r20.1 = (200 : Int))) (
        O.cond (decide (r97 = (180 : Int))) (
         O.cond (decide (r100.1 = (190 : Int))) (
          O.bind (F_aqueductref11_Same.S k r117.1.1 [(1 : Int), (2 : Int)]) fun r126 =>
          O.cond r126 (
           O.cond (decide (r117.1.2 = (0 : Int))) (
            O.bind (F_aqueductref11_Same.S k r119.1.1 [(0 : Int)]) fun r127 =>
            O.cond r127 (
             O.cond (decide (r119.1.2 = (0 : Int))) (
              O.cond (decide ((List.length r121.1.1 : Int) = (0 : Int))) (
               O.cond (decide (r121.1.2 = (0 : Int))) (
                O.cond (decide (r123.1.2 = (1 : Int))) (
                 O.bind (F_aqueductlaw20_from.S k (1 : Int) (2 : Int)) fun r128 =>
                 O.cond (decide (r124.1.1 = r128)) (
                  O.cond r124.1.2 (
                   O.cond (decide (r125.1.1 = (⟨#[]⟩ : ByteArray))) (
                    O.cond (!r125.1.2) (
                     O.cond (decide (r125.2.1.2.2.1 = (3 : Int)) && (decide (r125.2.1.2.2.2.1 = (0 : Int)) && (decide (r125.2.1.2.2.2.2.1 = (0 : Int)) && (decide (r125.2.1.2.2.2.2.2.1 = (1 : Int)) && (decide (r125.2.1.2.2.2.2.2.2.1 = (3 : Int)) && (decide (r125.2.1.2.2.2.2.2.2.2 = (0 : Int)) && true)))))) (
                      O.cond (decide ((1 : Int) ≥ (List.length r125.2.1.1 : Int))) (
                       O.cond false (
                        O.bind (F_fdb_Table_Rows.S k r125.2.2) fun r129 =>
                        .ok (decide ((List.length r129.1 : Int) = (3 : Int)))) (
                        .ok false)) (
                       O.chk (decide (0 ≤ (1 : Int) ∧ (1 : Int) < (List.length r125.2.1.2.1 : Int))) (
                        O.chk (decide (0 ≤ (1 : Int) ∧ (1 : Int) < (List.length r125.2.1.2.1 : Int))) (
                         O.cond (decide ((List.length ((gt ([], (0 : Int), (0 : Int)) r125.2.1.2.1 (1 : Int)).1) : Int) = (1 : Int))) (
                          O.bind (F_fdb_Table_Rows.S k r125.2.2) fun r130 =>
                          .ok (decide ((List.length r130.1 : Int) = (3 : Int)))) (
                          .ok false))))) (
                      .ok false)) (
                     .ok false)) (
                    .ok false)) (
                   .ok false)) (
                  .ok false)) (
                 .ok false)) (
                .ok false)) (
               .ok false)) (
              .ok false)) (
             .ok false)) (
            .ok false)) (
           .ok false)) (
          .ok false)) (
         .ok false)) (
        .ok false)))) fun r98 =>
    O.chk (decide (0 ≤ (3 : Int) ∧ (3 : Int) = (3 : Int) ∧ (3 : Int) ≤ 1073741824)) (
     O.sum (F_bridge_New.S k (List.replicate (3 : Int).toNat ((0 : Int), [])) (9 : Int) (9 : Int) (0 : Int)) (fun r131 =>
      O.cond (decide (r4.1 ≠ (0 : Int))) (
       .ok false) (
       O.bind (F_aqueductlaw20_from.S k (1 : Int) (2 : Int)) fun r133 =>
       O.bind (F_bridge_Bridge_In.S k (0 : Int) r133 r4.2.1 r4.2.2) fun r134 =>
       O.bind (F_aqueductlaw20_from.S k (2 : Int) (1 : Int)) fun r135 =>
       O.bind (F_bridge_Bridge_In.S k (1 : Int) r135 r134.2.1 r134.2.2) fun r136 =>
       O.bind (F_aqueductlaw20_from.S k (3 : Int) (1 : Int)) fun r137 =>
       O.bind (F_bridge_Bridge_In.S k (0 : Int) r137 r136.2.1 r136.2.2) fun r138 =>
       O.bind (F_aqueductlaw20_from.S k (3 : Int) (1 : Int)) fun r139 =>
       O.bind (F_bridge_Bridge_In.S k (3 : Int) r139 r138.2.1 r138.2.2) fun r140 =>
       O.bind (F_bridge_Bridge_Out.S k (2 : Int) r140.2.1 r140.2.2) fun r141 =>
       O.bind (F_bridge_Bridge_Out.S k (2 : Int) r141.2.1 r141.2.2) fun r142 =>
       O.cond (decide (r20.1 = (200 : Int))) (
        O.cond (decide (r98.1 = (180 : Int))) (
         O.cond (decide (r131 = (190 : Int))) (
          O.bind (F_aqueductref11_Same.S k r134.1.1 [(1 : Int), (2 : Int)]) fun r143 =>
          O.cond r143 (
           O.cond (decide (r134.1.2 = (0 : Int))) (
            O.bind (F_aqueductref11_Same.S k r136.1.1 [(0 : Int)]) fun r144 =>
            O.cond r144 (
             O.cond (decide (r136.1.2 = (0 : Int))) (
              O.cond (decide ((List.length r138.1.1 : Int) = (0 : Int))) (
               O.cond (decide (r138.1.2 = (0 : Int))) (
                O.cond (decide (r140.1.2 = (1 : Int))) (
                 O.bind (F_aqueductlaw20_from.S k (1 : Int) (2 : Int)) fun r145 =>
                 O.cond (decide (r141.1.1 = r145)) (
                  O.cond r141.1.2 (
                   O.cond (decide (r142.1.1 = (⟨#[]⟩ : ByteArray))) (
                    O.cond (!r142.1.2) (
                     O.cond (decide (r142.2.1.2.2.1 = (3 : Int)) && (decide (r142.2.1.2.2.2.1 = (0 : Int)) && (decide (r142.2.1.2.2.2.2.1 = (0 : Int)) && (decide (r142.2.1.2.2.2.2.2.1 = (1 : Int)) && (decide (r142.2.1.2.2.2.2.2.2.1 = (3 : Int)) && (decide (r142.2.1.2.2.2.2.2.2.2 = (0 : Int)) && true)))))) (
                      O.cond (decide ((1 : Int) ≥ (List.length r142.2.1.1 : Int))) (
                       O.cond false (
                        O.bind (F_fdb_Table_Rows.S k r142.2.2) fun r146 =>
                        .ok (decide ((List.length r146.1 : Int) = (3 : Int)))) (
                        .ok false)) (
                       O.chk (decide (0 ≤ (1 : Int) ∧ (1 : Int) < (List.length r142.2.1.2.1 : Int))) (
                        O.chk (decide (0 ≤ (1 : Int) ∧ (1 : Int) < (List.length r142.2.1.2.1 : Int))) (
                         O.cond (decide ((List.length ((gt ([], (0 : Int), (0 : Int)) r142.2.1.2.1 (1 : Int)).1) : Int) = (1 : Int))) (
                          O.bind (F_fdb_Table_Rows.S k r142.2.2) fun r147 =>
                          .ok (decide ((List.length r147.1 : Int) = (3 : Int)))) (
                          .ok false))))) (
                      .ok false)) (
                     .ok false)) (
                    .ok false)) (
                   .ok false)) (
                  .ok false)) (
                 .ok false)) (
                .ok false)) (
               .ok false)) (
              .ok false)) (
             .ok false)) (
            .ok false)) (
           .ok false)) (
          .ok false)) (
         .ok false)) (
        .ok false))) fun r132 =>
     O.cond (decide (r4.1 ≠ (0 : Int))) (
      .ok false) (
      O.bind (F_aqueductlaw20_from.S k (1 : Int) (2 : Int)) fun r148 =>
      O.bind (F_bridge_Bridge_In.S k (0 : Int) r148 r4.2.1 r4.2.2) fun r149 =>
      O.bind (F_aqueductlaw20_from.S k (2 : Int) (1 : Int)) fun r150 =>
      O.bind (F_bridge_Bridge_In.S k (1 : Int) r150 r149.2.1 r149.2.2) fun r151 =>
      O.bind (F_aqueductlaw20_from.S k (3 : Int) (1 : Int)) fun r152 =>
      O.bind (F_bridge_Bridge_In.S k (0 : Int) r152 r151.2.1 r151.2.2) fun r153 =>
      O.bind (F_aqueductlaw20_from.S k (3 : Int) (1 : Int)) fun r154 =>
      O.bind (F_bridge_Bridge_In.S k (3 : Int) r154 r153.2.1 r153.2.2) fun r155 =>
      O.bind (F_bridge_Bridge_Out.S k (2 : Int) r155.2.1 r155.2.2) fun r156 =>
      O.bind (F_bridge_Bridge_Out.S k (2 : Int) r156.2.1 r156.2.2) fun r157 =>
      O.cond (decide (r20.1 = (200 : Int))) (
       O.cond (decide (r98.1 = (180 : Int))) (
        O.cond (decide (r132.1 = (190 : Int))) (
         O.bind (F_aqueductref11_Same.S k r149.1.1 [(1 : Int), (2 : Int)]) fun r158 =>
         O.cond r158 (
          O.cond (decide (r149.1.2 = (0 : Int))) (
           O.bind (F_aqueductref11_Same.S k r151.1.1 [(0 : Int)]) fun r159 =>
           O.cond r159 (
            O.cond (decide (r151.1.2 = (0 : Int))) (
             O.cond (decide ((List.length r153.1.1 : Int) = (0 : Int))) (
              O.cond (decide (r153.1.2 = (0 : Int))) (
               O.cond (decide (r155.1.2 = (1 : Int))) (
                O.bind (F_aqueductlaw20_from.S k (1 : Int) (2 : Int)) fun r160 =>
                O.cond (decide (r156.1.1 = r160)) (
                 O.cond r156.1.2 (
                  O.cond (decide (r157.1.1 = (⟨#[]⟩ : ByteArray))) (
                   O.cond (!r157.1.2) (
                    O.cond (decide (r157.2.1.2.2.1 = (3 : Int)) && (decide (r157.2.1.2.2.2.1 = (0 : Int)) && (decide (r157.2.1.2.2.2.2.1 = (0 : Int)) && (decide (r157.2.1.2.2.2.2.2.1 = (1 : Int)) && (decide (r157.2.1.2.2.2.2.2.2.1 = (3 : Int)) && (decide (r157.2.1.2.2.2.2.2.2.2 = (0 : Int)) && true)))))) (
                     O.cond (decide ((1 : Int) ≥ (List.length r157.2.1.1 : Int))) (
                      O.cond false (
                       O.bind (F_fdb_Table_Rows.S k r157.2.2) fun r161 =>
                       .ok (decide ((List.length r161.1 : Int) = (3 : Int)))) (
                       .ok false)) (
                      O.chk (decide (0 ≤ (1 : Int) ∧ (1 : Int) < (List.length r157.2.1.2.1 : Int))) (
                       O.chk (decide (0 ≤ (1 : Int) ∧ (1 : Int) < (List.length r157.2.1.2.1 : Int))) (
                        O.cond (decide ((List.length ((gt ([], (0 : Int), (0 : Int)) r157.2.1.2.1 (1 : Int)).1) : Int) = (1 : Int))) (
                         O.bind (F_fdb_Table_Rows.S k r157.2.2) fun r162 =>
                         .ok (decide ((List.length r162.1 : Int) = (3 : Int)))) (
                         .ok false))))) (
                     .ok false)) (
                    .ok false)) (
                   .ok false)) (
                  .ok false)) (
                 .ok false)) (
                .ok false)) (
               .ok false)) (
              .ok false)) (
             .ok false)) (
            .ok false)) (
           .ok false)) (
          .ok false)) (
         .ok false)) (
        .ok false)) (
       .ok false)))))
theorem eq (k : Nat) : evFn (T := Bool) tab (calOf (cal k)) Go.Proofs.Try.f13 nt k 0 [] [] ⟨0, false, []⟩ (fun v st => outK ct.ob (γ0 ct) ct.outs v st .ok) (fun e st => outP ct.ob (γ0 ct) ct.outs e st .ok) = S k := by kernel_rfl
theorem ok (k : Nat) : FnOkC Try.prog 13 ct (fun (_ : Unit) (_ : Unit) => S k) :=
  FnOkC.of_ev (C := ct) tab_ok rfl (calOf_ok (cal_ok k)) mixed Try.func13 nt k (fun _ _ => rfl) (fun (_ : Unit) (_ : Unit) => eq k)
theorem hd {T : Type} (k : Nat) : HdOk Try.prog 13 (pureC (T := T) ct [] (fun (_ : Unit) (_ : Unit) => S k)) :=
  pureC_ok rfl [] (ok k) Try.call13
end F_aqueductlaw20_fixed
namespace F_aqueductref16_Net
/-! ### aqueduct/aqueductref16.Net: function 42 -/
noncomputable def ct : Ct := ⟨.some (.cons (.row false 3 [.int .i64]) (.one (.leaf (.int .i64)) [])), [], [⟨.val (.leaf .bool), [], []⟩]⟩
noncomputable def nt : Notes := ⟨[(2, ⟨[0, 1, 5], []⟩)], [], [], [], []⟩
noncomputable def cal0 {T : Type} (k : Nat) : List (FuncId × Hd T) := []
theorem cal0_ok {T : Type} (k : Nat) : HdsOk Try.prog (cal0 (T := T) k) := trivial
noncomputable def cal {T : Type} (k : Nat) : List (FuncId × Hd T) := cal0 k
theorem cal_ok {T : Type} (k : Nat) : HdsOk Try.prog (cal (T := T) k) := cal0_ok k
noncomputable abbrev la (k : Nat) (Rs : List (Fr → St → O (Bool))) (ds : List Dir) (j : Nat) : Fr → St → O (Bool) := loopAt tab (calOf (cal k)) Go.Proofs.Try.f42.ntmps nt k Rs ds (bodyOf Go.Proofs.Try.f42) (finK tab Go.Proofs.Try.f42.results.toList (fun v st => outK ct.ob (γ0 ct) ct.outs v st .ok) (fun e st => outP ct.ob (γ0 ct) ct.outs e st .ok)) j
noncomputable abbrev zl0 {α : Type} (X : Fr → St → α) (a0 : List Int) (a1 : Int) (v1 : Int) : α := X ⟨[(0, .osl 0), (1, .int .i64 a1), (5, .int .i64 v1)], [], 0, []⟩ ⟨1, true, [(0, .row false 3 [.int .i64] a0)]⟩
noncomputable def l0_b (k : Nat) (a0 : List Int) (a1 : Int) (R_l0 : Int → O Bool) (v1 : Int) : O Bool :=
  O.cond (decide (v1 < (List.length a0 : Int))) (
   O.chk (decide (0 ≤ v1 ∧ v1 < (List.length a0 : Int) ∧ (List.length a0 : Int) ≤ (List.length a0 : Int))) (
    O.chk (decide (0 ≤ v1 ∧ v1 < (List.length a0 : Int))) (
     O.cond (decide ((gt (0 : Int) a0 v1) = a1)) (
      .ok true) (
      R_l0 (IntKind.i64.wrap (v1 + (1 : Int))))))) (
   .ok false)
noncomputable def l0 (k : Nat) (a0 : List Int) (a1 : Int) : Nat → Int → O Bool
  | 0, _ => .no
  | j + 1, v1 => l0_b k a0 a1 (l0 k a0 a1 j) v1
theorem l0_eq (k : Nat) (a0 : List Int) (a1 : Int) : ∀ (j : Nat) (v1 : Int), zl0 (la k [] [.r, .l, .r, .b] j) a0 a1 v1 = l0 k a0 a1 j v1 := by
  intro j
  induction j with
  | zero => intro v1; rfl
  | succ j ih =>
    intro v1
    have rs : (fun (v1' : Int) => zl0 (la k [] [.r, .l, .r, .b] j) a0 a1 v1') = l0 k a0 a1 j := by funext v1'; exact ih v1'
    have h : zl0 (la k [] [.r, .l, .r, .b] (j + 1)) a0 a1 v1 = l0_b k a0 a1 ((fun (v1' : Int) => zl0 (la k [] [.r, .l, .r, .b] j) a0 a1 v1')) v1 := by kernel_rfl
    exact h.trans (by rw [rs]; rfl)
noncomputable def top (k : Nat) (a0 : List Int) (a1 : Int) (D_l0 : Int → O Bool) : O Bool :=
  D_l0 (0 : Int)
noncomputable def S (k : Nat) (a0 : List Int) (a1 : Int) : O Bool := top k a0 a1 ((fun (v1 : Int) => l0 k a0 a1 k v1))
theorem eq (k : Nat) (a0 : List Int) (a1 : Int) : evFn (T := Bool) tab (calOf (cal k)) Go.Proofs.Try.f42 nt k 0 [.osl 0, .int .i64 a1] [] ⟨1, false, [(0, .row false 3 [.int .i64] a0)]⟩ (fun v st => outK ct.ob (γ0 ct) ct.outs v st .ok) (fun e st => outP ct.ob (γ0 ct) ct.outs e st .ok) = S k a0 a1 := by
  have e0 : (fun (v1 : Int) => zl0 (la k [] [.r, .l, .r, .b] k) a0 a1 v1) = (fun (v1 : Int) => l0 k a0 a1 k v1) := by funext v1; exact l0_eq k a0 a1 k v1
  have h : evFn (T := Bool) tab (calOf (cal k)) Go.Proofs.Try.f42 nt k 0 [.osl 0, .int .i64 a1] [] ⟨1, false, [(0, .row false 3 [.int .i64] a0)]⟩ (fun v st => outK ct.ob (γ0 ct) ct.outs v st .ok) (fun e st => outP ct.ob (γ0 ct) ct.outs e st .ok) = top k a0 a1 ((fun (v1 : Int) => zl0 (la k [] [.r, .l, .r, .b] k) a0 a1 v1)) := by kernel_rfl
  exact h.trans (by rw [e0]; rfl)
theorem ok (k : Nat) : FnOkC Try.prog 42 ct (fun (x : List Int × Int) (_ : Unit) => S k x.1 x.2) :=
  FnOkC.of_ev (C := ct) tab_ok rfl (calOf_ok (cal_ok k)) mixed Try.func42 nt k (fun _ _ => rfl) (fun (x : List Int × Int) (_ : Unit) => eq k x.1 x.2)
theorem hd {T : Type} (k : Nat) : HdOk Try.prog 42 (pureC (T := T) ct [] (fun (x : List Int × Int) (_ : Unit) => S k x.1 x.2)) :=
  pureC_ok rfl [] (ok k) Try.call42
end F_aqueductref16_Net
namespace F_aqueductref20_Has
/-! ### aqueduct/aqueductref20.Has: function 19 -/
noncomputable def ct : Ct := ⟨.some (.cons (.agg (.cons (.leaf (.int .i64)) (.one (.row false 3 [.int .i64]) []))) (.one (.leaf (.int .i64)) [])), [], [⟨.val (.leaf .bool), [], []⟩]⟩
noncomputable def nt : Notes := ⟨[], [], [], [], []⟩
noncomputable def cal0 {T : Type} (k : Nat) : List (FuncId × Hd T) := [(42, pureC F_aqueductref16_Net.ct [] (fun (x : List Int × Int) (_ : Unit) => F_aqueductref16_Net.S k x.1 x.2))]
theorem cal0_ok {T : Type} (k : Nat) : HdsOk Try.prog (cal0 (T := T) k) := ⟨F_aqueductref16_Net.hd k, trivial⟩
noncomputable def cal {T : Type} (k : Nat) : List (FuncId × Hd T) := cal0 k
theorem cal_ok {T : Type} (k : Nat) : HdsOk Try.prog (cal (T := T) k) := cal0_ok k
noncomputable def S (k : Nat) (a0 : Int × List Int) (a1 : Int) : O Bool :=
  O.cond (decide (a0.1 = a1)) (
   .ok true) (
   O.bind (F_aqueductref16_Net.S k a0.2 a1) fun r1 =>
   .ok r1)
theorem eq (k : Nat) (a0 : Int × List Int) (a1 : Int) : evFn (T := Bool) tab (calOf (cal k)) Go.Proofs.Try.f19 nt k 0 [.agg [.int .i64 a0.1, .osl 0], .int .i64 a1] [] ⟨1, false, [(0, .row false 3 [.int .i64] a0.2)]⟩ (fun v st => outK ct.ob (γ0 ct) ct.outs v st .ok) (fun e st => outP ct.ob (γ0 ct) ct.outs e st .ok) = S k a0 a1 := by kernel_rfl
theorem ok (k : Nat) : FnOkC Try.prog 19 ct (fun (x : (Int × List Int) × Int) (_ : Unit) => S k x.1 x.2) :=
  FnOkC.of_ev (C := ct) tab_ok rfl (calOf_ok (cal_ok k)) mixed Try.func19 nt k (fun _ _ => rfl) (fun (x : (Int × List Int) × Int) (_ : Unit) => eq k x.1 x.2)
theorem hd {T : Type} (k : Nat) : HdOk Try.prog 19 (pureC (T := T) ct [] (fun (x : (Int × List Int) × Int) (_ : Unit) => S k x.1 x.2)) :=
  pureC_ok rfl [] (ok k) Try.call19
end F_aqueductref20_Has
namespace F_aqueductref06_num
/-! ### aqueduct/aqueductref06.num: function 43 -/
noncomputable def ct : Ct := ⟨.some (.cons (.leaf .str) (.one (.leaf (.int .i64)) [])), [], [⟨.val (.leaf (.int .i64)), [], []⟩]⟩
noncomputable def nt : Notes := ⟨[], [], [(1, [0, 1, 2, 3, 4, 5, 6, 7, 8, 9, 10, 11])], [], []⟩
noncomputable def cal0 {T : Type} (k : Nat) : List (FuncId × Hd T) := []
theorem cal0_ok {T : Type} (k : Nat) : HdsOk Try.prog (cal0 (T := T) k) := trivial
noncomputable def cal {T : Type} (k : Nat) : List (FuncId × Hd T) := cal0 k
theorem cal_ok {T : Type} (k : Nat) : HdsOk Try.prog (cal (T := T) k) := cal0_ok k
noncomputable def S (k : Nat) (a0 : ByteArray) (a1 : Int) : O Int :=
  O.chk (decide (0 ≤ a1 ∧ a1 < (ByteArray.size a0 : Int))) (
   O.chk (decide (0 ≤ (IntKind.i64.wrap (a1 + (1 : Int))) ∧ (IntKind.i64.wrap (a1 + (1 : Int))) < (ByteArray.size a0 : Int))) (
    .ok (IntKind.i64.wrap ((IntKind.i64.wrap ((256 : Int) * (IntKind.i64.wrap (bt a0 a1)))) + (IntKind.i64.wrap (bt a0 (IntKind.i64.wrap (a1 + (1 : Int)))))))))
theorem eq (k : Nat) (a0 : ByteArray) (a1 : Int) : evFn (T := Int) tab (calOf (cal k)) Go.Proofs.Try.f43 nt k 0 [.str a0, .int .i64 a1] [] ⟨0, false, []⟩ (fun v st => outK ct.ob (γ0 ct) ct.outs v st .ok) (fun e st => outP ct.ob (γ0 ct) ct.outs e st .ok) = S k a0 a1 := by kernel_rfl
theorem ok (k : Nat) : FnOkC Try.prog 43 ct (fun (x : ByteArray × Int) (_ : Unit) => S k x.1 x.2) :=
  FnOkC.of_ev (C := ct) tab_ok rfl (calOf_ok (cal_ok k)) mixed Try.func43 nt k (fun _ _ => rfl) (fun (x : ByteArray × Int) (_ : Unit) => eq k x.1 x.2)
theorem hd {T : Type} (k : Nat) : HdOk Try.prog 43 (pureC (T := T) ct [] (fun (x : ByteArray × Int) (_ : Unit) => S k x.1 x.2)) :=
  pureC_ok rfl [] (ok k) Try.call43
end F_aqueductref06_num
namespace F_aqueductref06_kind
/-! ### aqueduct/aqueductref06.kind: function 44 -/
noncomputable def ct : Ct := ⟨.some (.one (.leaf (.int .i64)) []), [], [⟨.val (.leaf .bool), [], []⟩]⟩
noncomputable def nt : Notes := ⟨[], [], [], [], []⟩
noncomputable def cal0 {T : Type} (k : Nat) : List (FuncId × Hd T) := []
theorem cal0_ok {T : Type} (k : Nat) : HdsOk Try.prog (cal0 (T := T) k) := trivial
noncomputable def cal {T : Type} (k : Nat) : List (FuncId × Hd T) := cal0 k
theorem cal_ok {T : Type} (k : Nat) : HdsOk Try.prog (cal (T := T) k) := cal0_ok k
noncomputable def S (k : Nat) (a0 : Int) : O Bool :=
  O.cond (decide (a0 ≥ (1536 : Int))) (
   O.cond (decide (a0 ≤ (65535 : Int))) (
    .ok (decide (a0 ≠ (33024 : Int)))) (
    .ok false)) (
   .ok false)
theorem eq (k : Nat) (a0 : Int) : evFn (T := Bool) tab (calOf (cal k)) Go.Proofs.Try.f44 nt k 0 [.int .i64 a0] [] ⟨0, false, []⟩ (fun v st => outK ct.ob (γ0 ct) ct.outs v st .ok) (fun e st => outP ct.ob (γ0 ct) ct.outs e st .ok) = S k a0 := by kernel_rfl
theorem ok (k : Nat) : FnOkC Try.prog 44 ct (fun (x : Int) (_ : Unit) => S k x) :=
  FnOkC.of_ev (C := ct) tab_ok rfl (calOf_ok (cal_ok k)) mixed Try.func44 nt k (fun _ _ => rfl) (fun (x : Int) (_ : Unit) => eq k x)
theorem hd {T : Type} (k : Nat) : HdOk Try.prog 44 (pureC (T := T) ct [] (fun (x : Int) (_ : Unit) => S k x)) :=
  pureC_ok rfl [] (ok k) Try.call44
end F_aqueductref06_kind
namespace F_aqueductref06_Parse
/-! ### aqueduct/aqueductref06.Parse: function 20 -/
noncomputable def ct : Ct := ⟨.some (.one (.leaf .str) []), [], [⟨.tup (.cons (.agg (.cons (.leaf .str) (.cons (.leaf .str) (.cons (.leaf (.int .i64)) (.cons (.leaf (.int .i64)) (.cons (.leaf (.int .i64)) (.one (.leaf .str) []))))))) (.one (.leaf (.int .i64)) [])), [], []⟩]⟩
noncomputable def nt : Notes := ⟨[], [(6, ⟨[0, 2, 4], []⟩)], [(5, [0, 1, 2, 3, 4, 6, 7, 5, 8, 9, 10]), (10, [0, 1, 2, 3, 4, 5, 6, 7, 8, 10, 11, 9, 12, 13])], [], []⟩
noncomputable def cal0 {T : Type} (k : Nat) : List (FuncId × Hd T) := [(43, pureC F_aqueductref06_num.ct [] (fun (x : ByteArray × Int) (_ : Unit) => F_aqueductref06_num.S k x.1 x.2)), (44, pureC F_aqueductref06_kind.ct [] (fun (x : Int) (_ : Unit) => F_aqueductref06_kind.S k x))]
theorem cal0_ok {T : Type} (k : Nat) : HdsOk Try.prog (cal0 (T := T) k) := ⟨F_aqueductref06_num.hd k, F_aqueductref06_kind.hd k, trivial⟩
noncomputable def cal {T : Type} (k : Nat) : List (FuncId × Hd T) := cal0 k
theorem cal_ok {T : Type} (k : Nat) : HdsOk Try.prog (cal (T := T) k) := cal0_ok k
noncomputable abbrev ca (k : Nat) (Rs : List (Fr → St → O TY21)) (ds : List Dir) : Fr → St → O TY21 := codeAt tab (calOf (cal k)) Go.Proofs.Try.f20.ntmps nt k Rs ds (bodyOf Go.Proofs.Try.f20) (finK tab Go.Proofs.Try.f20.results.toList (fun v st => outK ct.ob (γ0 ct) ct.outs v st .ok) (fun e st => outP ct.ob (γ0 ct) ct.outs e st .ok))
noncomputable abbrev zj3 {α : Type} (X : Fr → St → α) (a0 : ByteArray) (v3 : Int) : α := X ⟨[(0, .str a0), (2, .ptr 0 0), (4, .ptr 1 0)], [], 0, []⟩ ⟨2, true, [(0, .cells 58 [.str ByteArray.empty, .str ByteArray.empty, .int .i64 (0 : Int), .int .i64 (0 : Int), .int .i64 (0 : Int), .str ByteArray.empty]), (1, .cells 58 [.str (ByteArray.extract a0 0 6), .str (ByteArray.extract a0 6 12), .int .i64 (-1 : Int), .int .i64 (0 : Int), .int .i64 v3, .str (ByteArray.extract a0 14 (ByteArray.size a0))])]⟩
noncomputable def j3_b (k : Nat) (a0 : ByteArray) (v3 : Int) : O TY21 :=
  O.cond (decide (v3 = (33024 : Int))) (
   O.cond (decide ((ByteArray.size a0 : Int) < (18 : Int))) (
    .ok ((ByteArray.empty, ByteArray.empty, (0 : Int), (0 : Int), (0 : Int), ByteArray.empty), (60 : Int))) (
    O.bind (F_aqueductref06_num.S k a0 (14 : Int)) fun r5 =>
    O.chk (decide (0 ≤ (6 : Int) ∧ (6 : Int) ≤ (ByteArray.size a0 : Int))) (
     O.chk (decide (0 ≤ (6 : Int) ∧ (6 : Int) ≤ (12 : Int) ∧ (12 : Int) ≤ (ByteArray.size a0 : Int))) (
      O.chk (decide (0 ≤ (18 : Int) ∧ (18 : Int) ≤ (ByteArray.size a0 : Int))) (
       O.bind (F_aqueductref06_num.S k a0 (16 : Int)) fun r6 =>
       O.cond (decide ((Int.tmod (IntKind.i64.wrap (Int.tdiv r5 (4096 : Int))) (2 : Int)) = (1 : Int))) (
        .ok ((ByteArray.empty, ByteArray.empty, (0 : Int), (0 : Int), (0 : Int), ByteArray.empty), (61 : Int))) (
        O.cond (decide ((Int.tmod r5 (4096 : Int)) = (4095 : Int))) (
         .ok ((ByteArray.empty, ByteArray.empty, (0 : Int), (0 : Int), (0 : Int), ByteArray.empty), (61 : Int))) (
         O.bind (F_aqueductref06_kind.S k r6) fun r7 =>
         O.cond (!r7) (
          .ok ((ByteArray.empty, ByteArray.empty, (0 : Int), (0 : Int), (0 : Int), ByteArray.empty), (61 : Int))) (
          .ok (((ByteArray.extract a0 0 6), (ByteArray.extract a0 6 12), (Int.tmod r5 (4096 : Int)), (IntKind.i64.wrap (Int.tdiv r5 (8192 : Int))), r6, (ByteArray.extract a0 18 (ByteArray.size a0))), (0 : Int)))))))))) (
   O.bind (F_aqueductref06_kind.S k v3) fun r8 =>
   O.cond (!r8) (
    .ok ((ByteArray.empty, ByteArray.empty, (0 : Int), (0 : Int), (0 : Int), ByteArray.empty), (61 : Int))) (
    .ok (((ByteArray.extract a0 0 6), (ByteArray.extract a0 6 12), (-1 : Int), (0 : Int), v3, (ByteArray.extract a0 14 (ByteArray.size a0))), (0 : Int))))
noncomputable def j3 (k : Nat) (a0 : ByteArray) (v3 : Int) : O TY21 := j3_b k a0 v3
theorem j3_eq (k : Nat) (a0 : ByteArray) (v3 : Int) : zj3 (ca k [] [.r, .r, .r, .r]) a0 v3 = j3 k a0 v3 := by
    have h : zj3 (ca k [] [.r, .r, .r, .r]) a0 v3 = j3_b k a0 v3 := (codeAt_eq _ _ _ _ _ _ _ _ _ _ _).trans (by show _ = _; kernel_rfl)
    exact h.trans (by rfl)
noncomputable def top (k : Nat) (a0 : ByteArray) (D_j3 : Int → O TY21) : O TY21 :=
  O.cond (decide ((ByteArray.size a0 : Int) > (1518 : Int))) (
   .ok ((ByteArray.empty, ByteArray.empty, (0 : Int), (0 : Int), (0 : Int), ByteArray.empty), (61 : Int))) (
   O.cond (decide ((ByteArray.size a0 : Int) < (14 : Int))) (
    .ok ((ByteArray.empty, ByteArray.empty, (0 : Int), (0 : Int), (0 : Int), ByteArray.empty), (60 : Int))) (
    O.chk (decide (0 ≤ (6 : Int) ∧ (6 : Int) ≤ (ByteArray.size a0 : Int))) (
     O.chk (decide (0 ≤ (6 : Int) ∧ (6 : Int) ≤ (12 : Int) ∧ (12 : Int) ≤ (ByteArray.size a0 : Int))) (
      O.chk (decide (0 ≤ (14 : Int) ∧ (14 : Int) ≤ (ByteArray.size a0 : Int))) (
       O.twice (
        O.bind (F_aqueductref06_num.S k a0 (12 : Int)) fun r4 =>
        D_j3 r4))))))
noncomputable def S (k : Nat) (a0 : ByteArray) : O TY21 := top k a0 ((fun (v3 : Int) => j3 k a0 v3))
theorem eq (k : Nat) (a0 : ByteArray) : evFn (T := TY20 × Int) tab (calOf (cal k)) Go.Proofs.Try.f20 nt k 0 [.str a0] [] ⟨0, false, []⟩ (fun v st => outK ct.ob (γ0 ct) ct.outs v st .ok) (fun e st => outP ct.ob (γ0 ct) ct.outs e st .ok) = S k a0 := by
  have e0 : (fun (v3 : Int) => zj3 (ca k [] [.r, .r, .r, .r]) a0 v3) = (fun (v3 : Int) => j3 k a0 v3) := by funext v3; exact j3_eq k a0 v3
  have h : evFn (T := TY20 × Int) tab (calOf (cal k)) Go.Proofs.Try.f20 nt k 0 [.str a0] [] ⟨0, false, []⟩ (fun v st => outK ct.ob (γ0 ct) ct.outs v st .ok) (fun e st => outP ct.ob (γ0 ct) ct.outs e st .ok) = top k a0 ((fun (v3 : Int) => zj3 (ca k [] [.r, .r, .r, .r]) a0 v3)) := by kernel_rfl
  exact h.trans (by rw [e0]; rfl)
theorem ok (k : Nat) : FnOkC Try.prog 20 ct (fun (x : ByteArray) (_ : Unit) => S k x) :=
  FnOkC.of_ev (C := ct) tab_ok rfl (calOf_ok (cal_ok k)) mixed Try.func20 nt k (fun _ _ => rfl) (fun (x : ByteArray) (_ : Unit) => eq k x)
theorem hd {T : Type} (k : Nat) : HdOk Try.prog 20 (pureC (T := T) ct [] (fun (x : ByteArray) (_ : Unit) => S k x)) :=
  pureC_ok rfl [] (ok k) Try.call20
end F_aqueductref06_Parse
namespace F_aqueductref05_Kind
/-! ### aqueduct/aqueductref05.Kind: function 40 -/
noncomputable def ct : Ct := ⟨.some (.one (.leaf .str) []), [], [⟨.val (.leaf (.int .i64)), [], []⟩]⟩
noncomputable def nt : Notes := ⟨[(5, ⟨[0, 3, 4], []⟩)], [], [], [], []⟩
noncomputable def cal0 {T : Type} (k : Nat) : List (FuncId × Hd T) := []
theorem cal0_ok {T : Type} (k : Nat) : HdsOk Try.prog (cal0 (T := T) k) := trivial
noncomputable def cal {T : Type} (k : Nat) : List (FuncId × Hd T) := cal0 k
theorem cal_ok {T : Type} (k : Nat) : HdsOk Try.prog (cal (T := T) k) := cal0_ok k
noncomputable abbrev la (k : Nat) (Rs : List (Fr → St → O (Int))) (ds : List Dir) (j : Nat) : Fr → St → O (Int) := loopAt tab (calOf (cal k)) Go.Proofs.Try.f40.ntmps nt k Rs ds (bodyOf Go.Proofs.Try.f40) (finK tab Go.Proofs.Try.f40.results.toList (fun v st => outK ct.ob (γ0 ct) ct.outs v st .ok) (fun e st => outP ct.ob (γ0 ct) ct.outs e st .ok)) j
noncomputable abbrev zl0 {α : Type} (X : Fr → St → α) (a0 : ByteArray) (v1 : Bool) (v2 : Int) : α := X ⟨[(0, .str a0), (3, .bool v1), (4, .int .i64 v2)], [], 0, []⟩ ⟨0, true, []⟩
noncomputable def l0_b (k : Nat) (a0 : ByteArray) (R_l0 : Bool → Int → O Int) (v1 : Bool) (v2 : Int) : O Int :=
  O.cond (decide (v2 < (6 : Int))) (
   O.cond v1 (
    O.chk (decide (0 ≤ v2 ∧ v2 < (ByteArray.size a0 : Int))) (
     R_l0 (decide ((bt a0 v2) = (255 : Int))) (IntKind.i64.wrap (v2 + (1 : Int))))) (
    R_l0 false (IntKind.i64.wrap (v2 + (1 : Int))))) (
   O.cond v1 (
    .ok (3 : Int)) (
    O.chk (decide (0 ≤ (0 : Int) ∧ (0 : Int) < (ByteArray.size a0 : Int))) (
     O.cond (decide ((Int.tmod (IntKind.i64.wrap (bt a0 (0 : Int))) (2 : Int)) = (1 : Int))) (
      .ok (2 : Int)) (
      .ok (1 : Int)))))
noncomputable def l0 (k : Nat) (a0 : ByteArray) : Nat → Bool → Int → O Int
  | 0, _, _ => .no
  | j + 1, v1, v2 => l0_b k a0 (l0 k a0 j) v1 v2
theorem l0_eq (k : Nat) (a0 : ByteArray) : ∀ (j : Nat) (v1 : Bool) (v2 : Int), zl0 (la k [] [.r, .r, .r, .l, .r, .b] j) a0 v1 v2 = l0 k a0 j v1 v2 := by
  intro j
  induction j with
  | zero => intro v1 v2; rfl
  | succ j ih =>
    intro v1 v2
    have rs : (fun (v1' : Bool) (v2' : Int) => zl0 (la k [] [.r, .r, .r, .l, .r, .b] j) a0 v1' v2') = l0 k a0 j := by funext v1' v2'; exact ih v1' v2'
    have h : zl0 (la k [] [.r, .r, .r, .l, .r, .b] (j + 1)) a0 v1 v2 = l0_b k a0 ((fun (v1' : Bool) (v2' : Int) => zl0 (la k [] [.r, .r, .r, .l, .r, .b] j) a0 v1' v2')) v1 v2 := by kernel_rfl
    exact h.trans (by rw [rs]; rfl)
noncomputable def top (k : Nat) (a0 : ByteArray) (D_l0 : Bool → Int → O Int) : O Int :=
  O.cond (decide ((ByteArray.size a0 : Int) ≠ (6 : Int))) (
   .ok (0 : Int)) (
   D_l0 true (0 : Int))
noncomputable def S (k : Nat) (a0 : ByteArray) : O Int := top k a0 ((fun (v1 : Bool) (v2 : Int) => l0 k a0 k v1 v2))
theorem eq (k : Nat) (a0 : ByteArray) : evFn (T := Int) tab (calOf (cal k)) Go.Proofs.Try.f40 nt k 0 [.str a0] [] ⟨0, false, []⟩ (fun v st => outK ct.ob (γ0 ct) ct.outs v st .ok) (fun e st => outP ct.ob (γ0 ct) ct.outs e st .ok) = S k a0 := by
  have e0 : (fun (v1 : Bool) (v2 : Int) => zl0 (la k [] [.r, .r, .r, .l, .r, .b] k) a0 v1 v2) = (fun (v1 : Bool) (v2 : Int) => l0 k a0 k v1 v2) := by funext v1 v2; exact l0_eq k a0 k v1 v2
  have h : evFn (T := Int) tab (calOf (cal k)) Go.Proofs.Try.f40 nt k 0 [.str a0] [] ⟨0, false, []⟩ (fun v st => outK ct.ob (γ0 ct) ct.outs v st .ok) (fun e st => outP ct.ob (γ0 ct) ct.outs e st .ok) = top k a0 ((fun (v1 : Bool) (v2 : Int) => zl0 (la k [] [.r, .r, .r, .l, .r, .b] k) a0 v1 v2)) := by kernel_rfl
  exact h.trans (by rw [e0]; rfl)
theorem ok (k : Nat) : FnOkC Try.prog 40 ct (fun (x : ByteArray) (_ : Unit) => S k x) :=
  FnOkC.of_ev (C := ct) tab_ok rfl (calOf_ok (cal_ok k)) mixed Try.func40 nt k (fun _ _ => rfl) (fun (x : ByteArray) (_ : Unit) => eq k x)
theorem hd {T : Type} (k : Nat) : HdOk Try.prog 40 (pureC (T := T) ct [] (fun (x : ByteArray) (_ : Unit) => S k x)) :=
  pureC_ok rfl [] (ok k) Try.call40
end F_aqueductref05_Kind
namespace F_aqueductref01_Put
/-! ### aqueduct/aqueductref01.Put: function 83 -/
noncomputable def ct : Ct := ⟨.some (.cons (.leaf (.int .u64)) (.cons (.leaf (.int .i64)) (.one (.leaf .bool) []))), [], [⟨.tup (.cons (.leaf .str) (.one (.leaf (.int .i64)) [])), [], []⟩]⟩
noncomputable def nt : Notes := ⟨[(5, ⟨[0, 1, 2, 8, 9, 10], []⟩)], [], [], [], []⟩
noncomputable def cal0 {T : Type} (k : Nat) : List (FuncId × Hd T) := []
theorem cal0_ok {T : Type} (k : Nat) : HdsOk Try.prog (cal0 (T := T) k) := trivial
noncomputable def cal {T : Type} (k : Nat) : List (FuncId × Hd T) := cal0 k
theorem cal_ok {T : Type} (k : Nat) : HdsOk Try.prog (cal (T := T) k) := cal0_ok k
noncomputable abbrev la (k : Nat) (Rs : List (Fr → St → O (ByteArray × Int))) (ds : List Dir) (j : Nat) : Fr → St → O (ByteArray × Int) := loopAt tab (calOf (cal k)) Go.Proofs.Try.f83.ntmps nt k Rs ds (bodyOf Go.Proofs.Try.f83) (finK tab Go.Proofs.Try.f83.results.toList (fun v st => outK ct.ob (γ0 ct) ct.outs v st .ok) (fun e st => outP ct.ob (γ0 ct) ct.outs e st .ok)) j
noncomputable abbrev zl0 {α : Type} (X : Fr → St → α) (a1 : Int) (a2 : Bool) (v1 : Int) (v2 : ByteArray) (v3 : ByteArray) (v4 : Int) : α := X ⟨[(0, .int .u64 v1), (1, .int .i64 a1), (2, .bool a2), (8, .str v2), (9, .str v3), (10, .int .i64 v4)], [], 0, []⟩ ⟨0, true, []⟩
noncomputable def l0_b (k : Nat) (a1 : Int) (a2 : Bool) (R_l0 : Int → ByteArray → ByteArray → Int → O (ByteArray × Int)) (v1 : Int) (v2 : ByteArray) (v3 : ByteArray) (v4 : Int) : O (ByteArray × Int) :=
  O.cond (decide (v4 < a1)) (
   O.chk (decide (((ByteArray.size v2 + ByteArray.size (Go.Aq.strOf [(IntKind.u8.wrap (Int.tmod v1 (256 : Int)))]) : Nat) : Int) ≤ 9223372036854775807)) (
    O.chk (decide (((ByteArray.size (Go.Aq.strOf [(IntKind.u8.wrap (Int.tmod v1 (256 : Int)))]) + ByteArray.size v3 : Nat) : Int) ≤ 9223372036854775807)) (
     R_l0 (IntKind.u64.wrap (Int.tdiv v1 (256 : Int))) (v2 ++ (Go.Aq.strOf [(IntKind.u8.wrap (Int.tmod v1 (256 : Int)))])) ((Go.Aq.strOf [(IntKind.u8.wrap (Int.tmod v1 (256 : Int)))]) ++ v3) (IntKind.i64.wrap (v4 + (1 : Int)))))) (
   O.cond (decide (v1 > (0 : Int))) (
    .ok ((⟨#[]⟩ : ByteArray), (1 : Int))) (
    O.cond a2 (
     .ok (v3, (0 : Int))) (
     .ok (v2, (0 : Int)))))
noncomputable def l0 (k : Nat) (a1 : Int) (a2 : Bool) : Nat → Int → ByteArray → ByteArray → Int → O (ByteArray × Int)
  | 0, _, _, _, _ => .no
  | j + 1, v1, v2, v3, v4 => l0_b k a1 a2 (l0 k a1 a2 j) v1 v2 v3 v4
theorem l0_eq (k : Nat) (a1 : Int) (a2 : Bool) : ∀ (j : Nat) (v1 : Int) (v2 : ByteArray) (v3 : ByteArray) (v4 : Int), zl0 (la k [] [.r, .r, .r, .l, .r, .b] j) a1 a2 v1 v2 v3 v4 = l0 k a1 a2 j v1 v2 v3 v4 := by
  intro j
  induction j with
  | zero => intro v1 v2 v3 v4; rfl
  | succ j ih =>
    intro v1 v2 v3 v4
    have rs : (fun (v1' : Int) (v2' : ByteArray) (v3' : ByteArray) (v4' : Int) => zl0 (la k [] [.r, .r, .r, .l, .r, .b] j) a1 a2 v1' v2' v3' v4') = l0 k a1 a2 j := by funext v1' v2' v3' v4'; exact ih v1' v2' v3' v4'
    have h : zl0 (la k [] [.r, .r, .r, .l, .r, .b] (j + 1)) a1 a2 v1 v2 v3 v4 = l0_b k a1 a2 ((fun (v1' : Int) (v2' : ByteArray) (v3' : ByteArray) (v4' : Int) => zl0 (la k [] [.r, .r, .r, .l, .r, .b] j) a1 a2 v1' v2' v3' v4')) v1 v2 v3 v4 := by kernel_rfl
    exact h.trans (by rw [rs]; rfl)
noncomputable def top (k : Nat) (a0 : Int) (a1 : Int) (a2 : Bool) (D_l0 : Int → ByteArray → ByteArray → Int → O (ByteArray × Int)) : O (ByteArray × Int) :=
  O.cond (decide (a1 < (1 : Int))) (
   .ok ((⟨#[]⟩ : ByteArray), (1 : Int))) (
   O.cond (decide (a1 > (8 : Int))) (
    .ok ((⟨#[]⟩ : ByteArray), (1 : Int))) (
    D_l0 a0 (⟨#[]⟩ : ByteArray) (⟨#[]⟩ : ByteArray) (0 : Int)))
noncomputable def S (k : Nat) (a0 : Int) (a1 : Int) (a2 : Bool) : O (ByteArray × Int) := top k a0 a1 a2 ((fun (v1 : Int) (v2 : ByteArray) (v3 : ByteArray) (v4 : Int) => l0 k a1 a2 k v1 v2 v3 v4))
theorem eq (k : Nat) (a0 : Int) (a1 : Int) (a2 : Bool) : evFn (T := ByteArray × Int) tab (calOf (cal k)) Go.Proofs.Try.f83 nt k 0 [.int .u64 a0, .int .i64 a1, .bool a2] [] ⟨0, false, []⟩ (fun v st => outK ct.ob (γ0 ct) ct.outs v st .ok) (fun e st => outP ct.ob (γ0 ct) ct.outs e st .ok) = S k a0 a1 a2 := by
  have e0 : (fun (v1 : Int) (v2 : ByteArray) (v3 : ByteArray) (v4 : Int) => zl0 (la k [] [.r, .r, .r, .l, .r, .b] k) a1 a2 v1 v2 v3 v4) = (fun (v1 : Int) (v2 : ByteArray) (v3 : ByteArray) (v4 : Int) => l0 k a1 a2 k v1 v2 v3 v4) := by funext v1 v2 v3 v4; exact l0_eq k a1 a2 k v1 v2 v3 v4
  have h : evFn (T := ByteArray × Int) tab (calOf (cal k)) Go.Proofs.Try.f83 nt k 0 [.int .u64 a0, .int .i64 a1, .bool a2] [] ⟨0, false, []⟩ (fun v st => outK ct.ob (γ0 ct) ct.outs v st .ok) (fun e st => outP ct.ob (γ0 ct) ct.outs e st .ok) = top k a0 a1 a2 ((fun (v1 : Int) (v2 : ByteArray) (v3 : ByteArray) (v4 : Int) => zl0 (la k [] [.r, .r, .r, .l, .r, .b] k) a1 a2 v1 v2 v3 v4)) := by kernel_rfl
  exact h.trans (by rw [e0]; rfl)
theorem ok (k : Nat) : FnOkC Try.prog 83 ct (fun (x : Int × Int × Bool) (_ : Unit) => S k x.1 x.2.1 x.2.2) :=
  FnOkC.of_ev (C := ct) tab_ok rfl (calOf_ok (cal_ok k)) mixed Try.func83 nt k (fun _ _ => rfl) (fun (x : Int × Int × Bool) (_ : Unit) => eq k x.1 x.2.1 x.2.2)
theorem hd {T : Type} (k : Nat) : HdOk Try.prog 83 (pureC (T := T) ct [] (fun (x : Int × Int × Bool) (_ : Unit) => S k x.1 x.2.1 x.2.2)) :=
  pureC_ok rfl [] (ok k) Try.call83
end F_aqueductref01_Put
namespace F_aqueductref06_two
/-! ### aqueduct/aqueductref06.two: function 78 -/
noncomputable def ct : Ct := ⟨.some (.one (.leaf (.int .i64)) []), [], [⟨.val (.leaf .str), [], []⟩]⟩
noncomputable def nt : Notes := ⟨[], [], [], [], []⟩
noncomputable def cal0 {T : Type} (k : Nat) : List (FuncId × Hd T) := [(83, pureC F_aqueductref01_Put.ct [] (fun (x : Int × Int × Bool) (_ : Unit) => F_aqueductref01_Put.S k x.1 x.2.1 x.2.2))]
theorem cal0_ok {T : Type} (k : Nat) : HdsOk Try.prog (cal0 (T := T) k) := ⟨F_aqueductref01_Put.hd k, trivial⟩
noncomputable def cal {T : Type} (k : Nat) : List (FuncId × Hd T) := cal0 k
theorem cal_ok {T : Type} (k : Nat) : HdsOk Try.prog (cal (T := T) k) := cal0_ok k
noncomputable def S (k : Nat) (a0 : Int) : O ByteArray :=
  O.bind (F_aqueductref01_Put.S k (IntKind.u64.wrap a0) (2 : Int) true) fun r1 =>
  .ok r1.1
theorem eq (k : Nat) (a0 : Int) : evFn (T := ByteArray) tab (calOf (cal k)) Go.Proofs.Try.f78 nt k 0 [.int .i64 a0] [] ⟨0, false, []⟩ (fun v st => outK ct.ob (γ0 ct) ct.outs v st .ok) (fun e st => outP ct.ob (γ0 ct) ct.outs e st .ok) = S k a0 := by kernel_rfl
theorem ok (k : Nat) : FnOkC Try.prog 78 ct (fun (x : Int) (_ : Unit) => S k x) :=
  FnOkC.of_ev (C := ct) tab_ok rfl (calOf_ok (cal_ok k)) mixed Try.func78 nt k (fun _ _ => rfl) (fun (x : Int) (_ : Unit) => eq k x)
theorem hd {T : Type} (k : Nat) : HdOk Try.prog 78 (pureC (T := T) ct [] (fun (x : Int) (_ : Unit) => S k x)) :=
  pureC_ok rfl [] (ok k) Try.call78
end F_aqueductref06_two
namespace F_aqueductref06_Build
/-! ### aqueduct/aqueductref06.Build: function 70 -/
noncomputable def ct : Ct := ⟨.some (.one (.agg (.cons (.leaf .str) (.cons (.leaf .str) (.cons (.leaf (.int .i64)) (.cons (.leaf (.int .i64)) (.cons (.leaf (.int .i64)) (.one (.leaf .str) []))))))) []), [], [⟨.tup (.cons (.leaf .str) (.one (.leaf (.int .i64)) [])), [], []⟩]⟩
noncomputable def nt : Notes := ⟨[], [], [(5, [0, 2, 3, 4, 5, 6, 7, 1, 8, 9, 10, 11])], [], []⟩
noncomputable def cal0 {T : Type} (k : Nat) : List (FuncId × Hd T) := [(44, pureC F_aqueductref06_kind.ct [] (fun (x : Int) (_ : Unit) => F_aqueductref06_kind.S k x)), (78, pureC F_aqueductref06_two.ct [] (fun (x : Int) (_ : Unit) => F_aqueductref06_two.S k x))]
theorem cal0_ok {T : Type} (k : Nat) : HdsOk Try.prog (cal0 (T := T) k) := ⟨F_aqueductref06_kind.hd k, F_aqueductref06_two.hd k, trivial⟩
noncomputable def cal {T : Type} (k : Nat) : List (FuncId × Hd T) := cal0 k
theorem cal_ok {T : Type} (k : Nat) : HdsOk Try.prog (cal (T := T) k) := cal0_ok k
noncomputable def S (k : Nat) (a0 : ByteArray × ByteArray × Int × Int × Int × ByteArray) : O (ByteArray × Int) :=
  O.cond (decide ((ByteArray.size a0.1 : Int) ≠ (6 : Int))) (
   .ok ((⟨#[]⟩ : ByteArray), (61 : Int))) (
   O.cond (decide ((ByteArray.size a0.2.1 : Int) ≠ (6 : Int))) (
    .ok ((⟨#[]⟩ : ByteArray), (61 : Int))) (
    O.cond (decide (a0.2.2.1 < (-1 : Int))) (
     .ok ((⟨#[]⟩ : ByteArray), (61 : Int))) (
     O.cond (decide (a0.2.2.1 > (4094 : Int))) (
      .ok ((⟨#[]⟩ : ByteArray), (61 : Int))) (
      O.cond (decide (a0.2.2.2.1 < (0 : Int))) (
       .ok ((⟨#[]⟩ : ByteArray), (61 : Int))) (
       O.cond (decide (a0.2.2.2.1 > (7 : Int))) (
        .ok ((⟨#[]⟩ : ByteArray), (61 : Int))) (
        O.bind (F_aqueductref06_kind.S k a0.2.2.2.2.1) fun r2 =>
        O.cond (!r2) (
         .ok ((⟨#[]⟩ : ByteArray), (61 : Int))) (
         O.chk (decide (((ByteArray.size a0.1 + ByteArray.size a0.2.1 : Nat) : Int) ≤ 9223372036854775807)) (
          O.cond (decide (a0.2.2.1 ≥ (0 : Int))) (
           O.bind (F_aqueductref06_two.S k (33024 : Int)) fun r3 =>
           O.bind (F_aqueductref06_two.S k (IntKind.i64.wrap ((IntKind.i64.wrap ((8192 : Int) * a0.2.2.2.1)) + a0.2.2.1))) fun r4 =>
           O.chk (decide (((ByteArray.size r3 + ByteArray.size r4 : Nat) : Int) ≤ 9223372036854775807)) (
            O.chk (decide (((ByteArray.size (a0.1 ++ a0.2.1) + ByteArray.size (r3 ++ r4) : Nat) : Int) ≤ 9223372036854775807)) (
             O.bind (F_aqueductref06_two.S k a0.2.2.2.2.1) fun r5 =>
             O.chk (decide (((ByteArray.size ((a0.1 ++ a0.2.1) ++ (r3 ++ r4)) + ByteArray.size r5 : Nat) : Int) ≤ 9223372036854775807)) (
              O.cond (decide ((ByteArray.size a0.2.2.2.2.2 : Int) > (IntKind.i64.wrap ((1518 : Int) - (ByteArray.size (((a0.1 ++ a0.2.1) ++ (r3 ++ r4)) ++ r5) : Int))))) (
               .ok ((⟨#[]⟩ : ByteArray), (61 : Int))) (
               O.chk (decide (((ByteArray.size (((a0.1 ++ a0.2.1) ++ (r3 ++ r4)) ++ r5) + ByteArray.size a0.2.2.2.2.2 : Nat) : Int) ≤ 9223372036854775807)) (
                .ok (((((a0.1 ++ a0.2.1) ++ (r3 ++ r4)) ++ r5) ++ a0.2.2.2.2.2), (0 : Int)))))))) (
           O.cond (decide (a0.2.2.2.1 > (0 : Int))) (
            .ok ((⟨#[]⟩ : ByteArray), (61 : Int))) (
            O.bind (F_aqueductref06_two.S k a0.2.2.2.2.1) fun r6 =>
            O.chk (decide (((ByteArray.size (a0.1 ++ a0.2.1) + ByteArray.size r6 : Nat) : Int) ≤ 9223372036854775807)) (
             O.cond (decide ((ByteArray.size a0.2.2.2.2.2 : Int) > (IntKind.i64.wrap ((1518 : Int) - (ByteArray.size ((a0.1 ++ a0.2.1) ++ r6) : Int))))) (
              .ok ((⟨#[]⟩ : ByteArray), (61 : Int))) (
              O.chk (decide (((ByteArray.size ((a0.1 ++ a0.2.1) ++ r6) + ByteArray.size a0.2.2.2.2.2 : Nat) : Int) ≤ 9223372036854775807)) (
               .ok ((((a0.1 ++ a0.2.1) ++ r6) ++ a0.2.2.2.2.2), (0 : Int)))))))))))))))
theorem eq (k : Nat) (a0 : ByteArray × ByteArray × Int × Int × Int × ByteArray) : evFn (T := ByteArray × Int) tab (calOf (cal k)) Go.Proofs.Try.f70 nt k 0 [.agg [.str a0.1, .str a0.2.1, .int .i64 a0.2.2.1, .int .i64 a0.2.2.2.1, .int .i64 a0.2.2.2.2.1, .str a0.2.2.2.2.2]] [] ⟨0, false, []⟩ (fun v st => outK ct.ob (γ0 ct) ct.outs v st .ok) (fun e st => outP ct.ob (γ0 ct) ct.outs e st .ok) = S k a0 := by kernel_rfl
theorem ok (k : Nat) : FnOkC Try.prog 70 ct (fun (x : ByteArray × ByteArray × Int × Int × Int × ByteArray) (_ : Unit) => S k x) :=
  FnOkC.of_ev (C := ct) tab_ok rfl (calOf_ok (cal_ok k)) mixed Try.func70 nt k (fun _ _ => rfl) (fun (x : ByteArray × ByteArray × Int × Int × Int × ByteArray) (_ : Unit) => eq k x)
theorem hd {T : Type} (k : Nat) : HdOk Try.prog 70 (pureC (T := T) ct [] (fun (x : ByteArray × ByteArray × Int × Int × Int × ByteArray) (_ : Unit) => S k x)) :=
  pureC_ok rfl [] (ok k) Try.call70
end F_aqueductref06_Build
namespace F_aqueductref06_Tag
/-! ### aqueduct/aqueductref06.Tag: function 59 -/
noncomputable def ct : Ct := ⟨.some (.cons (.leaf .str) (.one (.leaf (.int .i64)) [])), [], [⟨.tup (.cons (.leaf .str) (.one (.leaf (.int .i64)) [])), [], []⟩]⟩
noncomputable def nt : Notes := ⟨[], [], [], [], []⟩
noncomputable def cal0 {T : Type} (k : Nat) : List (FuncId × Hd T) := [(20, pureC F_aqueductref06_Parse.ct [] (fun (x : ByteArray) (_ : Unit) => F_aqueductref06_Parse.S k x)), (70, pureC F_aqueductref06_Build.ct [] (fun (x : ByteArray × ByteArray × Int × Int × Int × ByteArray) (_ : Unit) => F_aqueductref06_Build.S k x))]
theorem cal0_ok {T : Type} (k : Nat) : HdsOk Try.prog (cal0 (T := T) k) := ⟨F_aqueductref06_Parse.hd k, F_aqueductref06_Build.hd k, trivial⟩
noncomputable def cal {T : Type} (k : Nat) : List (FuncId × Hd T) := cal0 k
theorem cal_ok {T : Type} (k : Nat) : HdsOk Try.prog (cal (T := T) k) := cal0_ok k
noncomputable def S (k : Nat) (a0 : ByteArray) (a1 : Int) : O (ByteArray × Int) :=
  O.bind (F_aqueductref06_Parse.S k a0) fun r1 =>
  O.cond (decide (r1.2 ≠ (0 : Int))) (
   .ok ((⟨#[]⟩ : ByteArray), r1.2)) (
   O.cond (decide (a1 = (-1 : Int))) (
    O.bind (F_aqueductref06_Build.S k (r1.1.1, r1.1.2.1, a1, (0 : Int), r1.1.2.2.2.2.1, r1.1.2.2.2.2.2)) fun r2 =>
    .ok r2) (
    O.bind (F_aqueductref06_Build.S k (r1.1.1, r1.1.2.1, a1, r1.1.2.2.2.1, r1.1.2.2.2.2.1, r1.1.2.2.2.2.2)) fun r3 =>
    .ok r3))
theorem eq (k : Nat) (a0 : ByteArray) (a1 : Int) : evFn (T := ByteArray × Int) tab (calOf (cal k)) Go.Proofs.Try.f59 nt k 0 [.str a0, .int .i64 a1] [] ⟨0, false, []⟩ (fun v st => outK ct.ob (γ0 ct) ct.outs v st .ok) (fun e st => outP ct.ob (γ0 ct) ct.outs e st .ok) = S k a0 a1 := by kernel_rfl
theorem ok (k : Nat) : FnOkC Try.prog 59 ct (fun (x : ByteArray × Int) (_ : Unit) => S k x.1 x.2) :=
  FnOkC.of_ev (C := ct) tab_ok rfl (calOf_ok (cal_ok k)) mixed Try.func59 nt k (fun _ _ => rfl) (fun (x : ByteArray × Int) (_ : Unit) => eq k x.1 x.2)
theorem hd {T : Type} (k : Nat) : HdOk Try.prog 59 (pureC (T := T) ct [] (fun (x : ByteArray × Int) (_ : Unit) => S k x.1 x.2)) :=
  pureC_ok rfl [] (ok k) Try.call59
end F_aqueductref06_Tag
namespace F_aqueductref20_Leaves
/-! ### aqueduct/aqueductref20.Leaves: function 41 -/
noncomputable def ct : Ct := ⟨.some (.cons (.agg (.cons (.leaf (.int .i64)) (.one (.row false 3 [.int .i64]) []))) (.cons (.leaf (.int .i64)) (.one (.leaf .str) []))), [], [⟨.tup (.cons (.leaf .str) (.one (.leaf (.int .i64)) [])), [], []⟩]⟩
noncomputable def nt : Notes := ⟨[], [], [], [], []⟩
noncomputable def cal0 {T : Type} (k : Nat) : List (FuncId × Hd T) := [(59, pureC F_aqueductref06_Tag.ct [] (fun (x : ByteArray × Int) (_ : Unit) => F_aqueductref06_Tag.S k x.1 x.2))]
theorem cal0_ok {T : Type} (k : Nat) : HdsOk Try.prog (cal0 (T := T) k) := ⟨F_aqueductref06_Tag.hd k, trivial⟩
noncomputable def cal {T : Type} (k : Nat) : List (FuncId × Hd T) := cal0 k
theorem cal_ok {T : Type} (k : Nat) : HdsOk Try.prog (cal (T := T) k) := cal0_ok k
noncomputable def S (k : Nat) (a0 : Int × List Int) (a1 : Int) (a2 : ByteArray) : O (ByteArray × Int) :=
  O.cond (decide (a0.1 = a1)) (
   O.bind (F_aqueductref06_Tag.S k a2 (-1 : Int)) fun r1 =>
   .ok r1) (
   O.bind (F_aqueductref06_Tag.S k a2 a1) fun r2 =>
   .ok r2)
theorem eq (k : Nat) (a0 : Int × List Int) (a1 : Int) (a2 : ByteArray) : evFn (T := ByteArray × Int) tab (calOf (cal k)) Go.Proofs.Try.f41 nt k 0 [.agg [.int .i64 a0.1, .osl 0], .int .i64 a1, .str a2] [] ⟨1, false, [(0, .row false 3 [.int .i64] a0.2)]⟩ (fun v st => outK ct.ob (γ0 ct) ct.outs v st .ok) (fun e st => outP ct.ob (γ0 ct) ct.outs e st .ok) = S k a0 a1 a2 := by kernel_rfl
theorem ok (k : Nat) : FnOkC Try.prog 41 ct (fun (x : (Int × List Int) × Int × ByteArray) (_ : Unit) => S k x.1 x.2.1 x.2.2) :=
  FnOkC.of_ev (C := ct) tab_ok rfl (calOf_ok (cal_ok k)) mixed Try.func41 nt k (fun _ _ => rfl) (fun (x : (Int × List Int) × Int × ByteArray) (_ : Unit) => eq k x.1 x.2.1 x.2.2)
theorem hd {T : Type} (k : Nat) : HdOk Try.prog 41 (pureC (T := T) ct [] (fun (x : (Int × List Int) × Int × ByteArray) (_ : Unit) => S k x.1 x.2.1 x.2.2)) :=
  pureC_ok rfl [] (ok k) Try.call41
end F_aqueductref20_Leaves
namespace F_aqueductref20_Net
/-! ### aqueduct/aqueductref20.Net: function 18 -/
noncomputable def ct : Ct := ⟨.some (.cons (.tab false 55 (.cons (.leaf (.int .i64)) (.one (.row false 3 [.int .i64]) []))) (.cons (.leaf (.int .i64)) (.one (.leaf .str) []))), [], [⟨.tup (.cons (.agg (.cons (.leaf .str) (.cons (.leaf .str) (.cons (.leaf (.int .i64)) (.cons (.leaf (.int .i64)) (.cons (.leaf (.int .i64)) (.one (.leaf .str) []))))))) (.cons (.leaf (.int .i64)) (.one (.leaf .bool) []))), [], []⟩]⟩
noncomputable def nt : Notes := ⟨[(7, ⟨[0, 2, 6, 9, 11, 12, 13], []⟩)], [(5, ⟨[0, 2, 6, 9, 10, 11], []⟩), (6, ⟨[0, 2, 6, 9, 11, 12], []⟩)], [], [], []⟩
noncomputable def cal0 {T : Type} (k : Nat) : List (FuncId × Hd T) := [(19, pureC F_aqueductref20_Has.ct [] (fun (x : (Int × List Int) × Int) (_ : Unit) => F_aqueductref20_Has.S k x.1 x.2)), (20, pureC F_aqueductref06_Parse.ct [] (fun (x : ByteArray) (_ : Unit) => F_aqueductref06_Parse.S k x)), (40, pureC F_aqueductref05_Kind.ct [] (fun (x : ByteArray) (_ : Unit) => F_aqueductref05_Kind.S k x)), (41, pureC F_aqueductref20_Leaves.ct [] (fun (x : (Int × List Int) × Int × ByteArray) (_ : Unit) => F_aqueductref20_Leaves.S k x.1 x.2.1 x.2.2))]
theorem cal0_ok {T : Type} (k : Nat) : HdsOk Try.prog (cal0 (T := T) k) := ⟨F_aqueductref20_Has.hd k, F_aqueductref06_Parse.hd k, F_aqueductref05_Kind.hd k, F_aqueductref20_Leaves.hd k, trivial⟩
noncomputable def cal {T : Type} (k : Nat) : List (FuncId × Hd T) := cal0 k
theorem cal_ok {T : Type} (k : Nat) : HdsOk Try.prog (cal (T := T) k) := cal0_ok k
noncomputable abbrev la (k : Nat) (Rs : List (Fr → St → O TY22)) (ds : List Dir) (j : Nat) : Fr → St → O TY22 := loopAt tab (calOf (cal k)) Go.Proofs.Try.f18.ntmps nt k Rs ds (bodyOf Go.Proofs.Try.f18) (finK tab Go.Proofs.Try.f18.results.toList (fun v st => outK ct.ob (γ0 ct) ct.outs v st .ok) (fun e st => outP ct.ob (γ0 ct) ct.outs e st .ok)) j
noncomputable abbrev ca (k : Nat) (Rs : List (Fr → St → O TY22)) (ds : List Dir) : Fr → St → O TY22 := codeAt tab (calOf (cal k)) Go.Proofs.Try.f18.ntmps nt k Rs ds (bodyOf Go.Proofs.Try.f18) (finK tab Go.Proofs.Try.f18.results.toList (fun v st => outK ct.ob (γ0 ct) ct.outs v st .ok) (fun e st => outP ct.ob (γ0 ct) ct.outs e st .ok))
noncomputable abbrev zj3 {α : Type} (X : Fr → St → α) (a0 : List (Int × List Int)) (a2 : ByteArray) (r2 : TY20 × Int) (v3 : Int) : α := X ⟨[(0, .osl 0), (2, .str a2), (6, .ptr 1 0), (9, .ptr 2 0), (10, .int .i64 r2.2), (11, .int .i64 v3)], [], 0, []⟩ ⟨4, true, [(0, .tab false 55 [] 3 (.cons (.leaf (.int .i64)) (.one (.row false 3 [.int .i64]) [])) a0), (1, .cells 58 [.str ByteArray.empty, .str ByteArray.empty, .int .i64 (0 : Int), .int .i64 (0 : Int), .int .i64 (0 : Int), .str ByteArray.empty]), (2, .cells 58 [.str r2.1.1, .str r2.1.2.1, .int .i64 r2.1.2.2.1, .int .i64 r2.1.2.2.2.1, .int .i64 r2.1.2.2.2.2.1, .str r2.1.2.2.2.2.2]), (3, .ghost)]⟩
noncomputable abbrev zj4 {α : Type} (X : Fr → St → α) (a0 : List (Int × List Int)) (a2 : ByteArray) (r2 : TY20 × Int) (v3 : Int) (v5 : Bool) : α := X ⟨[(0, .osl 0), (2, .str a2), (6, .ptr 1 0), (9, .ptr 2 0), (11, .int .i64 v3), (12, .bool v5)], [], 0, []⟩ ⟨4, true, [(0, .tab false 55 [] 3 (.cons (.leaf (.int .i64)) (.one (.row false 3 [.int .i64]) [])) a0), (1, .cells 58 [.str ByteArray.empty, .str ByteArray.empty, .int .i64 (0 : Int), .int .i64 (0 : Int), .int .i64 (0 : Int), .str ByteArray.empty]), (2, .cells 58 [.str r2.1.1, .str r2.1.2.1, .int .i64 r2.1.2.2.1, .int .i64 r2.1.2.2.2.1, .int .i64 r2.1.2.2.2.2.1, .str r2.1.2.2.2.2.2]), (3, .ghost)]⟩
noncomputable abbrev zl2 {α : Type} (X : Fr → St → α) (a0 : List (Int × List Int)) (a2 : ByteArray) (r2 : TY20 × Int) (v3 : Int) (v8 : Bool) (v9 : Int) : α := X ⟨[(0, .osl 0), (2, .str a2), (6, .ptr 1 0), (9, .ptr 2 0), (11, .int .i64 v3), (12, .bool v8), (13, .int .i64 v9)], [], 0, []⟩ ⟨4, true, [(0, .tab false 55 [] 3 (.cons (.leaf (.int .i64)) (.one (.row false 3 [.int .i64]) [])) a0), (1, .cells 58 [.str ByteArray.empty, .str ByteArray.empty, .int .i64 (0 : Int), .int .i64 (0 : Int), .int .i64 (0 : Int), .str ByteArray.empty]), (2, .cells 58 [.str r2.1.1, .str r2.1.2.1, .int .i64 r2.1.2.2.1, .int .i64 r2.1.2.2.2.1, .int .i64 r2.1.2.2.2.2.1, .str r2.1.2.2.2.2.2]), (3, .ghost)]⟩
noncomputable def l2_b (k : Nat) (a0 : List (Int × List Int)) (a2 : ByteArray) (r2 : TY20 × Int) (v3 : Int) (R_l2 : Bool → Int → O TY22) (v8 : Bool) (v9 : Int) : O TY22 :=
  O.cond (decide (v9 < (List.length a0 : Int))) (
   O.cond (!v8) (
    O.chk (decide (0 ≤ v9 ∧ v9 < (List.length a0 : Int))) (
     O.chk (decide (0 ≤ v9 ∧ v9 < (List.length a0 : Int))) (
      O.bind (F_aqueductref20_Leaves.S k (gt ((0 : Int), []) a0 v9) v3 a2) fun r12 =>
      O.chk (decide (0 ≤ v9 ∧ v9 < (List.length a0 : Int))) (
       O.chk (decide (0 ≤ v9 ∧ v9 < (List.length a0 : Int))) (
        O.bind (F_aqueductref20_Has.S k (gt ((0 : Int), []) a0 v9) v3) fun r13 =>
        O.cond r13 (
         R_l2 (decide (r12.2 ≠ (0 : Int))) (IntKind.i64.wrap (v9 + (1 : Int)))) (
         R_l2 false (IntKind.i64.wrap (v9 + (1 : Int))))))))) (
    .ok (r2.1, v3, v8))) (
   .ok (r2.1, v3, v8))
noncomputable def l2 (k : Nat) (a0 : List (Int × List Int)) (a2 : ByteArray) (r2 : TY20 × Int) (v3 : Int) : Nat → Bool → Int → O TY22
  | 0, _, _ => .no
  | j + 1, v8, v9 => l2_b k a0 a2 r2 v3 (l2 k a0 a2 r2 v3 j) v8 v9
theorem l2_eq (k : Nat) (a0 : List (Int × List Int)) (a2 : ByteArray) (r2 : TY20 × Int) (v3 : Int) : ∀ (j : Nat) (v8 : Bool) (v9 : Int), zl2 (la k [] [.r, .r, .r, .r, .r, .l, .r, .b] j) a0 a2 r2 v3 v8 v9 = l2 k a0 a2 r2 v3 j v8 v9 := by
  intro j
  induction j with
  | zero => intro v8 v9; rfl
  | succ j ih =>
    intro v8 v9
    have rs : (fun (v8' : Bool) (v9' : Int) => zl2 (la k [] [.r, .r, .r, .r, .r, .l, .r, .b] j) a0 a2 r2 v3 v8' v9') = l2 k a0 a2 r2 v3 j := by funext v8' v9'; exact ih v8' v9'
    have h : zl2 (la k [] [.r, .r, .r, .r, .r, .l, .r, .b] (j + 1)) a0 a2 r2 v3 v8 v9 = l2_b k a0 a2 r2 v3 ((fun (v8' : Bool) (v9' : Int) => zl2 (la k [] [.r, .r, .r, .r, .r, .l, .r, .b] j) a0 a2 r2 v3 v8' v9')) v8 v9 := by kernel_rfl
    exact h.trans (by rw [rs]; rfl)
noncomputable def j4_b (k : Nat) (a0 : List (Int × List Int)) (a2 : ByteArray) (r2 : TY20 × Int) (v3 : Int) (D_l2 : Bool → Int → O TY22) (v5 : Bool) : O TY22 :=
  D_l2 v5 (0 : Int)
noncomputable def j4 (k : Nat) (a0 : List (Int × List Int)) (a2 : ByteArray) (r2 : TY20 × Int) (v3 : Int) (v5 : Bool) : O TY22 := j4_b k a0 a2 r2 v3 ((fun (v8 : Bool) (v9 : Int) => l2 k a0 a2 r2 v3 k v8 v9)) v5
theorem j4_eq (k : Nat) (a0 : List (Int × List Int)) (a2 : ByteArray) (r2 : TY20 × Int) (v3 : Int) (v5 : Bool) : zj4 (ca k [] [.r, .r, .r, .r, .r]) a0 a2 r2 v3 v5 = j4 k a0 a2 r2 v3 v5 := by
    have e0 : (fun (v8 : Bool) (v9 : Int) => zl2 (la k [] [.r, .r, .r, .r, .r, .l, .r, .b] k) a0 a2 r2 v3 v8 v9) = (fun (v8 : Bool) (v9 : Int) => l2 k a0 a2 r2 v3 k v8 v9) := by funext v8 v9; exact l2_eq k a0 a2 r2 v3 k v8 v9
    have h : zj4 (ca k [] [.r, .r, .r, .r, .r]) a0 a2 r2 v3 v5 = j4_b k a0 a2 r2 v3 ((fun (v8 : Bool) (v9 : Int) => zl2 (la k [] [.r, .r, .r, .r, .r, .l, .r, .b] k) a0 a2 r2 v3 v8 v9)) v5 := (codeAt_eq _ _ _ _ _ _ _ _ _ _ _).trans (by show _ = _; kernel_rfl)
    exact h.trans (by rw [e0]; rfl)
noncomputable def j3_b (k : Nat) (a0 : List (Int × List Int)) (a2 : ByteArray) (r2 : TY20 × Int) (D_j4 : Int → Bool → O TY22) (v3 : Int) : O TY22 :=
  O.cond (decide (r2.2 ≠ (0 : Int))) (
   D_j4 v3 true) (
   O.bind (F_aqueductref05_Kind.S k r2.1.2.1) fun r14 =>
   D_j4 v3 (decide (r14 ≠ (1 : Int))))
noncomputable def j3 (k : Nat) (a0 : List (Int × List Int)) (a2 : ByteArray) (r2 : TY20 × Int) (v3 : Int) : O TY22 := j3_b k a0 a2 r2 ((fun (v3 : Int) (v5 : Bool) => j4 k a0 a2 r2 v3 v5)) v3
theorem j3_eq (k : Nat) (a0 : List (Int × List Int)) (a2 : ByteArray) (r2 : TY20 × Int) (v3 : Int) : zj3 (ca k [] [.r, .r, .r, .r]) a0 a2 r2 v3 = j3 k a0 a2 r2 v3 := by
    have e0 : (fun (v3 : Int) (v5 : Bool) => zj4 (ca k [] [.r, .r, .r, .r, .r]) a0 a2 r2 v3 v5) = (fun (v3 : Int) (v5 : Bool) => j4 k a0 a2 r2 v3 v5) := by funext v3 v5; exact j4_eq k a0 a2 r2 v3 v5
    have h : zj3 (ca k [] [.r, .r, .r, .r]) a0 a2 r2 v3 = j3_b k a0 a2 r2 ((fun (v3 : Int) (v5 : Bool) => zj4 (ca k [] [.r, .r, .r, .r, .r]) a0 a2 r2 v3 v5)) v3 := (codeAt_eq _ _ _ _ _ _ _ _ _ _ _).trans (by show _ = _; kernel_rfl)
    exact h.trans (by rw [e0]; rfl)
noncomputable def top (k : Nat) (a0 : List (Int × List Int)) (a1 : Int) (a2 : ByteArray) (D_j3 : TY21 → Int → O TY22) : O TY22 :=
  O.bind (F_aqueductref06_Parse.S k a2) fun r2 =>
  O.cond (decide (r2.1.2.2.1 < (0 : Int))) (
   O.chk (decide (0 ≤ a1 ∧ a1 < (List.length a0 : Int))) (
    O.chk (decide (0 ≤ a1 ∧ a1 < (List.length a0 : Int))) (
     D_j3 r2 ((gt ((0 : Int), []) a0 a1).1)))) (
   D_j3 r2 r2.1.2.2.1)
noncomputable def S (k : Nat) (a0 : List (Int × List Int)) (a1 : Int) (a2 : ByteArray) : O TY22 := top k a0 a1 a2 ((fun (r2 : TY20 × Int) (v3 : Int) => j3 k a0 a2 r2 v3))
theorem eq (k : Nat) (a0 : List (Int × List Int)) (a1 : Int) (a2 : ByteArray) : evFn (T := TY20 × Int × Bool) tab (calOf (cal k)) Go.Proofs.Try.f18 nt k 0 [.osl 1, .int .i64 a1, .str a2] [] ⟨2, false, [(1, .tab false 55 [] 0 (.cons (.leaf (.int .i64)) (.one (.row false 3 [.int .i64]) [])) a0), (0, .ghost)]⟩ (fun v st => outK ct.ob (γ0 ct) ct.outs v st .ok) (fun e st => outP ct.ob (γ0 ct) ct.outs e st .ok) = S k a0 a1 a2 := by
  have e0 : (fun (r2 : TY20 × Int) (v3 : Int) => zj3 (ca k [] [.r, .r, .r, .r]) a0 a2 r2 v3) = (fun (r2 : TY20 × Int) (v3 : Int) => j3 k a0 a2 r2 v3) := by funext r2 v3; exact j3_eq k a0 a2 r2 v3
  have h : evFn (T := TY20 × Int × Bool) tab (calOf (cal k)) Go.Proofs.Try.f18 nt k 0 [.osl 1, .int .i64 a1, .str a2] [] ⟨2, false, [(1, .tab false 55 [] 0 (.cons (.leaf (.int .i64)) (.one (.row false 3 [.int .i64]) [])) a0), (0, .ghost)]⟩ (fun v st => outK ct.ob (γ0 ct) ct.outs v st .ok) (fun e st => outP ct.ob (γ0 ct) ct.outs e st .ok) = top k a0 a1 a2 ((fun (r2 : TY20 × Int) (v3 : Int) => zj3 (ca k [] [.r, .r, .r, .r]) a0 a2 r2 v3)) := by kernel_rfl
  exact h.trans (by rw [e0]; rfl)
theorem ok (k : Nat) : FnOkC Try.prog 18 ct (fun (x : TY8 × Int × ByteArray) (_ : Unit) => S k x.1 x.2.1 x.2.2) :=
  FnOkC.of_ev (C := ct) tab_ok rfl (calOf_ok (cal_ok k)) mixed Try.func18 nt k (fun _ _ => rfl) (fun (x : TY8 × Int × ByteArray) (_ : Unit) => eq k x.1 x.2.1 x.2.2)
theorem hd {T : Type} (k : Nat) : HdOk Try.prog 18 (pureC (T := T) ct [] (fun (x : TY8 × Int × ByteArray) (_ : Unit) => S k x.1 x.2.1 x.2.2)) :=
  pureC_ok rfl [] (ok k) Try.call18
end F_aqueductref20_Net
namespace F_aqueductlaw20_among
/-! ### aqueduct/aqueductlaw20.among: function 21 -/
noncomputable def ct : Ct := ⟨.some (.cons (.row false 3 [.int .i64]) (.one (.leaf (.int .i64)) [])), [], [⟨.val (.row true 3 [.int .i64]), [], []⟩]⟩
noncomputable def nt : Notes := ⟨[(3, ⟨[0, 1, 5, 6], []⟩)], [], [], [], []⟩
noncomputable def cal0 {T : Type} (k : Nat) : List (FuncId × Hd T) := []
theorem cal0_ok {T : Type} (k : Nat) : HdsOk Try.prog (cal0 (T := T) k) := trivial
noncomputable def cal {T : Type} (k : Nat) : List (FuncId × Hd T) := cal0 k
theorem cal_ok {T : Type} (k : Nat) : HdsOk Try.prog (cal (T := T) k) := cal0_ok k
noncomputable abbrev la (k : Nat) (Rs : List (Fr → St → O (List Int))) (ds : List Dir) (j : Nat) : Fr → St → O (List Int) := loopAt tab (calOf (cal k)) Go.Proofs.Try.f21.ntmps nt k Rs ds (bodyOf Go.Proofs.Try.f21) (finK tab Go.Proofs.Try.f21.results.toList (fun v st => outK ct.ob (γ0 ct) ct.outs v st .ok) (fun e st => outP ct.ob (γ0 ct) ct.outs e st .ok)) j
noncomputable abbrev zl0 {α : Type} (X : Fr → St → α) (a0 : List Int) (a1 : Int) (v1 : Int) (v2 : List Int) : α := X ⟨[(0, .osl 0), (1, .int .i64 a1), (5, .osl 1), (6, .int .i64 v1)], [], 0, []⟩ ⟨2, true, [(0, .row false 3 [.int .i64] a0), (1, .row true 3 [.int .i64] v2)]⟩
noncomputable def l0_b (k : Nat) (a0 : List Int) (a1 : Int) (R_l0 : Int → (List Int) → O (List Int)) (v1 : Int) (v2 : List Int) : O (List Int) :=
  O.cond (decide (v1 < (List.length a0 : Int))) (
   O.chk (decide (0 ≤ v1 ∧ v1 < (List.length a0 : Int) ∧ (List.length a0 : Int) ≤ (List.length a0 : Int))) (
    O.chk (decide (0 ≤ v1 ∧ v1 < (List.length a0 : Int))) (
     O.cond (decide ((gt (0 : Int) a0 v1) = a1)) (
      O.chk (decide (List.length v2 + List.length [a1] ≤ 1073741824)) (
       R_l0 (IntKind.i64.wrap (v1 + (1 : Int))) (v2 ++ [a1]))) (
      R_l0 (IntKind.i64.wrap (v1 + (1 : Int))) v2)))) (
   .ok v2)
noncomputable def l0 (k : Nat) (a0 : List Int) (a1 : Int) : Nat → Int → (List Int) → O (List Int)
  | 0, _, _ => .no
  | j + 1, v1, v2 => l0_b k a0 a1 (l0 k a0 a1 j) v1 v2
theorem l0_eq (k : Nat) (a0 : List Int) (a1 : Int) : ∀ (j : Nat) (v1 : Int) (v2 : List Int), zl0 (la k [] [.r, .r, .l, .r, .b] j) a0 a1 v1 v2 = l0 k a0 a1 j v1 v2 := by
  intro j
  induction j with
  | zero => intro v1 v2; rfl
  | succ j ih =>
    intro v1 v2
    have rs : (fun (v1' : Int) (v2' : List Int) => zl0 (la k [] [.r, .r, .l, .r, .b] j) a0 a1 v1' v2') = l0 k a0 a1 j := by funext v1' v2'; exact ih v1' v2'
    have h : zl0 (la k [] [.r, .r, .l, .r, .b] (j + 1)) a0 a1 v1 v2 = l0_b k a0 a1 ((fun (v1' : Int) (v2' : List Int) => zl0 (la k [] [.r, .r, .l, .r, .b] j) a0 a1 v1' v2')) v1 v2 := by kernel_rfl
    exact h.trans (by rw [rs]; rfl)
noncomputable def top (k : Nat) (a0 : List Int) (a1 : Int) (D_l0 : Int → (List Int) → O (List Int)) : O (List Int) :=
  D_l0 (0 : Int) []
noncomputable def S (k : Nat) (a0 : List Int) (a1 : Int) : O (List Int) := top k a0 a1 ((fun (v1 : Int) (v2 : List Int) => l0 k a0 a1 k v1 v2))
theorem eq (k : Nat) (a0 : List Int) (a1 : Int) : evFn (T := List Int) tab (calOf (cal k)) Go.Proofs.Try.f21 nt k 0 [.osl 0, .int .i64 a1] [] ⟨1, false, [(0, .row false 3 [.int .i64] a0)]⟩ (fun v st => outK ct.ob (γ0 ct) ct.outs v st .ok) (fun e st => outP ct.ob (γ0 ct) ct.outs e st .ok) = S k a0 a1 := by
  have e0 : (fun (v1 : Int) (v2 : List Int) => zl0 (la k [] [.r, .r, .l, .r, .b] k) a0 a1 v1 v2) = (fun (v1 : Int) (v2 : List Int) => l0 k a0 a1 k v1 v2) := by funext v1 v2; exact l0_eq k a0 a1 k v1 v2
  have h : evFn (T := List Int) tab (calOf (cal k)) Go.Proofs.Try.f21 nt k 0 [.osl 0, .int .i64 a1] [] ⟨1, false, [(0, .row false 3 [.int .i64] a0)]⟩ (fun v st => outK ct.ob (γ0 ct) ct.outs v st .ok) (fun e st => outP ct.ob (γ0 ct) ct.outs e st .ok) = top k a0 a1 ((fun (v1 : Int) (v2 : List Int) => zl0 (la k [] [.r, .r, .l, .r, .b] k) a0 a1 v1 v2)) := by kernel_rfl
  exact h.trans (by rw [e0]; rfl)
theorem ok (k : Nat) : FnOkC Try.prog 21 ct (fun (x : List Int × Int) (_ : Unit) => S k x.1 x.2) :=
  FnOkC.of_ev (C := ct) tab_ok rfl (calOf_ok (cal_ok k)) mixed Try.func21 nt k (fun _ _ => rfl) (fun (x : List Int × Int) (_ : Unit) => eq k x.1 x.2)
theorem hd {T : Type} (k : Nat) : HdOk Try.prog 21 (pureC (T := T) ct [] (fun (x : List Int × Int) (_ : Unit) => S k x.1 x.2)) :=
  pureC_ok rfl [] (ok k) Try.call21
end F_aqueductlaw20_among
end Go.Proofs.Ytkihcmcaignmkaa
end
