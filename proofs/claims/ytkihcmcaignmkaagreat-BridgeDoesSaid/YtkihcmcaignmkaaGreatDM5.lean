/- Texts of this proof, joined (2 of them): DS2, DS3.
   Conditions: none but those that stand at each theorem. -/
import Derived.Test.YtkihcmcaignmkaaGreatDM4
section
namespace Go.Proofs.YtkihcmcaignmkaaGreat
open Go.Aq
set_option linter.unusedVariables false
set_option maxRecDepth 100000
namespace F_bridge_may
noncomputable def ct : Ct := ⟨.some (.one (.agg (.cons (.leaf (.int .i64)) (.one (.row false 3 [.int .i64]) []))) []), [], [⟨.val (.leaf .bool), [], []⟩]⟩
noncomputable def nt : Notes := ⟨[(3, ⟨[1, 3, 7, 8, 9], []⟩)], [], [], [], []⟩
noncomputable def cal0 {T : Type} (k : Nat) : List (FuncId × Hd T) := []
theorem cal0_ok {T : Type} (k : Nat) : HdsOk Tryz.prog (cal0 (T := T) k) := trivial
noncomputable def cal {T : Type} (k : Nat) : List (FuncId × Hd T) := cal0 k
theorem cal_ok {T : Type} (k : Nat) : HdsOk Tryz.prog (cal (T := T) k) := cal0_ok k
noncomputable abbrev la (k : Nat) (Rs : List (Fr → St → O (Bool))) (ds : List Dir) (j : Nat) : Fr → St → O (Bool) := loopAt tab (calOf (cal k)) Go.Proofs.Tryz.f43.ntmps nt k Rs ds (bodyOf Go.Proofs.Tryz.f43) (finK tab Go.Proofs.Tryz.f43.results.toList (fun v st => outK ct.ob (γ0 ct) ct.outs v st .ok) (fun e st => outP ct.ob (γ0 ct) ct.outs e st .ok)) j
noncomputable abbrev zl0 {α : Type} (X : Fr → St → α) (a0 : Int × List Int) (v1 : Int) (v2 : Int) : α := X ⟨[(1, .ptr 0 0), (3, .int .i64 v1), (7, .osl 1), (8, .int .i64 (List.length a0.2 : Int)), (9, .int .i64 v2)], [], 0, []⟩ ⟨2, true, [(0, .cells 58 [.int .i64 a0.1, .osl 1]), (1, .row false 3 [.int .i64] a0.2)]⟩
noncomputable def l0_b (k : Nat) (a0 : Int × List Int) (R_l0 : Int → Int → O Bool) (v1 : Int) (v2 : Int) : O Bool :=
  O.cond (decide (v2 < (List.length a0.2 : Int))) (
   O.chk (decide (0 ≤ v2 ∧ v2 < (List.length a0.2 : Int) ∧ (List.length a0.2 : Int) ≤ (List.length a0.2 : Int))) (
    O.chk (decide (0 ≤ v2 ∧ v2 < (List.length a0.2 : Int))) (
     O.cond (decide ((gt (0 : Int) a0.2 v2) ≤ v1)) (
      .ok false) (
      O.cond (decide ((gt (0 : Int) a0.2 v2) > (4094 : Int))) (
       .ok false) (
       R_l0 (gt (0 : Int) a0.2 v2) (IntKind.i64.wrap (v2 + (1 : Int)))))))) (
   O.cond (decide (a0.1 ≥ (0 : Int))) (
    .ok (decide (a0.1 ≤ (4094 : Int)))) (
    .ok false))
noncomputable def l0 (k : Nat) (a0 : Int × List Int) : Nat → Int → Int → O Bool
 | 0, _, _ => .no
 | j + 1, v1, v2 => l0_b k a0 (l0 k a0 j) v1 v2
theorem l0_eq (k : Nat) (a0 : Int × List Int) : ∀ (j : Nat) (v1 : Int) (v2 : Int), zl0 (la k [] [.r, .r, .l, .r, .b] j) a0 v1 v2 = l0 k a0 j v1 v2 := by
 intro j
 induction j with
 | zero => intro v1 v2; rfl
 | succ j ih =>
  intro v1 v2
  have rs : (fun (v1' : Int) (v2' : Int) => zl0 (la k [] [.r, .r, .l, .r, .b] j) a0 v1' v2') = l0 k a0 j := by funext v1' v2'; exact ih v1' v2'
  have h : zl0 (la k [] [.r, .r, .l, .r, .b] (j + 1)) a0 v1 v2 = l0_b k a0 ((fun (v1' : Int) (v2' : Int) => zl0 (la k [] [.r, .r, .l, .r, .b] j) a0 v1' v2')) v1 v2 := by kernel_rfl
  exact h.trans (by rw [rs]; rfl)
noncomputable def top (k : Nat) (a0 : Int × List Int) (D_l0 : Int → Int → O Bool) : O Bool :=
 D_l0 (-1 : Int) (0 : Int)
noncomputable def S (k : Nat) (a0 : Int × List Int) : O Bool := top k a0 ((fun (v1 : Int) (v2 : Int) => l0 k a0 k v1 v2))
theorem eq (k : Nat) (a0 : Int × List Int) : evFn (T := Bool) tab (calOf (cal k)) Go.Proofs.Tryz.f43 nt k 0 [.agg [.int .i64 a0.1, .osl 0]] [] ⟨1, false, [(0, .row false 3 [.int .i64] a0.2)]⟩ (fun v st => outK ct.ob (γ0 ct) ct.outs v st .ok) (fun e st => outP ct.ob (γ0 ct) ct.outs e st .ok) = S k a0 := by
 have e0 : (fun (v1 : Int) (v2 : Int) => zl0 (la k [] [.r, .r, .l, .r, .b] k) a0 v1 v2) = (fun (v1 : Int) (v2 : Int) => l0 k a0 k v1 v2) := by funext v1 v2; exact l0_eq k a0 k v1 v2
 have h : evFn (T := Bool) tab (calOf (cal k)) Go.Proofs.Tryz.f43 nt k 0 [.agg [.int .i64 a0.1, .osl 0]] [] ⟨1, false, [(0, .row false 3 [.int .i64] a0.2)]⟩ (fun v st => outK ct.ob (γ0 ct) ct.outs v st .ok) (fun e st => outP ct.ob (γ0 ct) ct.outs e st .ok) = top k a0 ((fun (v1 : Int) (v2 : Int) => zl0 (la k [] [.r, .r, .l, .r, .b] k) a0 v1 v2)) := by kernel_rfl
 exact h.trans (by rw [e0]; rfl)
theorem ok (k : Nat) : FnOkC Tryz.prog 43 ct (fun (x : Int × List Int) (_ : Unit) => S k x) :=
 FnOkC.of_ev (C := ct) tab_ok rfl (calOf_ok (cal_ok k)) mixed Tryz.func43 nt k (fun _ _ => rfl) (fun (x : Int × List Int) (_ : Unit) => eq k x)
theorem hd {T : Type} (k : Nat) : HdOk Tryz.prog 43 (pureC (T := T) ct [] (fun (x : Int × List Int) (_ : Unit) => S k x)) :=
 pureC_ok rfl [] (ok k) Tryz.call43
end F_bridge_may
namespace F_slices_Clone_int_int
noncomputable def ct : Ct := ⟨.some (.one (.row false 3 [.int .i64]) []), [], [⟨.val (.row true 3 [.int .i64]), [], []⟩]⟩
noncomputable def nt : Notes := ⟨[], [], [], [], []⟩
noncomputable def cal0 {T : Type} (k : Nat) : List (FuncId × Hd T) := []
theorem cal0_ok {T : Type} (k : Nat) : HdsOk Tryz.prog (cal0 (T := T) k) := trivial
noncomputable def cal {T : Type} (k : Nat) : List (FuncId × Hd T) := cal0 k
theorem cal_ok {T : Type} (k : Nat) : HdsOk Tryz.prog (cal (T := T) k) := cal0_ok k
noncomputable def S (k : Nat) (a0 : List Int) : O (List Int) :=
  O.cond (decide (0 < (List.length a0 : Int))) (
   O.cond false (
    .ok []) (
    O.chk (decide ((0 : Nat) + List.length a0 ≤ 1073741824)) (
     .ok ([] ++ a0)))) (
   O.same (
    O.cond true (
     .ok []) (
     O.chk (decide ((0 : Nat) + List.length a0 ≤ 1073741824)) (
      .ok ([] ++ a0)))) (
    O.cond false (
     .ok []) (
     O.chk (decide ((0 : Nat) + List.length a0 ≤ 1073741824)) (
      .ok ([] ++ a0)))))
theorem eq (k : Nat) (a0 : List Int) : evFn (T := List Int) tab (calOf (cal k)) Go.Proofs.Tryz.f44 nt k 0 [.osl 0] [] ⟨1, false, [(0, .row false 3 [.int .i64] a0)]⟩ (fun v st => outK ct.ob (γ0 ct) ct.outs v st .ok) (fun e st => outP ct.ob (γ0 ct) ct.outs e st .ok) = S k a0 := by kernel_rfl
theorem ok (k : Nat) : FnOkC Tryz.prog 44 ct (fun (x : List Int) (_ : Unit) => S k x) :=
 FnOkC.of_ev (C := ct) tab_ok rfl (calOf_ok (cal_ok k)) mixed Tryz.func44 nt k (fun _ _ => rfl) (fun (x : List Int) (_ : Unit) => eq k x)
theorem hd {T : Type} (k : Nat) : HdOk Tryz.prog 44 (pureC (T := T) ct [] (fun (x : List Int) (_ : Unit) => S k x)) :=
 pureC_ok rfl [] (ok k) Tryz.call44
end F_slices_Clone_int_int
namespace F_lane_New_string
noncomputable def ct : Ct := ⟨.some (.one (.leaf (.int .i64)) []), [], [⟨.tup (.pin (.nil) (.one (.leaf (.int .i64)) [])), [], []⟩, ⟨.tup (.pin (.ref 0) (.one (.leaf (.int .i64)) [])), [(129, .cons (.row true 9 [.str]) (.cons (.leaf (.int .i64)) (.one (.leaf (.int .i64)) [])))], [.arg 0 0]⟩]⟩
noncomputable def nt : Notes := ⟨[], [], [], [], []⟩
noncomputable def cal0 {T : Type} (k : Nat) : List (FuncId × Hd T) := []
theorem cal0_ok {T : Type} (k : Nat) : HdsOk Tryz.prog (cal0 (T := T) k) := trivial
noncomputable def cal {T : Type} (k : Nat) : List (FuncId × Hd T) := cal0 k
theorem cal_ok {T : Type} (k : Nat) : HdsOk Tryz.prog (cal (T := T) k) := cal0_ok k
noncomputable def S (k : Nat) (a0 : Int) : O (Int ⊕ (Int × List ByteArray × Int × Int)) :=
  O.cond (decide (a0 < (1 : Int))) (
   .ok (.inl (190 : Int))) (
   O.cond (decide (a0 > (1024 : Int))) (
    .ok (.inl (190 : Int))) (
    .ok (.inr ((0 : Int), ([], a0, (0 : Int))))))
theorem eq (k : Nat) (a0 : Int) : evFn (T := Int ⊕ (Int × List ByteArray × Int × Int)) tab (calOf (cal k)) Go.Proofs.Tryz.f73 nt k 0 [.int .i64 a0] [] ⟨0, false, []⟩ (fun v st => outK ct.ob (γ0 ct) ct.outs v st .ok) (fun e st => outP ct.ob (γ0 ct) ct.outs e st .ok) = S k a0 := by kernel_rfl
theorem ok (k : Nat) : FnOkC Tryz.prog 73 ct (fun (x : Int) (_ : Unit) => S k x) :=
 FnOkC.of_ev (C := ct) tab_ok rfl (calOf_ok (cal_ok k)) mixed Tryz.func73 nt k (fun _ _ => rfl) (fun (x : Int) (_ : Unit) => eq k x)
theorem hd {T : Type} (k : Nat) : HdOk Tryz.prog 73 (pureC (T := T) ct [] (fun (x : Int) (_ : Unit) => S k x)) :=
 pureC_ok rfl [] (ok k) Tryz.call73
end F_lane_New_string
namespace F_lane_Texts
noncomputable def ct : Ct := ⟨.some (.one (.leaf (.int .i64)) []), [], [⟨.tup (.pin (.nil) (.one (.leaf (.int .i64)) [])), [], []⟩, ⟨.tup (.pin (.ref 0) (.one (.leaf (.int .i64)) [])), [(129, .cons (.row true 9 [.str]) (.cons (.leaf (.int .i64)) (.one (.leaf (.int .i64)) [])))], [.arg 0 0]⟩]⟩
noncomputable def nt : Notes := ⟨[], [], [], [], []⟩
noncomputable def cal0 {T : Type} (k : Nat) : List (FuncId × Hd T) := [(73, pureC F_lane_New_string.ct [] (fun (x : Int) (_ : Unit) => F_lane_New_string.S k x))]
theorem cal0_ok {T : Type} (k : Nat) : HdsOk Tryz.prog (cal0 (T := T) k) := ⟨F_lane_New_string.hd k, trivial⟩
noncomputable def cal {T : Type} (k : Nat) : List (FuncId × Hd T) := cal0 k
theorem cal_ok {T : Type} (k : Nat) : HdsOk Tryz.prog (cal (T := T) k) := cal0_ok k
noncomputable def S (k : Nat) (a0 : Int) : O (Int ⊕ (Int × List ByteArray × Int × Int)) :=
  O.sum (F_lane_New_string.S k a0) (fun r1 =>
   .ok (.inl r1)) fun r2 =>
  .ok (.inr (r2.1, r2.2))
theorem eq (k : Nat) (a0 : Int) : evFn (T := Int ⊕ (Int × List ByteArray × Int × Int)) tab (calOf (cal k)) Go.Proofs.Tryz.f46 nt k 0 [.int .i64 a0] [] ⟨0, false, []⟩ (fun v st => outK ct.ob (γ0 ct) ct.outs v st .ok) (fun e st => outP ct.ob (γ0 ct) ct.outs e st .ok) = S k a0 := by kernel_rfl
theorem ok (k : Nat) : FnOkC Tryz.prog 46 ct (fun (x : Int) (_ : Unit) => S k x) :=
 FnOkC.of_ev (C := ct) tab_ok rfl (calOf_ok (cal_ok k)) mixed Tryz.func46 nt k (fun _ _ => rfl) (fun (x : Int) (_ : Unit) => eq k x)
theorem hd {T : Type} (k : Nat) : HdOk Tryz.prog 46 (pureC (T := T) ct [] (fun (x : Int) (_ : Unit) => S k x)) :=
 pureC_ok rfl [] (ok k) Tryz.call46
end F_lane_Texts
namespace F_bridge_New
noncomputable def ct : Ct := ⟨.some (.cons (.tab false 58 (.cons (.leaf (.int .i64)) (.one (.row false 3 [.int .i64]) []))) (.cons (.leaf (.int .i64)) (.cons (.leaf (.int .i64)) (.one (.leaf (.int .i64)) [])))), [], [⟨.tup (.pin (.nil) (.one (.leaf (.int .i64)) [])), [], []⟩, ⟨.tup (.pin (.ref 0) (.one (.leaf (.int .i64)) [])), [(66, .cons (.tab false 58 (.cons (.leaf (.int .i64)) (.one (.row false 3 [.int .i64]) []))) (.pin (.ref 1) (.cons (.tab true 78 (.one (.box 129 (.cons (.row true 9 [.str]) (.cons (.leaf (.int .i64)) (.one (.leaf (.int .i64)) [])))) [])) (.one (.agg (.cons (.leaf (.int .i64)) (.cons (.leaf (.int .i64)) (.cons (.leaf (.int .i64)) (.cons (.leaf (.int .i64)) (.cons (.leaf (.int .i64)) (.one (.leaf (.int .i64)) []))))))) [])))), (124, .cons (.leaf (.int .i64)) (.cons (.leaf (.int .i64)) (.one (.map 122 true true [.int .i64, .str] [.int .i64, .str, .int .i64, .int .i64]) [])))], [.arg 0 0, .fld 0 1]⟩]⟩
noncomputable def nt : Notes := ⟨[(5, ⟨[0, 1, 2, 3, 10, 27, 28, 29], [(.slot 10 [0], 58, .tb (.cons (.leaf (.int .i64)) (.one (.row false 3 [.int .i64]) [])))]⟩), (16, ⟨[3, 10, 66, 67], [(.slot 10 [2], 78, .tb (.one (.box 129 (.cons (.row true 9 [.str]) (.cons (.leaf (.int .i64)) (.one (.leaf (.int .i64)) [])))) []))]⟩), (16, ⟨[3, 10, 66, 67], [(.slot 10 [2], 78, .tb (.one (.box 129 (.cons (.row true 9 [.str]) (.cons (.leaf (.int .i64)) (.one (.leaf (.int .i64)) [])))) []))]⟩)], [], [(9, [0, 1, 2, 3, 4, 5, 6, 7, 8, 9, 10, 11, 12, 13, 14, 15])], [], []⟩
noncomputable def cal0 {T : Type} (k : Nat) : List (FuncId × Hd T) := [(43, pureC F_bridge_may.ct [] (fun (x : Int × List Int) (_ : Unit) => F_bridge_may.S k x)), (44, pureC F_slices_Clone_int_int.ct [] (fun (x : List Int) (_ : Unit) => F_slices_Clone_int_int.S k x)), (45, pureC F_fdb_New.ct [] (fun (x : Int × Int) (_ : Unit) => F_fdb_New.S k x.1 x.2)), (46, pureC F_lane_Texts.ct [] (fun (x : Int) (_ : Unit) => F_lane_Texts.S k x))]
theorem cal0_ok {T : Type} (k : Nat) : HdsOk Tryz.prog (cal0 (T := T) k) := ⟨F_bridge_may.hd k, F_slices_Clone_int_int.hd k, F_fdb_New.hd k, F_lane_Texts.hd k, trivial⟩
noncomputable def cal {T : Type} (k : Nat) : List (FuncId × Hd T) := cal0 k
theorem cal_ok {T : Type} (k : Nat) : HdsOk Tryz.prog (cal (T := T) k) := cal0_ok k
noncomputable abbrev la (k : Nat) (Rs : List (Fr → St → O (Int ⊕ TY4))) (ds : List Dir) (j : Nat) : Fr → St → O (Int ⊕ TY4) := loopAt tab (calOf (cal k)) Go.Proofs.Tryz.f19.ntmps nt k Rs ds (bodyOf Go.Proofs.Tryz.f19) (finK tab Go.Proofs.Tryz.f19.results.toList (fun v st => outK ct.ob (γ0 ct) ct.outs v st .ok) (fun e st => outP ct.ob (γ0 ct) ct.outs e st .ok)) j
noncomputable abbrev zl0 {α : Type} (X : Fr → St → α) (a0 : List (Int × List Int)) (a1 : Int) (a2 : Int) (a3 : Int) (v15 : Int) (v16 : List (Int × List Int)) : α := X ⟨[(0, .osl 0), (1, .int .i64 a1), (2, .int .i64 a2), (3, .int .i64 a3), (10, .ptr 1 0), (27, .osl 0), (28, .int .i64 (List.length a0 : Int)), (29, .int .i64 v15)], [], 0, []⟩ ⟨5, true, [(0, .tab false 58 [] 2 (.cons (.leaf (.int .i64)) (.one (.row false 3 [.int .i64]) [])) a0), (1, .cells 66 [.osl 3, .nilp, .nilsl, .int .i64 (0 : Int), .int .i64 (0 : Int), .int .i64 (0 : Int), .int .i64 (0 : Int), .int .i64 (0 : Int), .int .i64 (0 : Int)]), (2, .ghost), (3, .tab true 58 [] 4 (.cons (.leaf (.int .i64)) (.one (.row false 3 [.int .i64]) [])) v16), (4, .ghost)]⟩
noncomputable abbrev zl1 {α : Type} (X : Fr → St → α) (a0 : List (Int × List Int)) (a3 : Int) (v16 : List (Int × List Int)) (v29 : Int) (v30 : List TY7) : α := X ⟨[(3, .int .i64 a3), (10, .ptr 0 0), (66, .int .i64 (List.length a0 : Int)), (67, .int .i64 v29)], [], 0, []⟩ ⟨5, true, [(0, .cells 66 [.osl 1, .nilp, .osl 2, .int .i64 (0 : Int), .int .i64 (0 : Int), .int .i64 (0 : Int), .int .i64 (0 : Int), .int .i64 (0 : Int), .int .i64 (0 : Int)]), (1, .tab true 58 [] 3 (.cons (.leaf (.int .i64)) (.one (.row false 3 [.int .i64]) [])) v16), (2, .tab true 78 [] 4 (.one (.box 129 (.cons (.row true 9 [.str]) (.cons (.leaf (.int .i64)) (.one (.leaf (.int .i64)) [])))) []) v30), (3, .ghost), (4, .ghost)]⟩
noncomputable abbrev zl2 {α : Type} (X : Fr → St → α) (a0 : List (Int × List Int)) (a3 : Int) (v16 : List (Int × List Int)) (r24 : Int × Int × Int × TY0) (v39 : Int) (v40 : List TY7) : α := X ⟨[(3, .int .i64 a3), (10, .ptr 0 0), (66, .int .i64 (List.length a0 : Int)), (67, .int .i64 v39)], [], 0, []⟩ ⟨7, true, [(0, .cells 66 [.osl 1, .ptr 2 0, .osl 3, .int .i64 (0 : Int), .int .i64 (0 : Int), .int .i64 (0 : Int), .int .i64 (0 : Int), .int .i64 (0 : Int), .int .i64 (0 : Int)]), (1, .tab true 58 [] 4 (.cons (.leaf (.int .i64)) (.one (.row false 3 [.int .i64]) [])) v16), (2, .cells 124 [.int .i64 r24.2.1, .int .i64 r24.2.2.1, .mp 5]), (3, .tab true 78 [] 6 (.one (.box 129 (.cons (.row true 9 [.str]) (.cons (.leaf (.int .i64)) (.one (.leaf (.int .i64)) [])))) []) v40), (4, .ghost), (5, .map 122 true true [.int .i64, .str] [.int .i64, .str, .int .i64, .int .i64] r24.2.2.2), (6, .ghost)]⟩
noncomputable def l1_b (k : Nat) (a0 : List (Int × List Int)) (a3 : Int) (v16 : List (Int × List Int)) (R_l0 : Int → TY8 → O (Int ⊕ TY4)) (R_l1 : Int → TY5 → O (Int ⊕ TY4)) (v29 : Int) (v30 : List TY7) : O (Int ⊕ TY4) :=
  O.cond (decide (v29 < (List.length a0 : Int))) (
   O.sum (F_lane_Texts.S k a3) (fun r33 =>
    O.cond (decide (r33 ≠ (0 : Int))) (
     .ok (.inl r33)) (
     .no)) fun r34 =>
   O.cond (decide (r34.1 ≠ (0 : Int))) (
    .ok (.inl r34.1)) (
    O.chk (decide (List.length v30 + 1 ≤ 1073741824)) (
     R_l1 (IntKind.i64.wrap (v29 + (1 : Int))) (v30 ++ [r34.2])))) (
   .no)
noncomputable def l1 (k : Nat) (a0 : List (Int × List Int)) (a3 : Int) (v16 : List (Int × List Int)) (R_l0 : Int → TY8 → O (Int ⊕ TY4)) : Nat → Int → TY5 → O (Int ⊕ TY4)
 | 0, _, _ => .no
 | j + 1, v29, v30 => l1_b k a0 a3 v16 R_l0 (l1 k a0 a3 v16 R_l0 j) v29 v30
theorem l1_eq (k : Nat) (a0 : List (Int × List Int)) (a3 : Int) (v16 : List (Int × List Int)) (a1 : Int) (a2 : Int) (RR_l0 : Fr → St → O (Int ⊕ TY4)) (R_l0 : Int → TY8 → O (Int ⊕ TY4)) (hR_l0 : ∀ (v15' : Int) (v16' : List (Int × List Int)), zl0 RR_l0 a0 a1 a2 a3 v15' v16' = R_l0 v15' v16') : ∀ (j : Nat) (v29 : Int) (v30 : List TY7), zl1 (la k [] [.r, .r, .r, .r, .r, .r, .r, .l, .r, .b] j) a0 a3 v16 v29 v30 = l1 k a0 a3 v16 R_l0 j v29 v30 := by
 intro j
 induction j with
 | zero => intro v29 v30; rfl
 | succ j ih =>
  intro v29 v30
  have rs : (fun (v29' : Int) (v30' : List TY7) => zl1 (la k [] [.r, .r, .r, .r, .r, .r, .r, .l, .r, .b] j) a0 a3 v16 v29' v30') = l1 k a0 a3 v16 R_l0 j := by funext v29' v30'; exact ih v29' v30'
  have r0 : (fun (v15' : Int) (v16' : List (Int × List Int)) => zl0 RR_l0 a0 a1 a2 a3 v15' v16') = R_l0 := by funext v15' v16'; exact hR_l0 v15' v16'
  have h : zl1 (la k [] [.r, .r, .r, .r, .r, .r, .r, .l, .r, .b] (j + 1)) a0 a3 v16 v29 v30 = l1_b k a0 a3 v16 ((fun (v15' : Int) (v16' : List (Int × List Int)) => zl0 RR_l0 a0 a1 a2 a3 v15' v16')) ((fun (v29' : Int) (v30' : List TY7) => zl1 (la k [] [.r, .r, .r, .r, .r, .r, .r, .l, .r, .b] j) a0 a3 v16 v29' v30')) v29 v30 := by kernel_rfl
  exact h.trans (by rw [rs, r0]; rfl)
noncomputable def l2_b (k : Nat) (a0 : List (Int × List Int)) (a3 : Int) (v16 : List (Int × List Int)) (r24 : Int × Int × Int × TY0) (R_l0 : Int → TY8 → O (Int ⊕ TY4)) (R_l2 : Int → TY5 → O (Int ⊕ TY4)) (v39 : Int) (v40 : List TY7) : O (Int ⊕ TY4) :=
  O.cond (decide (v39 < (List.length a0 : Int))) (
   O.sum (F_lane_Texts.S k a3) (fun r43 =>
    O.cond (decide (r43 ≠ (0 : Int))) (
     .ok (.inl r43)) (
     .no)) fun r44 =>
   O.cond (decide (r44.1 ≠ (0 : Int))) (
    .ok (.inl r44.1)) (
    O.chk (decide (List.length v40 + 1 ≤ 1073741824)) (
     R_l2 (IntKind.i64.wrap (v39 + (1 : Int))) (v40 ++ [r44.2])))) (
   .ok (.inr ((0 : Int), ((v16, v40, ((0 : Int), (0 : Int), (0 : Int), (0 : Int), (0 : Int), (0 : Int))), r24.2))))
noncomputable def l2 (k : Nat) (a0 : List (Int × List Int)) (a3 : Int) (v16 : List (Int × List Int)) (r24 : Int × Int × Int × TY0) (R_l0 : Int → TY8 → O (Int ⊕ TY4)) : Nat → Int → TY5 → O (Int ⊕ TY4)
 | 0, _, _ => .no
 | j + 1, v39, v40 => l2_b k a0 a3 v16 r24 R_l0 (l2 k a0 a3 v16 r24 R_l0 j) v39 v40
theorem l2_eq (k : Nat) (a0 : List (Int × List Int)) (a3 : Int) (v16 : List (Int × List Int)) (r24 : Int × Int × Int × TY0) (a1 : Int) (a2 : Int) (RR_l0 : Fr → St → O (Int ⊕ TY4)) (R_l0 : Int → TY8 → O (Int ⊕ TY4)) (hR_l0 : ∀ (v15' : Int) (v16' : List (Int × List Int)), zl0 RR_l0 a0 a1 a2 a3 v15' v16' = R_l0 v15' v16') : ∀ (j : Nat) (v39 : Int) (v40 : List TY7), zl2 (la k [] [.r, .r, .r, .r, .r, .r, .r, .l, .r, .b] j) a0 a3 v16 r24 v39 v40 = l2 k a0 a3 v16 r24 R_l0 j v39 v40 := by
 intro j
 induction j with
 | zero => intro v39 v40; rfl
 | succ j ih =>
  intro v39 v40
  have rs : (fun (v39' : Int) (v40' : List TY7) => zl2 (la k [] [.r, .r, .r, .r, .r, .r, .r, .l, .r, .b] j) a0 a3 v16 r24 v39' v40') = l2 k a0 a3 v16 r24 R_l0 j := by funext v39' v40'; exact ih v39' v40'
  have r0 : (fun (v15' : Int) (v16' : List (Int × List Int)) => zl0 RR_l0 a0 a1 a2 a3 v15' v16') = R_l0 := by funext v15' v16'; exact hR_l0 v15' v16'
  have h : zl2 (la k [] [.r, .r, .r, .r, .r, .r, .r, .l, .r, .b] (j + 1)) a0 a3 v16 r24 v39 v40 = l2_b k a0 a3 v16 r24 ((fun (v15' : Int) (v16' : List (Int × List Int)) => zl0 RR_l0 a0 a1 a2 a3 v15' v16')) ((fun (v39' : Int) (v40' : List TY7) => zl2 (la k [] [.r, .r, .r, .r, .r, .r, .r, .l, .r, .b] j) a0 a3 v16 r24 v39' v40')) v39 v40 := by kernel_rfl
  exact h.trans (by rw [rs, r0]; rfl)
noncomputable def l0_b (k : Nat) (a0 : List (Int × List Int)) (a1 : Int) (a2 : Int) (a3 : Int) (R_l0 : Int → TY8 → O (Int ⊕ TY4)) (D_l1 : TY8 → Int → TY5 → O (Int ⊕ TY4)) (D_l2 : TY8 → (Int × Int × Int × TY0) → Int → TY5 → O (Int ⊕ TY4)) (v15 : Int) (v16 : List (Int × List Int)) : O (Int ⊕ TY4) :=
  O.cond (decide (v15 < (List.length a0 : Int))) (
   O.chk (decide (0 ≤ v15 ∧ v15 < (List.length a0 : Int))) (
    O.chk (decide (0 ≤ v15 ∧ v15 < (List.length a0 : Int))) (
     O.bind (F_bridge_may.S k (gt ((0 : Int), []) a0 v15)) fun r19 =>
     O.cond (!r19) (
      .ok (.inl (200 : Int))) (
      O.bind (F_slices_Clone_int_int.S k ((gt ((0 : Int), []) a0 v15).2)) fun r20 =>
      O.chk (decide (List.length v16 + 1 ≤ 1073741824)) (
       R_l0 (IntKind.i64.wrap (v15 + (1 : Int))) (v16 ++ [((gt ((0 : Int), []) a0 v15).1, r20)])))))) (
   O.sum (F_fdb_New.S k a1 a2) (fun r23 =>
    O.cond (decide (r23 ≠ (0 : Int))) (
     .ok (.inl r23)) (
     D_l1 v16 (0 : Int) [])) fun r24 =>
   O.cond (decide (r24.1 ≠ (0 : Int))) (
    .ok (.inl r24.1)) (
    D_l2 v16 r24 (0 : Int) []))
noncomputable def l0 (k : Nat) (a0 : List (Int × List Int)) (a1 : Int) (a2 : Int) (a3 : Int) : Nat → Int → TY8 → O (Int ⊕ TY4)
 | 0, _, _ => .no
 | j + 1, v15, v16 => l0_b k a0 a1 a2 a3 (l0 k a0 a1 a2 a3 j) ((fun (v16 : List (Int × List Int)) (v29 : Int) (v30 : List TY7) => l1 k a0 a3 v16 (l0 k a0 a1 a2 a3 j) k v29 v30)) ((fun (v16 : List (Int × List Int)) (r24 : Int × Int × Int × TY0) (v39 : Int) (v40 : List TY7) => l2 k a0 a3 v16 r24 (l0 k a0 a1 a2 a3 j) k v39 v40)) v15 v16
theorem l0_eq (k : Nat) (a0 : List (Int × List Int)) (a1 : Int) (a2 : Int) (a3 : Int) : ∀ (j : Nat) (v15 : Int) (v16 : List (Int × List Int)), zl0 (la k [] [.r, .r, .r, .l, .r, .b] j) a0 a1 a2 a3 v15 v16 = l0 k a0 a1 a2 a3 j v15 v16 := by
 intro j
 induction j with
 | zero => intro v15 v16; rfl
 | succ j ih =>
  intro v15 v16
  have rs : (fun (v15' : Int) (v16' : List (Int × List Int)) => zl0 (la k [] [.r, .r, .r, .l, .r, .b] j) a0 a1 a2 a3 v15' v16') = l0 k a0 a1 a2 a3 j := by funext v15' v16'; exact ih v15' v16'
  have e0 : (fun (v16 : List (Int × List Int)) (v29 : Int) (v30 : List TY7) => zl1 (la k [] [.r, .r, .r, .r, .r, .r, .r, .l, .r, .b] k) a0 a3 v16 v29 v30) = (fun (v16 : List (Int × List Int)) (v29 : Int) (v30 : List TY7) => l1 k a0 a3 v16 (l0 k a0 a1 a2 a3 j) k v29 v30) := by funext v16 v29 v30; exact l1_eq k a0 a3 v16 a1 a2 (la k [] [.r, .r, .r, .l, .r, .b] j) (l0 k a0 a1 a2 a3 j) (fun v15 v16 => ih v15 v16) k v29 v30
  have e1 : (fun (v16 : List (Int × List Int)) (r24 : Int × Int × Int × TY0) (v39 : Int) (v40 : List TY7) => zl2 (la k [] [.r, .r, .r, .r, .r, .r, .r, .l, .r, .b] k) a0 a3 v16 r24 v39 v40) = (fun (v16 : List (Int × List Int)) (r24 : Int × Int × Int × TY0) (v39 : Int) (v40 : List TY7) => l2 k a0 a3 v16 r24 (l0 k a0 a1 a2 a3 j) k v39 v40) := by funext v16 r24 v39 v40; exact l2_eq k a0 a3 v16 r24 a1 a2 (la k [] [.r, .r, .r, .l, .r, .b] j) (l0 k a0 a1 a2 a3 j) (fun v15 v16 => ih v15 v16) k v39 v40
  have h : zl0 (la k [] [.r, .r, .r, .l, .r, .b] (j + 1)) a0 a1 a2 a3 v15 v16 = l0_b k a0 a1 a2 a3 ((fun (v15' : Int) (v16' : List (Int × List Int)) => zl0 (la k [] [.r, .r, .r, .l, .r, .b] j) a0 a1 a2 a3 v15' v16')) ((fun (v16 : List (Int × List Int)) (v29 : Int) (v30 : List TY7) => zl1 (la k [] [.r, .r, .r, .r, .r, .r, .r, .l, .r, .b] k) a0 a3 v16 v29 v30)) ((fun (v16 : List (Int × List Int)) (r24 : Int × Int × Int × TY0) (v39 : Int) (v40 : List TY7) => zl2 (la k [] [.r, .r, .r, .r, .r, .r, .r, .l, .r, .b] k) a0 a3 v16 r24 v39 v40)) v15 v16 := by kernel_rfl
  exact h.trans (by rw [rs, e0, e1]; rfl)
noncomputable def top (k : Nat) (a0 : List (Int × List Int)) (a1 : Int) (a2 : Int) (a3 : Int) (D_l0 : Int → TY8 → O (Int ⊕ TY4)) : O (Int ⊕ TY4) :=
  O.cond (decide ((List.length a0 : Int) < (1 : Int))) (
   .ok (.inl (200 : Int))) (
   O.cond (decide ((List.length a0 : Int) > (16 : Int))) (
    .ok (.inl (200 : Int))) (
    D_l0 (0 : Int) []))
noncomputable def S (k : Nat) (a0 : List (Int × List Int)) (a1 : Int) (a2 : Int) (a3 : Int) : O (Int ⊕ TY4) := top k a0 a1 a2 a3 ((fun (v15 : Int) (v16 : List (Int × List Int)) => l0 k a0 a1 a2 a3 k v15 v16))
theorem eq (k : Nat) (a0 : List (Int × List Int)) (a1 : Int) (a2 : Int) (a3 : Int) : evFn (T := Int ⊕ TY4) tab (calOf (cal k)) Go.Proofs.Tryz.f19 nt k 0 [.osl 1, .int .i64 a1, .int .i64 a2, .int .i64 a3] [] ⟨2, false, [(1, .tab false 58 [] 0 (.cons (.leaf (.int .i64)) (.one (.row false 3 [.int .i64]) [])) a0), (0, .ghost)]⟩ (fun v st => outK ct.ob (γ0 ct) ct.outs v st .ok) (fun e st => outP ct.ob (γ0 ct) ct.outs e st .ok) = S k a0 a1 a2 a3 := by
 have e0 : (fun (v15 : Int) (v16 : List (Int × List Int)) => zl0 (la k [] [.r, .r, .r, .l, .r, .b] k) a0 a1 a2 a3 v15 v16) = (fun (v15 : Int) (v16 : List (Int × List Int)) => l0 k a0 a1 a2 a3 k v15 v16) := by funext v15 v16; exact l0_eq k a0 a1 a2 a3 k v15 v16
 have h : evFn (T := Int ⊕ TY4) tab (calOf (cal k)) Go.Proofs.Tryz.f19 nt k 0 [.osl 1, .int .i64 a1, .int .i64 a2, .int .i64 a3] [] ⟨2, false, [(1, .tab false 58 [] 0 (.cons (.leaf (.int .i64)) (.one (.row false 3 [.int .i64]) [])) a0), (0, .ghost)]⟩ (fun v st => outK ct.ob (γ0 ct) ct.outs v st .ok) (fun e st => outP ct.ob (γ0 ct) ct.outs e st .ok) = top k a0 a1 a2 a3 ((fun (v15 : Int) (v16 : List (Int × List Int)) => zl0 (la k [] [.r, .r, .r, .l, .r, .b] k) a0 a1 a2 a3 v15 v16)) := by kernel_rfl
 exact h.trans (by rw [e0]; rfl)
theorem ok (k : Nat) : FnOkC Tryz.prog 19 ct (fun (x : TY8 × Int × Int × Int) (_ : Unit) => S k x.1 x.2.1 x.2.2.1 x.2.2.2) :=
 FnOkC.of_ev (C := ct) tab_ok rfl (calOf_ok (cal_ok k)) mixed Tryz.func19 nt k (fun _ _ => rfl) (fun (x : TY8 × Int × Int × Int) (_ : Unit) => eq k x.1 x.2.1 x.2.2.1 x.2.2.2)
theorem hd {T : Type} (k : Nat) : HdOk Tryz.prog 19 (pureC (T := T) ct [] (fun (x : TY8 × Int × Int × Int) (_ : Unit) => S k x.1 x.2.1 x.2.2.1 x.2.2.2)) :=
 pureC_ok rfl [] (ok k) Tryz.call19
end F_bridge_New
namespace F_aqueductref16_Nets
noncomputable def ct : Ct := ⟨.some (.one (.row false 3 [.int .i64]) []), [], [⟨.val (.leaf .bool), [], []⟩]⟩
noncomputable def nt : Notes := ⟨[(2, ⟨[0, 3], []⟩)], [], [(4, [0, 1, 2, 3, 4, 5, 6, 7, 8, 9, 10, 11, 12, 13, 14, 15, 16, 17, 18, 19, 20, 21, 22, 23, 24, 25, 26, 27])], [], []⟩
noncomputable def cal0 {T : Type} (k : Nat) : List (FuncId × Hd T) := []
theorem cal0_ok {T : Type} (k : Nat) : HdsOk Tryz.prog (cal0 (T := T) k) := trivial
noncomputable def cal {T : Type} (k : Nat) : List (FuncId × Hd T) := cal0 k
theorem cal_ok {T : Type} (k : Nat) : HdsOk Tryz.prog (cal (T := T) k) := cal0_ok k
noncomputable abbrev la (k : Nat) (Rs : List (Fr → St → O (Bool))) (ds : List Dir) (j : Nat) : Fr → St → O (Bool) := loopAt tab (calOf (cal k)) Go.Proofs.Tryz.f47.ntmps nt k Rs ds (bodyOf Go.Proofs.Tryz.f47) (finK tab Go.Proofs.Tryz.f47.results.toList (fun v st => outK ct.ob (γ0 ct) ct.outs v st .ok) (fun e st => outP ct.ob (γ0 ct) ct.outs e st .ok)) j
noncomputable abbrev zl0 {α : Type} (X : Fr → St → α) (a0 : List Int) (v1 : Int) : α := X ⟨[(0, .osl 0), (3, .int .i64 v1)], [], 0, []⟩ ⟨1, true, [(0, .row false 3 [.int .i64] a0)]⟩
noncomputable def l0_b (k : Nat) (a0 : List Int) (R_l0 : Int → O Bool) (v1 : Int) : O Bool :=
  O.cond (decide (v1 < (List.length a0 : Int))) (
   O.chk (decide (0 ≤ v1 ∧ v1 < (List.length a0 : Int) ∧ (List.length a0 : Int) ≤ (List.length a0 : Int))) (
    O.chk (decide (0 ≤ v1 ∧ v1 < (List.length a0 : Int))) (
     O.cond (decide ((gt (0 : Int) a0 v1) < (0 : Int))) (
      .ok false) (
      O.chk (decide (0 ≤ v1 ∧ v1 < (List.length a0 : Int) ∧ (List.length a0 : Int) ≤ (List.length a0 : Int))) (
       O.chk (decide (0 ≤ v1 ∧ v1 < (List.length a0 : Int))) (
        O.cond (decide ((gt (0 : Int) a0 v1) > (4094 : Int))) (
         .ok false) (
         O.cond (decide (v1 > (0 : Int))) (
          O.chk (decide (0 ≤ v1 ∧ v1 < (List.length a0 : Int) ∧ (List.length a0 : Int) ≤ (List.length a0 : Int))) (
           O.chk (decide (0 ≤ v1 ∧ v1 < (List.length a0 : Int))) (
            O.chk (decide (0 ≤ (IntKind.i64.wrap (v1 - (1 : Int))) ∧ (IntKind.i64.wrap (v1 - (1 : Int))) < (List.length a0 : Int) ∧ (List.length a0 : Int) ≤ (List.length a0 : Int))) (
             O.chk (decide (0 ≤ (IntKind.i64.wrap (v1 - (1 : Int))) ∧ (IntKind.i64.wrap (v1 - (1 : Int))) < (List.length a0 : Int))) (
              O.cond (decide ((gt (0 : Int) a0 v1) ≤ (gt (0 : Int) a0 (IntKind.i64.wrap (v1 - (1 : Int)))))) (
               .ok false) (
               R_l0 (IntKind.i64.wrap (v1 + (1 : Int))))))))) (
          R_l0 (IntKind.i64.wrap (v1 + (1 : Int))))))))))) (
   .ok true)
noncomputable def l0 (k : Nat) (a0 : List Int) : Nat → Int → O Bool
 | 0, _ => .no
 | j + 1, v1 => l0_b k a0 (l0 k a0 j) v1
theorem l0_eq (k : Nat) (a0 : List Int) : ∀ (j : Nat) (v1 : Int), zl0 (la k [] [.r, .l, .r, .b] j) a0 v1 = l0 k a0 j v1 := by
 intro j
 induction j with
 | zero => intro v1; rfl
 | succ j ih =>
  intro v1
  have rs : (fun (v1' : Int) => zl0 (la k [] [.r, .l, .r, .b] j) a0 v1') = l0 k a0 j := by funext v1'; exact ih v1'
  have h : zl0 (la k [] [.r, .l, .r, .b] (j + 1)) a0 v1 = l0_b k a0 ((fun (v1' : Int) => zl0 (la k [] [.r, .l, .r, .b] j) a0 v1')) v1 := by kernel_rfl
  exact h.trans (by rw [rs]; rfl)
noncomputable def top (k : Nat) (a0 : List Int) (D_l0 : Int → O Bool) : O Bool :=
 D_l0 (0 : Int)
noncomputable def S (k : Nat) (a0 : List Int) : O Bool := top k a0 ((fun (v1 : Int) => l0 k a0 k v1))
theorem eq (k : Nat) (a0 : List Int) : evFn (T := Bool) tab (calOf (cal k)) Go.Proofs.Tryz.f47 nt k 0 [.osl 0] [] ⟨1, false, [(0, .row false 3 [.int .i64] a0)]⟩ (fun v st => outK ct.ob (γ0 ct) ct.outs v st .ok) (fun e st => outP ct.ob (γ0 ct) ct.outs e st .ok) = S k a0 := by
 have e0 : (fun (v1 : Int) => zl0 (la k [] [.r, .l, .r, .b] k) a0 v1) = (fun (v1 : Int) => l0 k a0 k v1) := by funext v1; exact l0_eq k a0 k v1
 have h : evFn (T := Bool) tab (calOf (cal k)) Go.Proofs.Tryz.f47 nt k 0 [.osl 0] [] ⟨1, false, [(0, .row false 3 [.int .i64] a0)]⟩ (fun v st => outK ct.ob (γ0 ct) ct.outs v st .ok) (fun e st => outP ct.ob (γ0 ct) ct.outs e st .ok) = top k a0 ((fun (v1 : Int) => zl0 (la k [] [.r, .l, .r, .b] k) a0 v1)) := by kernel_rfl
 exact h.trans (by rw [e0]; rfl)
theorem ok (k : Nat) : FnOkC Tryz.prog 47 ct (fun (x : List Int) (_ : Unit) => S k x) :=
 FnOkC.of_ev (C := ct) tab_ok rfl (calOf_ok (cal_ok k)) mixed Tryz.func47 nt k (fun _ _ => rfl) (fun (x : List Int) (_ : Unit) => eq k x)
theorem hd {T : Type} (k : Nat) : HdOk Tryz.prog 47 (pureC (T := T) ct [] (fun (x : List Int) (_ : Unit) => S k x)) :=
 pureC_ok rfl [] (ok k) Tryz.call47
end F_aqueductref16_Nets
namespace F_aqueductref18_New
noncomputable def ct : Ct := ⟨.some (.cons (.leaf (.int .i64)) (.one (.leaf (.int .i64)) [])), [], [⟨.tup (.pin (.nil) (.one (.leaf (.int .i64)) [])), [], []⟩, ⟨.tup (.pin (.ref 0) (.one (.leaf (.int .i64)) [])), [(53, .cons (.leaf (.int .i64)) (.cons (.leaf (.int .i64)) (.one (.row true 89 [.int .i64, .str, .int .i64, .int .i64]) [])))], [.arg 0 0]⟩]⟩
noncomputable def nt : Notes := ⟨[], [], [], [], []⟩
noncomputable def cal0 {T : Type} (k : Nat) : List (FuncId × Hd T) := []
theorem cal0_ok {T : Type} (k : Nat) : HdsOk Tryz.prog (cal0 (T := T) k) := trivial
noncomputable def cal {T : Type} (k : Nat) : List (FuncId × Hd T) := cal0 k
theorem cal_ok {T : Type} (k : Nat) : HdsOk Tryz.prog (cal (T := T) k) := cal0_ok k
noncomputable def S (k : Nat) (a0 : Int) (a1 : Int) : O (Int ⊕ (Int × Int × Int × (List (Int × ByteArray × Int × Int)))) :=
  O.cond (decide (a0 < (1 : Int))) (
   .ok (.inl (180 : Int))) (
   O.cond (decide (a0 > (1024 : Int))) (
    .ok (.inl (180 : Int))) (
    O.cond (decide (a1 < (1 : Int))) (
     .ok (.inl (180 : Int))) (
     O.cond (decide (a1 > (65535 : Int))) (
      .ok (.inl (180 : Int))) (
      .ok (.inr ((0 : Int), (a0, a1, [])))))))
theorem eq (k : Nat) (a0 : Int) (a1 : Int) : evFn (T := Int ⊕ (Int × Int × Int × (List (Int × ByteArray × Int × Int)))) tab (calOf (cal k)) Go.Proofs.Tryz.f48 nt k 0 [.int .i64 a0, .int .i64 a1] [] ⟨0, false, []⟩ (fun v st => outK ct.ob (γ0 ct) ct.outs v st .ok) (fun e st => outP ct.ob (γ0 ct) ct.outs e st .ok) = S k a0 a1 := by kernel_rfl
theorem ok (k : Nat) : FnOkC Tryz.prog 48 ct (fun (x : Int × Int) (_ : Unit) => S k x.1 x.2) :=
 FnOkC.of_ev (C := ct) tab_ok rfl (calOf_ok (cal_ok k)) mixed Tryz.func48 nt k (fun _ _ => rfl) (fun (x : Int × Int) (_ : Unit) => eq k x.1 x.2)
theorem hd {T : Type} (k : Nat) : HdOk Tryz.prog 48 (pureC (T := T) ct [] (fun (x : Int × Int) (_ : Unit) => S k x.1 x.2)) :=
 pureC_ok rfl [] (ok k) Tryz.call48
end F_aqueductref18_New
namespace F_aqueductref19_New
noncomputable def ct : Ct := ⟨.some (.one (.leaf (.int .i64)) []), [], [⟨.tup (.pin (.nil) (.one (.leaf (.int .i64)) [])), [], []⟩, ⟨.tup (.pin (.ref 0) (.one (.leaf (.int .i64)) [])), [(95, .cons (.row true 9 [.str]) (.cons (.leaf (.int .i64)) (.one (.leaf (.int .i64)) [])))], [.arg 0 0]⟩]⟩
noncomputable def nt : Notes := ⟨[], [], [], [], []⟩
noncomputable def cal0 {T : Type} (k : Nat) : List (FuncId × Hd T) := []
theorem cal0_ok {T : Type} (k : Nat) : HdsOk Tryz.prog (cal0 (T := T) k) := trivial
noncomputable def cal {T : Type} (k : Nat) : List (FuncId × Hd T) := cal0 k
theorem cal_ok {T : Type} (k : Nat) : HdsOk Tryz.prog (cal (T := T) k) := cal0_ok k
noncomputable def S (k : Nat) (a0 : Int) : O (Int ⊕ (Int × List ByteArray × Int × Int)) :=
  O.cond (decide (a0 < (1 : Int))) (
   .ok (.inl (190 : Int))) (
   O.cond (decide (a0 > (1024 : Int))) (
    .ok (.inl (190 : Int))) (
    .ok (.inr ((0 : Int), ([], a0, (0 : Int))))))
theorem eq (k : Nat) (a0 : Int) : evFn (T := Int ⊕ (Int × List ByteArray × Int × Int)) tab (calOf (cal k)) Go.Proofs.Tryz.f49 nt k 0 [.int .i64 a0] [] ⟨0, false, []⟩ (fun v st => outK ct.ob (γ0 ct) ct.outs v st .ok) (fun e st => outP ct.ob (γ0 ct) ct.outs e st .ok) = S k a0 := by kernel_rfl
theorem ok (k : Nat) : FnOkC Tryz.prog 49 ct (fun (x : Int) (_ : Unit) => S k x) :=
 FnOkC.of_ev (C := ct) tab_ok rfl (calOf_ok (cal_ok k)) mixed Tryz.func49 nt k (fun _ _ => rfl) (fun (x : Int) (_ : Unit) => eq k x)
theorem hd {T : Type} (k : Nat) : HdOk Tryz.prog 49 (pureC (T := T) ct [] (fun (x : Int) (_ : Unit) => S k x)) :=
 pureC_ok rfl [] (ok k) Tryz.call49
end F_aqueductref19_New
namespace F_aqueductref20_New
noncomputable def ct : Ct := ⟨.some (.cons (.tab false 58 (.cons (.leaf (.int .i64)) (.one (.row false 3 [.int .i64]) []))) (.cons (.leaf (.int .i64)) (.cons (.leaf (.int .i64)) (.one (.leaf (.int .i64)) [])))), [], [⟨.tup (.pin (.nil) (.one (.leaf (.int .i64)) [])), [], []⟩, ⟨.tup (.pin (.ref 0) (.one (.leaf (.int .i64)) [])), [(45, .cons (.tab false 58 (.cons (.leaf (.int .i64)) (.one (.row false 3 [.int .i64]) []))) (.pin (.ref 1) (.cons (.tab true 86 (.one (.box 95 (.cons (.row true 9 [.str]) (.cons (.leaf (.int .i64)) (.one (.leaf (.int .i64)) [])))) [])) (.one (.agg (.cons (.leaf (.int .i64)) (.cons (.leaf (.int .i64)) (.cons (.leaf (.int .i64)) (.cons (.leaf (.int .i64)) (.cons (.leaf (.int .i64)) (.one (.leaf (.int .i64)) []))))))) [])))), (53, .cons (.leaf (.int .i64)) (.cons (.leaf (.int .i64)) (.one (.row true 89 [.int .i64, .str, .int .i64, .int .i64]) [])))], [.arg 0 0, .fld 0 1]⟩]⟩
noncomputable def nt : Notes := ⟨[(3, ⟨[0, 1, 2, 3, 10, 11], []⟩), (13, ⟨[0, 3, 14, 15], [(.slot 14 [2], 86, .tb (.one (.box 95 (.cons (.row true 9 [.str]) (.cons (.leaf (.int .i64)) (.one (.leaf (.int .i64)) [])))) []))]⟩), (13, ⟨[0, 3, 14, 15], [(.slot 14 [2], 86, .tb (.one (.box 95 (.cons (.row true 9 [.str]) (.cons (.leaf (.int .i64)) (.one (.leaf (.int .i64)) [])))) []))]⟩)], [(2, ⟨[0, 1, 2, 3, 10], []⟩)], [], [], []⟩
noncomputable def cal0 {T : Type} (k : Nat) : List (FuncId × Hd T) := [(47, pureC F_aqueductref16_Nets.ct [] (fun (x : List Int) (_ : Unit) => F_aqueductref16_Nets.S k x)), (48, pureC F_aqueductref18_New.ct [] (fun (x : Int × Int) (_ : Unit) => F_aqueductref18_New.S k x.1 x.2)), (49, pureC F_aqueductref19_New.ct [] (fun (x : Int) (_ : Unit) => F_aqueductref19_New.S k x))]
theorem cal0_ok {T : Type} (k : Nat) : HdsOk Tryz.prog (cal0 (T := T) k) := ⟨F_aqueductref16_Nets.hd k, F_aqueductref18_New.hd k, F_aqueductref19_New.hd k, trivial⟩
noncomputable def cal {T : Type} (k : Nat) : List (FuncId × Hd T) := cal0 k
theorem cal_ok {T : Type} (k : Nat) : HdsOk Tryz.prog (cal (T := T) k) := cal0_ok k
noncomputable abbrev la (k : Nat) (Rs : List (Fr → St → O (Int ⊕ TY10))) (ds : List Dir) (j : Nat) : Fr → St → O (Int ⊕ TY10) := loopAt tab (calOf (cal k)) Go.Proofs.Tryz.f20.ntmps nt k Rs ds (bodyOf Go.Proofs.Tryz.f20) (finK tab Go.Proofs.Tryz.f20.results.toList (fun v st => outK ct.ob (γ0 ct) ct.outs v st .ok) (fun e st => outP ct.ob (γ0 ct) ct.outs e st .ok)) j
noncomputable abbrev ca (k : Nat) (Rs : List (Fr → St → O (Int ⊕ TY10))) (ds : List Dir) : Fr → St → O (Int ⊕ TY10) := codeAt tab (calOf (cal k)) Go.Proofs.Tryz.f20.ntmps nt k Rs ds (bodyOf Go.Proofs.Tryz.f20) (finK tab Go.Proofs.Tryz.f20.results.toList (fun v st => outK ct.ob (γ0 ct) ct.outs v st .ok) (fun e st => outP ct.ob (γ0 ct) ct.outs e st .ok))
noncomputable abbrev zj1 {α : Type} (X : Fr → St → α) (a0 : List (Int × List Int)) (a1 : Int) (a2 : Int) (a3 : Int) (v1 : Bool) : α := X ⟨[(0, .osl 0), (1, .int .i64 a1), (2, .int .i64 a2), (3, .int .i64 a3), (10, .bool v1)], [], 0, []⟩ ⟨2, true, [(0, .tab false 58 [] 1 (.cons (.leaf (.int .i64)) (.one (.row false 3 [.int .i64]) [])) a0), (1, .ghost)]⟩
noncomputable abbrev zl1 {α : Type} (X : Fr → St → α) (a0 : List (Int × List Int)) (a1 : Int) (a2 : Int) (a3 : Int) (v8 : Bool) (v9 : Int) : α := X ⟨[(0, .osl 0), (1, .int .i64 a1), (2, .int .i64 a2), (3, .int .i64 a3), (10, .bool v8), (11, .int .i64 v9)], [], 0, []⟩ ⟨2, true, [(0, .tab false 58 [] 1 (.cons (.leaf (.int .i64)) (.one (.row false 3 [.int .i64]) [])) a0), (1, .ghost)]⟩
noncomputable abbrev zl2 {α : Type} (X : Fr → St → α) (a0 : List (Int × List Int)) (a3 : Int) (v20 : Int) (v21 : List TY7) : α := X ⟨[(0, .osl 0), (3, .int .i64 a3), (14, .ptr 1 0), (15, .int .i64 v20)], [], 0, []⟩ ⟨5, true, [(0, .tab false 58 [] 2 (.cons (.leaf (.int .i64)) (.one (.row false 3 [.int .i64]) [])) a0), (1, .cells 45 [.osl 0, .nilp, .osl 3, .int .i64 (0 : Int), .int .i64 (0 : Int), .int .i64 (0 : Int), .int .i64 (0 : Int), .int .i64 (0 : Int), .int .i64 (0 : Int)]), (2, .ghost), (3, .tab true 86 [] 4 (.one (.box 95 (.cons (.row true 9 [.str]) (.cons (.leaf (.int .i64)) (.one (.leaf (.int .i64)) [])))) []) v21), (4, .ghost)]⟩
noncomputable abbrev zl3 {α : Type} (X : Fr → St → α) (a0 : List (Int × List Int)) (a3 : Int) (r15 : Int × Int × Int × TY12) (v30 : Int) (v31 : List TY7) : α := X ⟨[(0, .osl 0), (3, .int .i64 a3), (14, .ptr 1 0), (15, .int .i64 v30)], [], 0, []⟩ ⟨7, true, [(0, .tab false 58 [] 2 (.cons (.leaf (.int .i64)) (.one (.row false 3 [.int .i64]) [])) a0), (1, .cells 45 [.osl 0, .ptr 3 0, .osl 4, .int .i64 (0 : Int), .int .i64 (0 : Int), .int .i64 (0 : Int), .int .i64 (0 : Int), .int .i64 (0 : Int), .int .i64 (0 : Int)]), (2, .ghost), (3, .cells 53 [.int .i64 r15.2.1, .int .i64 r15.2.2.1, .osl 5]), (4, .tab true 86 [] 6 (.one (.box 95 (.cons (.row true 9 [.str]) (.cons (.leaf (.int .i64)) (.one (.leaf (.int .i64)) [])))) []) v31), (5, .row true 89 [.int .i64, .str, .int .i64, .int .i64] r15.2.2.2), (6, .ghost)]⟩
noncomputable def l2_b (k : Nat) (a0 : List (Int × List Int)) (a3 : Int) (R_l1 : Bool → Int → O (Int ⊕ TY10)) (R_l2 : Int → TY5 → O (Int ⊕ TY10)) (v20 : Int) (v21 : List TY7) : O (Int ⊕ TY10) :=
  O.cond (decide (v20 < (List.length a0 : Int))) (
   O.sum (F_aqueductref19_New.S k a3) (fun r24 =>
    O.cond (decide (r24 ≠ (0 : Int))) (
     .ok (.inl r24)) (
     .no)) fun r25 =>
   O.cond (decide (r25.1 ≠ (0 : Int))) (
    .ok (.inl r25.1)) (
    O.chk (decide (List.length v21 + 1 ≤ 1073741824)) (
     R_l2 (IntKind.i64.wrap (v20 + (1 : Int))) (v21 ++ [r25.2])))) (
   .no)
noncomputable def l2 (k : Nat) (a0 : List (Int × List Int)) (a3 : Int) (R_l1 : Bool → Int → O (Int ⊕ TY10)) : Nat → Int → TY5 → O (Int ⊕ TY10)
 | 0, _, _ => .no
 | j + 1, v20, v21 => l2_b k a0 a3 R_l1 (l2 k a0 a3 R_l1 j) v20 v21
theorem l2_eq (k : Nat) (a0 : List (Int × List Int)) (a3 : Int) (a1 : Int) (a2 : Int) (RR_l1 : Fr → St → O (Int ⊕ TY10)) (R_l1 : Bool → Int → O (Int ⊕ TY10)) (hR_l1 : ∀ (v8' : Bool) (v9' : Int), zl1 RR_l1 a0 a1 a2 a3 v8' v9' = R_l1 v8' v9') : ∀ (j : Nat) (v20 : Int) (v21 : List TY7), zl2 (la k [] [.r, .r, .r, .r, .r, .r, .r, .l, .r, .b] j) a0 a3 v20 v21 = l2 k a0 a3 R_l1 j v20 v21 := by
 intro j
 induction j with
 | zero => intro v20 v21; rfl
 | succ j ih =>
  intro v20 v21
  have rs : (fun (v20' : Int) (v21' : List TY7) => zl2 (la k [] [.r, .r, .r, .r, .r, .r, .r, .l, .r, .b] j) a0 a3 v20' v21') = l2 k a0 a3 R_l1 j := by funext v20' v21'; exact ih v20' v21'
  have r0 : (fun (v8' : Bool) (v9' : Int) => zl1 RR_l1 a0 a1 a2 a3 v8' v9') = R_l1 := by funext v8' v9'; exact hR_l1 v8' v9'
  have h : zl2 (la k [] [.r, .r, .r, .r, .r, .r, .r, .l, .r, .b] (j + 1)) a0 a3 v20 v21 = l2_b k a0 a3 ((fun (v8' : Bool) (v9' : Int) => zl1 RR_l1 a0 a1 a2 a3 v8' v9')) ((fun (v20' : Int) (v21' : List TY7) => zl2 (la k [] [.r, .r, .r, .r, .r, .r, .r, .l, .r, .b] j) a0 a3 v20' v21')) v20 v21 := by kernel_rfl
  exact h.trans (by rw [rs, r0]; rfl)
noncomputable def l3_b (k : Nat) (a0 : List (Int × List Int)) (a3 : Int) (r15 : Int × Int × Int × TY12) (R_l1 : Bool → Int → O (Int ⊕ TY10)) (R_l3 : Int → TY5 → O (Int ⊕ TY10)) (v30 : Int) (v31 : List TY7) : O (Int ⊕ TY10) :=
  O.cond (decide (v30 < (List.length a0 : Int))) (
   O.sum (F_aqueductref19_New.S k a3) (fun r34 =>
    O.cond (decide (r34 ≠ (0 : Int))) (
     .ok (.inl r34)) (
     .no)) fun r35 =>
   O.cond (decide (r35.1 ≠ (0 : Int))) (
    .ok (.inl r35.1)) (
    O.chk (decide (List.length v31 + 1 ≤ 1073741824)) (
     R_l3 (IntKind.i64.wrap (v30 + (1 : Int))) (v31 ++ [r35.2])))) (
   .ok (.inr ((0 : Int), ((a0, v31, ((0 : Int), (0 : Int), (0 : Int), (0 : Int), (0 : Int), (0 : Int))), r15.2))))
noncomputable def l3 (k : Nat) (a0 : List (Int × List Int)) (a3 : Int) (r15 : Int × Int × Int × TY12) (R_l1 : Bool → Int → O (Int ⊕ TY10)) : Nat → Int → TY5 → O (Int ⊕ TY10)
 | 0, _, _ => .no
 | j + 1, v30, v31 => l3_b k a0 a3 r15 R_l1 (l3 k a0 a3 r15 R_l1 j) v30 v31
theorem l3_eq (k : Nat) (a0 : List (Int × List Int)) (a3 : Int) (r15 : Int × Int × Int × TY12) (a1 : Int) (a2 : Int) (RR_l1 : Fr → St → O (Int ⊕ TY10)) (R_l1 : Bool → Int → O (Int ⊕ TY10)) (hR_l1 : ∀ (v8' : Bool) (v9' : Int), zl1 RR_l1 a0 a1 a2 a3 v8' v9' = R_l1 v8' v9') : ∀ (j : Nat) (v30 : Int) (v31 : List TY7), zl3 (la k [] [.r, .r, .r, .r, .r, .r, .r, .l, .r, .b] j) a0 a3 r15 v30 v31 = l3 k a0 a3 r15 R_l1 j v30 v31 := by
 intro j
 induction j with
 | zero => intro v30 v31; rfl
 | succ j ih =>
  intro v30 v31
  have rs : (fun (v30' : Int) (v31' : List TY7) => zl3 (la k [] [.r, .r, .r, .r, .r, .r, .r, .l, .r, .b] j) a0 a3 r15 v30' v31') = l3 k a0 a3 r15 R_l1 j := by funext v30' v31'; exact ih v30' v31'
  have r0 : (fun (v8' : Bool) (v9' : Int) => zl1 RR_l1 a0 a1 a2 a3 v8' v9') = R_l1 := by funext v8' v9'; exact hR_l1 v8' v9'
  have h : zl3 (la k [] [.r, .r, .r, .r, .r, .r, .r, .l, .r, .b] (j + 1)) a0 a3 r15 v30 v31 = l3_b k a0 a3 r15 ((fun (v8' : Bool) (v9' : Int) => zl1 RR_l1 a0 a1 a2 a3 v8' v9')) ((fun (v30' : Int) (v31' : List TY7) => zl3 (la k [] [.r, .r, .r, .r, .r, .r, .r, .l, .r, .b] j) a0 a3 r15 v30' v31')) v30 v31 := by kernel_rfl
  exact h.trans (by rw [rs, r0]; rfl)
noncomputable def l1_b (k : Nat) (a0 : List (Int × List Int)) (a1 : Int) (a2 : Int) (a3 : Int) (R_l1 : Bool → Int → O (Int ⊕ TY10)) (D_l2 : Int → TY5 → O (Int ⊕ TY10)) (D_l3 : (Int × Int × Int × TY12) → Int → TY5 → O (Int ⊕ TY10)) (v8 : Bool) (v9 : Int) : O (Int ⊕ TY10) :=
  O.cond (decide (v9 < (List.length a0 : Int))) (
   O.cond v8 (
    O.chk (decide (0 ≤ v9 ∧ v9 < (List.length a0 : Int))) (
     O.chk (decide (0 ≤ v9 ∧ v9 < (List.length a0 : Int))) (
      O.cond (decide ((gt ((0 : Int), []) a0 v9).1 ≥ (0 : Int))) (
       O.chk (decide (0 ≤ v9 ∧ v9 < (List.length a0 : Int))) (
        O.chk (decide (0 ≤ v9 ∧ v9 < (List.length a0 : Int))) (
         O.cond (decide ((gt ((0 : Int), []) a0 v9).1 ≤ (4094 : Int))) (
          O.chk (decide (0 ≤ v9 ∧ v9 < (List.length a0 : Int))) (
           O.chk (decide (0 ≤ v9 ∧ v9 < (List.length a0 : Int))) (
            O.bind (F_aqueductref16_Nets.S k ((gt ((0 : Int), []) a0 v9).2)) fun r11 =>
            R_l1 r11 (IntKind.i64.wrap (v9 + (1 : Int)))))) (
          R_l1 false (IntKind.i64.wrap (v9 + (1 : Int))))))) (
       R_l1 false (IntKind.i64.wrap (v9 + (1 : Int))))))) (
    R_l1 false (IntKind.i64.wrap (v9 + (1 : Int))))) (
   O.cond (!v8) (
    .ok (.inl (200 : Int))) (
    O.sum (F_aqueductref18_New.S k a1 a2) (fun r14 =>
     O.cond (decide (r14 ≠ (0 : Int))) (
      .ok (.inl r14)) (
      D_l2 (0 : Int) [])) fun r15 =>
    O.cond (decide (r15.1 ≠ (0 : Int))) (
     .ok (.inl r15.1)) (
     D_l3 r15 (0 : Int) [])))
noncomputable def l1 (k : Nat) (a0 : List (Int × List Int)) (a1 : Int) (a2 : Int) (a3 : Int) : Nat → Bool → Int → O (Int ⊕ TY10)
 | 0, _, _ => .no
 | j + 1, v8, v9 => l1_b k a0 a1 a2 a3 (l1 k a0 a1 a2 a3 j) ((fun (v20 : Int) (v21 : List TY7) => l2 k a0 a3 (l1 k a0 a1 a2 a3 j) k v20 v21)) ((fun (r15 : Int × Int × Int × TY12) (v30 : Int) (v31 : List TY7) => l3 k a0 a3 r15 (l1 k a0 a1 a2 a3 j) k v30 v31)) v8 v9
theorem l1_eq (k : Nat) (a0 : List (Int × List Int)) (a1 : Int) (a2 : Int) (a3 : Int) : ∀ (j : Nat) (v8 : Bool) (v9 : Int), zl1 (la k [] [.r, .r, .l, .r, .b] j) a0 a1 a2 a3 v8 v9 = l1 k a0 a1 a2 a3 j v8 v9 := by
 intro j
 induction j with
 | zero => intro v8 v9; rfl
 | succ j ih =>
  intro v8 v9
  have rs : (fun (v8' : Bool) (v9' : Int) => zl1 (la k [] [.r, .r, .l, .r, .b] j) a0 a1 a2 a3 v8' v9') = l1 k a0 a1 a2 a3 j := by funext v8' v9'; exact ih v8' v9'
  have e0 : (fun (v20 : Int) (v21 : List TY7) => zl2 (la k [] [.r, .r, .r, .r, .r, .r, .r, .l, .r, .b] k) a0 a3 v20 v21) = (fun (v20 : Int) (v21 : List TY7) => l2 k a0 a3 (l1 k a0 a1 a2 a3 j) k v20 v21) := by funext v20 v21; exact l2_eq k a0 a3 a1 a2 (la k [] [.r, .r, .l, .r, .b] j) (l1 k a0 a1 a2 a3 j) (fun v8 v9 => ih v8 v9) k v20 v21
  have e1 : (fun (r15 : Int × Int × Int × TY12) (v30 : Int) (v31 : List TY7) => zl3 (la k [] [.r, .r, .r, .r, .r, .r, .r, .l, .r, .b] k) a0 a3 r15 v30 v31) = (fun (r15 : Int × Int × Int × TY12) (v30 : Int) (v31 : List TY7) => l3 k a0 a3 r15 (l1 k a0 a1 a2 a3 j) k v30 v31) := by funext r15 v30 v31; exact l3_eq k a0 a3 r15 a1 a2 (la k [] [.r, .r, .l, .r, .b] j) (l1 k a0 a1 a2 a3 j) (fun v8 v9 => ih v8 v9) k v30 v31
  have h : zl1 (la k [] [.r, .r, .l, .r, .b] (j + 1)) a0 a1 a2 a3 v8 v9 = l1_b k a0 a1 a2 a3 ((fun (v8' : Bool) (v9' : Int) => zl1 (la k [] [.r, .r, .l, .r, .b] j) a0 a1 a2 a3 v8' v9')) ((fun (v20 : Int) (v21 : List TY7) => zl2 (la k [] [.r, .r, .r, .r, .r, .r, .r, .l, .r, .b] k) a0 a3 v20 v21)) ((fun (r15 : Int × Int × Int × TY12) (v30 : Int) (v31 : List TY7) => zl3 (la k [] [.r, .r, .r, .r, .r, .r, .r, .l, .r, .b] k) a0 a3 r15 v30 v31)) v8 v9 := by kernel_rfl
  exact h.trans (by rw [rs, e0, e1]; rfl)
noncomputable def j1_b (k : Nat) (a0 : List (Int × List Int)) (a1 : Int) (a2 : Int) (a3 : Int) (D_l1 : Bool → Int → O (Int ⊕ TY10)) (v1 : Bool) : O (Int ⊕ TY10) :=
 D_l1 v1 (0 : Int)
noncomputable def j1 (k : Nat) (a0 : List (Int × List Int)) (a1 : Int) (a2 : Int) (a3 : Int) (v1 : Bool) : O (Int ⊕ TY10) := j1_b k a0 a1 a2 a3 ((fun (v8 : Bool) (v9 : Int) => l1 k a0 a1 a2 a3 k v8 v9)) v1
theorem j1_eq (k : Nat) (a0 : List (Int × List Int)) (a1 : Int) (a2 : Int) (a3 : Int) (v1 : Bool) : zj1 (ca k [] [.r, .r]) a0 a1 a2 a3 v1 = j1 k a0 a1 a2 a3 v1 := by
  have e0 : (fun (v8 : Bool) (v9 : Int) => zl1 (la k [] [.r, .r, .l, .r, .b] k) a0 a1 a2 a3 v8 v9) = (fun (v8 : Bool) (v9 : Int) => l1 k a0 a1 a2 a3 k v8 v9) := by funext v8 v9; exact l1_eq k a0 a1 a2 a3 k v8 v9
  have h : zj1 (ca k [] [.r, .r]) a0 a1 a2 a3 v1 = j1_b k a0 a1 a2 a3 ((fun (v8 : Bool) (v9 : Int) => zl1 (la k [] [.r, .r, .l, .r, .b] k) a0 a1 a2 a3 v8 v9)) v1 := (codeAt_eq _ _ _ _ _ _ _ _ _ _ _).trans (by show _ = _; kernel_rfl)
  exact h.trans (by rw [e0]; rfl)
noncomputable def top (k : Nat) (a0 : List (Int × List Int)) (a1 : Int) (a2 : Int) (a3 : Int) (D_j1 : Bool → O (Int ⊕ TY10)) : O (Int ⊕ TY10) :=
  O.cond (decide ((List.length a0 : Int) ≥ (1 : Int))) (
   D_j1 (decide ((List.length a0 : Int) ≤ (16 : Int)))) (
   D_j1 false)
noncomputable def S (k : Nat) (a0 : List (Int × List Int)) (a1 : Int) (a2 : Int) (a3 : Int) : O (Int ⊕ TY10) := top k a0 a1 a2 a3 ((fun (v1 : Bool) => j1 k a0 a1 a2 a3 v1))
theorem eq (k : Nat) (a0 : List (Int × List Int)) (a1 : Int) (a2 : Int) (a3 : Int) : evFn (T := Int ⊕ TY10) tab (calOf (cal k)) Go.Proofs.Tryz.f20 nt k 0 [.osl 1, .int .i64 a1, .int .i64 a2, .int .i64 a3] [] ⟨2, false, [(1, .tab false 58 [] 0 (.cons (.leaf (.int .i64)) (.one (.row false 3 [.int .i64]) [])) a0), (0, .ghost)]⟩ (fun v st => outK ct.ob (γ0 ct) ct.outs v st .ok) (fun e st => outP ct.ob (γ0 ct) ct.outs e st .ok) = S k a0 a1 a2 a3 := by
 have e0 : (fun (v1 : Bool) => zj1 (ca k [] [.r, .r]) a0 a1 a2 a3 v1) = (fun (v1 : Bool) => j1 k a0 a1 a2 a3 v1) := by funext v1; exact j1_eq k a0 a1 a2 a3 v1
 have h : evFn (T := Int ⊕ TY10) tab (calOf (cal k)) Go.Proofs.Tryz.f20 nt k 0 [.osl 1, .int .i64 a1, .int .i64 a2, .int .i64 a3] [] ⟨2, false, [(1, .tab false 58 [] 0 (.cons (.leaf (.int .i64)) (.one (.row false 3 [.int .i64]) [])) a0), (0, .ghost)]⟩ (fun v st => outK ct.ob (γ0 ct) ct.outs v st .ok) (fun e st => outP ct.ob (γ0 ct) ct.outs e st .ok) = top k a0 a1 a2 a3 ((fun (v1 : Bool) => zj1 (ca k [] [.r, .r]) a0 a1 a2 a3 v1)) := by kernel_rfl
 exact h.trans (by rw [e0]; rfl)
theorem ok (k : Nat) : FnOkC Tryz.prog 20 ct (fun (x : TY8 × Int × Int × Int) (_ : Unit) => S k x.1 x.2.1 x.2.2.1 x.2.2.2) :=
 FnOkC.of_ev (C := ct) tab_ok rfl (calOf_ok (cal_ok k)) mixed Tryz.func20 nt k (fun _ _ => rfl) (fun (x : TY8 × Int × Int × Int) (_ : Unit) => eq k x.1 x.2.1 x.2.2.1 x.2.2.2)
theorem hd {T : Type} (k : Nat) : HdOk Tryz.prog 20 (pureC (T := T) ct [] (fun (x : TY8 × Int × Int × Int) (_ : Unit) => S k x.1 x.2.1 x.2.2.1 x.2.2.2)) :=
 pureC_ok rfl [] (ok k) Tryz.call20
end F_aqueductref20_New
namespace F_aqueductlaw20_laid
noncomputable def ct : Ct := ⟨.some (.one (.agg (.cons (.tab false 58 (.cons (.leaf (.int .i64)) (.one (.row false 3 [.int .i64]) []))) (.cons (.leaf (.int .i64)) (.cons (.leaf (.int .i64)) (.cons (.leaf (.int .i64)) (.one (.row false 31 [.int .i64, .int .i64, .str]) [])))))) []), [], [⟨.tup (.pin (.nil) (.pin (.nil) (.one (.leaf .bool) []))), [], []⟩, ⟨.tup (.pin (.nil) (.pin (.ref 0) (.one (.leaf .bool) []))), [(45, .cons (.tab false 58 (.cons (.leaf (.int .i64)) (.one (.row false 3 [.int .i64]) []))) (.pin (.ref 1) (.cons (.tab true 86 (.one (.box 95 (.cons (.row true 9 [.str]) (.cons (.leaf (.int .i64)) (.one (.leaf (.int .i64)) [])))) [])) (.one (.agg (.cons (.leaf (.int .i64)) (.cons (.leaf (.int .i64)) (.cons (.leaf (.int .i64)) (.cons (.leaf (.int .i64)) (.cons (.leaf (.int .i64)) (.one (.leaf (.int .i64)) []))))))) [])))), (53, .cons (.leaf (.int .i64)) (.cons (.leaf (.int .i64)) (.one (.row true 89 [.int .i64, .str, .int .i64, .int .i64]) [])))], [.arg 1 0, .fld 0 1]⟩, ⟨.tup (.pin (.ref 0) (.pin (.nil) (.one (.leaf .bool) []))), [(66, .cons (.tab false 58 (.cons (.leaf (.int .i64)) (.one (.row false 3 [.int .i64]) []))) (.pin (.ref 1) (.cons (.tab true 78 (.one (.box 129 (.cons (.row true 9 [.str]) (.cons (.leaf (.int .i64)) (.one (.leaf (.int .i64)) [])))) [])) (.one (.agg (.cons (.leaf (.int .i64)) (.cons (.leaf (.int .i64)) (.cons (.leaf (.int .i64)) (.cons (.leaf (.int .i64)) (.cons (.leaf (.int .i64)) (.one (.leaf (.int .i64)) []))))))) [])))), (124, .cons (.leaf (.int .i64)) (.cons (.leaf (.int .i64)) (.one (.map 122 true true [.int .i64, .str] [.int .i64, .str, .int .i64, .int .i64]) [])))], [.arg 0 0, .fld 0 1]⟩, ⟨.tup (.pin (.ref 0) (.pin (.ref 2) (.one (.leaf .bool) []))), [(66, .cons (.tab false 58 (.cons (.leaf (.int .i64)) (.one (.row false 3 [.int .i64]) []))) (.pin (.ref 1) (.cons (.tab true 78 (.one (.box 129 (.cons (.row true 9 [.str]) (.cons (.leaf (.int .i64)) (.one (.leaf (.int .i64)) [])))) [])) (.one (.agg (.cons (.leaf (.int .i64)) (.cons (.leaf (.int .i64)) (.cons (.leaf (.int .i64)) (.cons (.leaf (.int .i64)) (.cons (.leaf (.int .i64)) (.one (.leaf (.int .i64)) []))))))) [])))), (124, .cons (.leaf (.int .i64)) (.cons (.leaf (.int .i64)) (.one (.map 122 true true [.int .i64, .str] [.int .i64, .str, .int .i64, .int .i64]) []))), (45, .cons (.tab false 58 (.cons (.leaf (.int .i64)) (.one (.row false 3 [.int .i64]) []))) (.pin (.ref 3) (.cons (.tab true 86 (.one (.box 95 (.cons (.row true 9 [.str]) (.cons (.leaf (.int .i64)) (.one (.leaf (.int .i64)) [])))) [])) (.one (.agg (.cons (.leaf (.int .i64)) (.cons (.leaf (.int .i64)) (.cons (.leaf (.int .i64)) (.cons (.leaf (.int .i64)) (.cons (.leaf (.int .i64)) (.one (.leaf (.int .i64)) []))))))) [])))), (53, .cons (.leaf (.int .i64)) (.cons (.leaf (.int .i64)) (.one (.row true 89 [.int .i64, .str, .int .i64, .int .i64]) [])))], [.arg 0 0, .fld 0 1, .arg 1 0, .fld 2 1]⟩]⟩
noncomputable def nt : Notes := ⟨[(3, ⟨[1, 5, 6], []⟩)], [(6, ⟨[1, 5], []⟩)], [(5, [0, 1, 2, 3, 4, 5, 6, 7, 8, 9, 10, 11, 13, 14, 15, 16, 17, 12, 18, 19, 20, 21, 22, 23, 24, 25])], [], [(5, [], [], [35, 41])]⟩
noncomputable def cal0 {T : Type} (k : Nat) : List (FuncId × Hd T) := [(19, pureC F_bridge_New.ct [] (fun (x : TY8 × Int × Int × Int) (_ : Unit) => F_bridge_New.S k x.1 x.2.1 x.2.2.1 x.2.2.2)), (20, pureC F_aqueductref20_New.ct [] (fun (x : TY8 × Int × Int × Int) (_ : Unit) => F_aqueductref20_New.S k x.1 x.2.1 x.2.2.1 x.2.2.2))]
theorem cal0_ok {T : Type} (k : Nat) : HdsOk Tryz.prog (cal0 (T := T) k) := ⟨F_bridge_New.hd k, F_aqueductref20_New.hd k, trivial⟩
noncomputable def cal {T : Type} (k : Nat) : List (FuncId × Hd T) := cal0 k
theorem cal_ok {T : Type} (k : Nat) : HdsOk Tryz.prog (cal (T := T) k) := cal0_ok k
noncomputable abbrev la (k : Nat) (Rs : List (Fr → St → O (Bool ⊕ TY16 ⊕ TY15 ⊕ TY14))) (ds : List Dir) (j : Nat) : Fr → St → O (Bool ⊕ TY16 ⊕ TY15 ⊕ TY14) := loopAt tab (calOf (cal k)) Go.Proofs.Tryz.f4.ntmps nt k Rs ds (bodyOf Go.Proofs.Tryz.f4) (finK tab Go.Proofs.Tryz.f4.results.toList (fun v st => outK ct.ob (γ0 ct) ct.outs v st .ok) (fun e st => outP ct.ob (γ0 ct) ct.outs e st .ok)) j
noncomputable abbrev ca (k : Nat) (Rs : List (Fr → St → O (Bool ⊕ TY16 ⊕ TY15 ⊕ TY14))) (ds : List Dir) : Fr → St → O (Bool ⊕ TY16 ⊕ TY15 ⊕ TY14) := codeAt tab (calOf (cal k)) Go.Proofs.Tryz.f4.ntmps nt k Rs ds (bodyOf Go.Proofs.Tryz.f4) (finK tab Go.Proofs.Tryz.f4.results.toList (fun v st => outK ct.ob (γ0 ct) ct.outs v st .ok) (fun e st => outP ct.ob (γ0 ct) ct.outs e st .ok))
noncomputable abbrev zl0 {α : Type} (X : Fr → St → α) (a0 : TY8 × Int × Int × Int × TY17) (v4 : Int) (v5 : List (Int × List Int)) : α := X ⟨[(1, .ptr 0 0), (5, .osl 1), (6, .int .i64 v4)], [], 0, []⟩ ⟨6, true, [(0, .cells 25 [.osl 2, .int .i64 a0.2.1, .int .i64 a0.2.2.1, .int .i64 a0.2.2.2.1, .osl 3]), (1, .tab true 58 [] 4 (.cons (.leaf (.int .i64)) (.one (.row false 3 [.int .i64]) [])) v5), (2, .tab false 58 [] 5 (.cons (.leaf (.int .i64)) (.one (.row false 3 [.int .i64]) [])) a0.1), (3, .row false 31 [.int .i64, .int .i64, .str] a0.2.2.2.2), (4, .ghost), (5, .ghost)]⟩
noncomputable abbrev zj2 {α : Type} (X : Fr → St → α) (a0 : TY8 × Int × Int × Int × TY17) (v3 : List (Int × List Int)) : α := X ⟨[(1, .ptr 0 0), (5, .osl 1)], [], 0, []⟩ ⟨6, true, [(0, .cells 25 [.osl 2, .int .i64 a0.2.1, .int .i64 a0.2.2.1, .int .i64 a0.2.2.2.1, .osl 3]), (1, .tab true 58 [] 4 (.cons (.leaf (.int .i64)) (.one (.row false 3 [.int .i64]) [])) v3), (2, .tab false 58 [] 5 (.cons (.leaf (.int .i64)) (.one (.row false 3 [.int .i64]) [])) a0.1), (3, .row false 31 [.int .i64, .int .i64, .str] a0.2.2.2.2), (4, .ghost), (5, .ghost)]⟩
noncomputable def j2_b (k : Nat) (a0 : TY8 × Int × Int × Int × TY17) (v3 : List (Int × List Int)) : O (Bool ⊕ TY16 ⊕ TY15 ⊕ TY14) :=
  O.sum (F_bridge_New.S k v3 a0.2.1 a0.2.2.1 a0.2.2.2.1) (fun r6 =>
   O.sum (F_aqueductref20_New.S k v3 a0.2.1 a0.2.2.1 a0.2.2.2.1) (fun r8 =>
    O.cond (decide (r6 = r8)) (
     .ok (.inl true)) (
     .ok (.inl false))) fun r9 =>
   O.cond (decide (r6 = r9.1)) (
    .ok (.inr (.inl (false, (r9.2.1, r9.2.2))))) (
    .ok (.inr (.inl (false, (r9.2.1, r9.2.2)))))) fun r7 =>
  O.sum (F_aqueductref20_New.S k v3 a0.2.1 a0.2.2.1 a0.2.2.2.1) (fun r10 =>
   O.cond (decide (r7.1 = r10)) (
    .ok (.inr (.inr (.inl (false, (r7.2.1, r7.2.2)))))) (
    .ok (.inr (.inr (.inl (false, (r7.2.1, r7.2.2))))))) fun r11 =>
  O.cond (decide (r7.1 = r11.1)) (
   .ok (.inr (.inr (.inr (true, (r7.2.1, r7.2.2, r11.2.1, r11.2.2)))))) (
   .ok (.inr (.inr (.inr (false, (r7.2.1, r7.2.2, r11.2.1, r11.2.2))))))
noncomputable def j2 (k : Nat) (a0 : TY8 × Int × Int × Int × TY17) (v3 : List (Int × List Int)) : O (Bool ⊕ TY16 ⊕ TY15 ⊕ TY14) := j2_b k a0 v3
theorem j2_eq (k : Nat) (a0 : TY8 × Int × Int × Int × TY17) (v3 : List (Int × List Int)) : zj2 (ca k [] [.r, .r, .r]) a0 v3 = j2 k a0 v3 := by
  have h : zj2 (ca k [] [.r, .r, .r]) a0 v3 = j2_b k a0 v3 := (codeAt_eq _ _ _ _ _ _ _ _ _ _ _).trans (by show _ = _; kernel_rfl)
  exact h.trans (by rfl)
noncomputable def l0_b (k : Nat) (a0 : TY8 × Int × Int × Int × TY17) (R_l0 : Int → TY8 → O (Bool ⊕ TY16 ⊕ TY15 ⊕ TY14)) (D_j2 : TY8 → O (Bool ⊕ TY16 ⊕ TY15 ⊕ TY14)) (v4 : Int) (v5 : List (Int × List Int)) : O (Bool ⊕ TY16 ⊕ TY15 ⊕ TY14) :=
  O.cond (decide (v4 < (List.length a0.1 : Int))) (
   O.cond (decide (v4 < (17 : Int))) (
    O.chk (decide (0 ≤ v4 ∧ v4 < (List.length a0.1 : Int))) (
     O.chk (decide (0 ≤ v4 ∧ v4 < (List.length a0.1 : Int))) (
      O.chk (decide (0 ≤ v4 ∧ v4 < (List.length a0.1 : Int))) (
       O.chk (decide (0 ≤ v4 ∧ v4 < (List.length a0.1 : Int))) (
        O.twice (
         O.chk (decide (0 ≤ v4 ∧ v4 < (List.length a0.1 : Int))) (
          O.chk (decide (0 ≤ v4 ∧ v4 < (List.length a0.1 : Int))) (
           O.chk (decide (0 ≤ (min (List.length ((gt ((0 : Int), []) a0.1 v4).2) : Int) (20 : Int)) ∧ (min (List.length ((gt ((0 : Int), []) a0.1 v4).2) : Int) (20 : Int)) ≤ (List.length ((gt ((0 : Int), []) a0.1 v4).2) : Int)) && (decide (0 ≤ (List.length ((gt ((0 : Int), []) a0.1 v4).2) : Int) ∧ (List.length ((gt ((0 : Int), []) a0.1 v4).2) : Int) ≤ (List.length ((gt ((0 : Int), []) a0.1 v4).2) : Int)))) (
            O.chk (decide (0 ≤ (min (List.length ((gt ((0 : Int), []) a0.1 v4).2) : Int) (20 : Int)) ∧ (min (List.length ((gt ((0 : Int), []) a0.1 v4).2) : Int) (20 : Int)) ≤ (List.length ((gt ((0 : Int), []) a0.1 v4).2) : Int))) (
             O.chk (decide (List.length v5 + 1 ≤ 1073741824)) (
              R_l0 (IntKind.i64.wrap (v4 + (1 : Int))) (v5 ++ [((gt ((0 : Int), []) a0.1 v4).1, (sub ((gt ((0 : Int), []) a0.1 v4).2) (sumI []) (min (List.length ((gt ((0 : Int), []) a0.1 v4).2) : Int) (20 : Int))))])))))))))))) (
    D_j2 v5)) (
   D_j2 v5)
noncomputable def l0 (k : Nat) (a0 : TY8 × Int × Int × Int × TY17) : Nat → Int → TY8 → O (Bool ⊕ TY16 ⊕ TY15 ⊕ TY14)
 | 0, _, _ => .no
 | j + 1, v4, v5 => l0_b k a0 (l0 k a0 j) ((fun (v3 : List (Int × List Int)) => j2 k a0 v3)) v4 v5
theorem l0_eq (k : Nat) (a0 : TY8 × Int × Int × Int × TY17) : ∀ (j : Nat) (v4 : Int) (v5 : List (Int × List Int)), zl0 (la k [] [.r, .r, .l, .r, .b] j) a0 v4 v5 = l0 k a0 j v4 v5 := by
 intro j
 induction j with
 | zero => intro v4 v5; rfl
 | succ j ih =>
  intro v4 v5
  have rs : (fun (v4' : Int) (v5' : List (Int × List Int)) => zl0 (la k [] [.r, .r, .l, .r, .b] j) a0 v4' v5') = l0 k a0 j := by funext v4' v5'; exact ih v4' v5'
  have e0 : (fun (v3 : List (Int × List Int)) => zj2 (ca k [] [.r, .r, .r]) a0 v3) = (fun (v3 : List (Int × List Int)) => j2 k a0 v3) := by funext v3; exact j2_eq k a0 v3
  have h : zl0 (la k [] [.r, .r, .l, .r, .b] (j + 1)) a0 v4 v5 = l0_b k a0 ((fun (v4' : Int) (v5' : List (Int × List Int)) => zl0 (la k [] [.r, .r, .l, .r, .b] j) a0 v4' v5')) ((fun (v3 : List (Int × List Int)) => zj2 (ca k [] [.r, .r, .r]) a0 v3)) v4 v5 := by kernel_rfl
  exact h.trans (by rw [rs, e0]; rfl)
noncomputable def top (k : Nat) (a0 : TY8 × Int × Int × Int × TY17) (D_l0 : Int → TY8 → O (Bool ⊕ TY16 ⊕ TY15 ⊕ TY14)) : O (Bool ⊕ TY16 ⊕ TY15 ⊕ TY14) :=
 D_l0 (0 : Int) []
noncomputable def S (k : Nat) (a0 : TY8 × Int × Int × Int × TY17) : O (Bool ⊕ TY16 ⊕ TY15 ⊕ TY14) := top k a0 ((fun (v4 : Int) (v5 : List (Int × List Int)) => l0 k a0 k v4 v5))
theorem eq (k : Nat) (a0 : TY8 × Int × Int × Int × TY17) : evFn (T := Bool ⊕ TY16 ⊕ TY15 ⊕ TY14) tab (calOf (cal k)) Go.Proofs.Tryz.f4 nt k 0 [.agg [.osl 1, .int .i64 a0.2.1, .int .i64 a0.2.2.1, .int .i64 a0.2.2.2.1, .osl 2]] [] ⟨3, false, [(2, .row false 31 [.int .i64, .int .i64, .str] a0.2.2.2.2), (1, .tab false 58 [] 0 (.cons (.leaf (.int .i64)) (.one (.row false 3 [.int .i64]) [])) a0.1), (0, .ghost)]⟩ (fun v st => outK ct.ob (γ0 ct) ct.outs v st .ok) (fun e st => outP ct.ob (γ0 ct) ct.outs e st .ok) = S k a0 := by
 have e0 : (fun (v4 : Int) (v5 : List (Int × List Int)) => zl0 (la k [] [.r, .r, .l, .r, .b] k) a0 v4 v5) = (fun (v4 : Int) (v5 : List (Int × List Int)) => l0 k a0 k v4 v5) := by funext v4 v5; exact l0_eq k a0 k v4 v5
 have h : evFn (T := Bool ⊕ TY16 ⊕ TY15 ⊕ TY14) tab (calOf (cal k)) Go.Proofs.Tryz.f4 nt k 0 [.agg [.osl 1, .int .i64 a0.2.1, .int .i64 a0.2.2.1, .int .i64 a0.2.2.2.1, .osl 2]] [] ⟨3, false, [(2, .row false 31 [.int .i64, .int .i64, .str] a0.2.2.2.2), (1, .tab false 58 [] 0 (.cons (.leaf (.int .i64)) (.one (.row false 3 [.int .i64]) [])) a0.1), (0, .ghost)]⟩ (fun v st => outK ct.ob (γ0 ct) ct.outs v st .ok) (fun e st => outP ct.ob (γ0 ct) ct.outs e st .ok) = top k a0 ((fun (v4 : Int) (v5 : List (Int × List Int)) => zl0 (la k [] [.r, .r, .l, .r, .b] k) a0 v4 v5)) := by kernel_rfl
 exact h.trans (by rw [e0]; rfl)
theorem ok (k : Nat) : FnOkC Tryz.prog 4 ct (fun (x : TY8 × Int × Int × Int × TY17) (_ : Unit) => S k x) :=
 FnOkC.of_ev (C := ct) tab_ok rfl (calOf_ok (cal_ok k)) mixed Tryz.func4 nt k (fun _ _ => rfl) (fun (x : TY8 × Int × Int × Int × TY17) (_ : Unit) => eq k x)
theorem hd {T : Type} (k : Nat) : HdOk Tryz.prog 4 (pureC (T := T) ct [] (fun (x : TY8 × Int × Int × Int × TY17) (_ : Unit) => S k x)) :=
 pureC_ok rfl [] (ok k) Tryz.call4
end F_aqueductlaw20_laid
namespace F_bridge_Bridge_In
noncomputable def ct : Ct := ⟨.some (.pin (.ref 0) (.cons (.leaf (.int .i64)) (.one (.leaf .str) []))), [(66, .cons (.tab false 58 (.cons (.leaf (.int .i64)) (.one (.row false 3 [.int .i64]) []))) (.pin (.ref 1) (.cons (.tab true 78 (.one (.box 129 (.cons (.row true 9 [.str]) (.cons (.leaf (.int .i64)) (.one (.leaf (.int .i64)) [])))) [])) (.one (.agg (.cons (.leaf (.int .i64)) (.cons (.leaf (.int .i64)) (.cons (.leaf (.int .i64)) (.cons (.leaf (.int .i64)) (.cons (.leaf (.int .i64)) (.one (.leaf (.int .i64)) []))))))) [])))), (124, .cons (.leaf (.int .i64)) (.cons (.leaf (.int .i64)) (.one (.map 122 true true [.int .i64, .str] [.int .i64, .str, .int .i64, .int .i64]) [])))], [⟨.tup (.cons (.row true 3 [.int .i64]) (.one (.leaf (.int .i64)) [])), [], []⟩]⟩
noncomputable def nt : Notes := ⟨[(17, ⟨[0, 2, 10, 11, 105, 106, 107], [(.slot 11 [], 3, .pl [.int .i64])]⟩)], [(8, ⟨[0, 1, 2, 8, 9, 10], []⟩)], [(14, [0, 1, 2, 3, 4, 5, 6, 7, 8])], [], []⟩
noncomputable def cal0 {T : Type} (k : Nat) : List (FuncId × Hd T) := [(21, pureC F_eth_Parse.ct [] (fun (x : ByteArray) (_ : Unit) => F_eth_Parse.S k x)), (22, pureC F_addr_Kind.ct [] (fun (x : ByteArray) (_ : Unit) => F_addr_Kind.S k x)), (23, pureR F_bridge_Bridge_fits.ct [.arg 0 0, .fld 0 1] (fun (x : Int × ByteArray) (g : TY2 × TY3) => F_bridge_Bridge_fits.S k x.1 x.2 g.1 g.2)), (24, pureC F_bridge_Bridge_has.ct [.arg 0 0, .fld 0 1] (fun (x : Int × Int) (g : TY2 × TY3) => F_bridge_Bridge_has.S k x.1 x.2 g.1 g.2)), (25, pureC F_fdb_Table_Learn.ct [.arg 0 0] (fun (x : Int × ByteArray × Int) (g : Int × Int × TY0) => F_fdb_Table_Learn.S k x.1 x.2.1 x.2.2 g)), (26, pureC F_bridge_Bridge_to.ct [.arg 0 0, .fld 0 1] (fun (x : Int × Int × ByteArray) (g : TY2 × TY3) => F_bridge_Bridge_to.S k x.1 x.2.1 x.2.2 g.1 g.2)), (27, pureR F_bridge_Bridge_leaves.ct [.arg 0 0, .fld 0 1] (fun (x : Int × Int × ByteArray) (g : TY2 × TY3) => F_bridge_Bridge_leaves.S k x.1 x.2.1 x.2.2 g.1 g.2))]
theorem cal0_ok {T : Type} (k : Nat) : HdsOk Tryz.prog (cal0 (T := T) k) := ⟨F_eth_Parse.hd k, F_addr_Kind.hd k, F_bridge_Bridge_fits.hd k, F_bridge_Bridge_has.hd k, F_fdb_Table_Learn.hd k, F_bridge_Bridge_to.hd k, F_bridge_Bridge_leaves.hd k, trivial⟩
noncomputable def nt28 : Notes := ⟨[], [], [(1, [0, 1, 2, 3, 4, 5, 6, 7, 8, 9])], [], []⟩
noncomputable def cal1 {T : Type} (k : Nat) : List (FuncId × Hd T) := (28, inlH tab (calOf (cal0 k)) Go.Proofs.Tryz.f28 nt28 k) :: cal0 k
theorem cal1_ok {T : Type} (k : Nat) : HdsOk Tryz.prog (cal1 (T := T) k) := ⟨inlH_ok tab_ok (calOf_ok (cal0_ok k)) mixed Tryz.func28 nt28 k Tryz.call28, cal0_ok k⟩
noncomputable def cal {T : Type} (k : Nat) : List (FuncId × Hd T) := cal1 k
theorem cal_ok {T : Type} (k : Nat) : HdsOk Tryz.prog (cal (T := T) k) := cal1_ok k
noncomputable abbrev la (k : Nat) (Rs : List (Fr → St → O TY19)) (ds : List Dir) (j : Nat) : Fr → St → O TY19 := loopAt tab (calOf (cal k)) Go.Proofs.Tryz.f5.ntmps nt k Rs ds (bodyOf Go.Proofs.Tryz.f5) (finK tab Go.Proofs.Tryz.f5.results.toList (fun v st => outK ct.ob (γ0 ct) ct.outs v st .ok) (fun e st => outP ct.ob (γ0 ct) ct.outs e st .ok)) j
noncomputable abbrev ca (k : Nat) (Rs : List (Fr → St → O TY19)) (ds : List Dir) : Fr → St → O TY19 := codeAt tab (calOf (cal k)) Go.Proofs.Tryz.f5.ntmps nt k Rs ds (bodyOf Go.Proofs.Tryz.f5) (finK tab Go.Proofs.Tryz.f5.results.toList (fun v st => outK ct.ob (γ0 ct) ct.outs v st .ok) (fun e st => outP ct.ob (γ0 ct) ct.outs e st .ok))
noncomputable abbrev zj5 {α : Type} (X : Fr → St → α) (a1 : Int) (a2 : ByteArray) (g0 : TY8 × TY5 × TY6) (g1 : Int × Int × TY0) (r2 : TY20 × Int) (v3 : Int) : α := X ⟨[(0, .ptr 0 0), (1, .int .i64 a1), (2, .str a2), (8, .ptr 2 0), (9, .int .i64 r2.2), (10, .int .i64 v3)], [], 2, []⟩ ⟨8, true, [(2, .cells 68 [.str r2.1.1, .str r2.1.2.1, .int .i64 r2.1.2.2.1, .int .i64 r2.1.2.2.2.1, .int .i64 r2.1.2.2.2.2.1, .str r2.1.2.2.2.2.2]), (3, .tab false 58 [] 6 (.cons (.leaf (.int .i64)) (.one (.row false 3 [.int .i64]) [])) g0.1), (4, .tab true 78 [] 7 (.one (.box 129 (.cons (.row true 9 [.str]) (.cons (.leaf (.int .i64)) (.one (.leaf (.int .i64)) [])))) []) g0.2.1), (5, .map 122 true true [.int .i64, .str] [.int .i64, .str, .int .i64, .int .i64] g1.2.2), (6, .ghost), (7, .ghost), (0, .cells 66 [.osl 3, .ptr 1 0, .osl 4, .int .i64 (IntKind.i64.wrap (g0.2.2.1 + (1 : Int))), .int .i64 g0.2.2.2.1, .int .i64 g0.2.2.2.2.1, .int .i64 g0.2.2.2.2.2.1, .int .i64 g0.2.2.2.2.2.2.1, .int .i64 g0.2.2.2.2.2.2.2]), (1, .cells 124 [.int .i64 g1.1, .int .i64 g1.2.1, .mp 5])]⟩
noncomputable abbrev zl1 {α : Type} (X : Fr → St → α) (a2 : ByteArray) (v3 : Int) (r13 : List Int × TY2 × TY3) (v19 : Int) (v20 : List TY7) (v21 : Int) (v22 : List Int) (v23 : Int) : α := X ⟨[(0, .ptr 0 0), (2, .str a2), (10, .int .i64 v3), (11, .osl 2), (105, .osl 3), (106, .int .i64 (List.length r13.1 : Int)), (107, .int .i64 v19)], [], 2, []⟩ ⟨9, true, [(2, .row true 3 [.int .i64] v22), (3, .row true 3 [.int .i64] r13.1), (4, .tab false 58 [] 7 (.cons (.leaf (.int .i64)) (.one (.row false 3 [.int .i64]) [])) r13.2.1.1), (5, .tab true 78 [] 8 (.one (.box 129 (.cons (.row true 9 [.str]) (.cons (.leaf (.int .i64)) (.one (.leaf (.int .i64)) [])))) []) v20), (6, .map 122 true true [.int .i64, .str] [.int .i64, .str, .int .i64, .int .i64] r13.2.2.2.2), (7, .ghost), (8, .ghost), (0, .cells 66 [.osl 4, .ptr 1 0, .osl 5, .int .i64 r13.2.1.2.2.1, .int .i64 r13.2.1.2.2.2.1, .int .i64 r13.2.1.2.2.2.2.1, .int .i64 r13.2.1.2.2.2.2.2.1, .int .i64 v23, .int .i64 v21]), (1, .cells 124 [.int .i64 r13.2.2.1, .int .i64 r13.2.2.2.1, .mp 6])]⟩
noncomputable def l1_b (k : Nat) (a2 : ByteArray) (v3 : Int) (r13 : List Int × TY2 × TY3) (R_l1 : Int → (List Int) → TY5 → Int → Int → O TY19) (v19 : Int) (v22 : List Int) (v20 : List TY7) (v23 : Int) (v21 : Int) : O TY19 :=
  O.cond (decide (v19 < (List.length r13.1 : Int))) (
   O.chk (decide (0 ≤ v19 ∧ v19 < (List.length r13.1 : Int) ∧ (List.length r13.1 : Int) ≤ (List.length r13.1 : Int))) (
    O.chk (decide (0 ≤ v19 ∧ v19 < (List.length r13.1 : Int))) (
     O.bind (F_bridge_Bridge_leaves.S k (gt (0 : Int) r13.1 v19) v3 a2 (r13.2.1.1, v20, (r13.2.1.2.2.1, r13.2.1.2.2.2.1, r13.2.1.2.2.2.2.1, r13.2.1.2.2.2.2.2.1, v23, v21)) r13.2.2) fun r25 =>
     O.chk (decide (0 ≤ (gt (0 : Int) r13.1 v19) ∧ (gt (0 : Int) r13.1 v19) < (List.length v20 : Int))) (
      O.chk (decide (0 ≤ (gt (0 : Int) r13.1 v19) ∧ (gt (0 : Int) r13.1 v19) < (List.length v20 : Int))) (
       O.cond (decide ((List.length ((gt ([], (0 : Int), (0 : Int)) v20 (gt (0 : Int) r13.1 v19)).1) : Int) ≥ (gt ([], (0 : Int), (0 : Int)) v20 (gt (0 : Int) r13.1 v19)).2.1)) (
        O.cond true (
         R_l1 (IntKind.i64.wrap (v19 + (1 : Int))) v22 (su v20 (gt (0 : Int) r13.1 v19) ((gt ([], (0 : Int), (0 : Int)) v20 (gt (0 : Int) r13.1 v19)).1, (gt ([], (0 : Int), (0 : Int)) v20 (gt (0 : Int) r13.1 v19)).2.1, (IntKind.i64.wrap ((gt ([], (0 : Int), (0 : Int)) v20 (gt (0 : Int) r13.1 v19)).2.2 + (1 : Int))))) v23 (IntKind.i64.wrap (v21 + (1 : Int)))) (
         O.chk (decide (List.length v22 + List.length [(gt (0 : Int) r13.1 v19)] ≤ 1073741824)) (
          R_l1 (IntKind.i64.wrap (v19 + (1 : Int))) (v22 ++ [(gt (0 : Int) r13.1 v19)]) (su v20 (gt (0 : Int) r13.1 v19) ((gt ([], (0 : Int), (0 : Int)) v20 (gt (0 : Int) r13.1 v19)).1, (gt ([], (0 : Int), (0 : Int)) v20 (gt (0 : Int) r13.1 v19)).2.1, (IntKind.i64.wrap ((gt ([], (0 : Int), (0 : Int)) v20 (gt (0 : Int) r13.1 v19)).2.2 + (1 : Int))))) (IntKind.i64.wrap (v23 + (1 : Int))) v21))) (
        O.chk (decide (List.length ((gt ([], (0 : Int), (0 : Int)) v20 (gt (0 : Int) r13.1 v19)).1) + List.length [r25.1] ≤ 1073741824)) (
         O.cond false (
          R_l1 (IntKind.i64.wrap (v19 + (1 : Int))) v22 (su v20 (gt (0 : Int) r13.1 v19) (((gt ([], (0 : Int), (0 : Int)) v20 (gt (0 : Int) r13.1 v19)).1 ++ [r25.1]), (gt ([], (0 : Int), (0 : Int)) v20 (gt (0 : Int) r13.1 v19)).2.1, (gt ([], (0 : Int), (0 : Int)) v20 (gt (0 : Int) r13.1 v19)).2.2)) v23 (IntKind.i64.wrap (v21 + (1 : Int)))) (
          O.chk (decide (List.length v22 + List.length [(gt (0 : Int) r13.1 v19)] ≤ 1073741824)) (
           R_l1 (IntKind.i64.wrap (v19 + (1 : Int))) (v22 ++ [(gt (0 : Int) r13.1 v19)]) (su v20 (gt (0 : Int) r13.1 v19) (((gt ([], (0 : Int), (0 : Int)) v20 (gt (0 : Int) r13.1 v19)).1 ++ [r25.1]), (gt ([], (0 : Int), (0 : Int)) v20 (gt (0 : Int) r13.1 v19)).2.1, (gt ([], (0 : Int), (0 : Int)) v20 (gt (0 : Int) r13.1 v19)).2.2)) (IntKind.i64.wrap (v23 + (1 : Int))) v21))))))))) (
   .ok ((v22, (0 : Int)), ((r13.2.1.1, v20, (r13.2.1.2.2.1, r13.2.1.2.2.2.1, r13.2.1.2.2.2.2.1, r13.2.1.2.2.2.2.2.1, v23, v21)), r13.2.2)))
noncomputable def l1 (k : Nat) (a2 : ByteArray) (v3 : Int) (r13 : List Int × TY2 × TY3) : Nat → Int → (List Int) → TY5 → Int → Int → O TY19
 | 0, _, _, _, _, _ => .no
 | j + 1, v19, v22, v20, v23, v21 => l1_b k a2 v3 r13 (l1 k a2 v3 r13 j) v19 v22 v20 v23 v21
theorem l1_eq (k : Nat) (a2 : ByteArray) (v3 : Int) (r13 : List Int × TY2 × TY3) : ∀ (j : Nat) (v19 : Int) (v22 : List Int) (v20 : List TY7) (v23 : Int) (v21 : Int), zl1 (la k [] [.r, .r, .r, .r, .r, .r, .r, .r, .r, .r, .l, .r, .b] j) a2 v3 r13 v19 v20 v21 v22 v23 = l1 k a2 v3 r13 j v19 v22 v20 v23 v21 := by
 intro j
 induction j with
 | zero => intro v19 v22 v20 v23 v21; rfl
 | succ j ih =>
  intro v19 v22 v20 v23 v21
  have rs : (fun (v19' : Int) (v22' : List Int) (v20' : List TY7) (v23' : Int) (v21' : Int) => zl1 (la k [] [.r, .r, .r, .r, .r, .r, .r, .r, .r, .r, .l, .r, .b] j) a2 v3 r13 v19' v20' v21' v22' v23') = l1 k a2 v3 r13 j := by funext v19' v22' v20' v23' v21'; exact ih v19' v22' v20' v23' v21'
  have h : zl1 (la k [] [.r, .r, .r, .r, .r, .r, .r, .r, .r, .r, .l, .r, .b] (j + 1)) a2 v3 r13 v19 v20 v21 v22 v23 = l1_b k a2 v3 r13 ((fun (v19' : Int) (v22' : List Int) (v20' : List TY7) (v23' : Int) (v21' : Int) => zl1 (la k [] [.r, .r, .r, .r, .r, .r, .r, .r, .r, .r, .l, .r, .b] j) a2 v3 r13 v19' v20' v21' v22' v23')) v19 v22 v20 v23 v21 := by kernel_rfl
  exact h.trans (by rw [rs]; rfl)
noncomputable def j5_b (k : Nat) (a1 : Int) (a2 : ByteArray) (g0 : TY8 × TY5 × TY6) (g1 : Int × Int × TY0) (r2 : TY20 × Int) (D_l1 : Int → (List Int × TY2 × TY3) → Int → (List Int) → TY5 → Int → Int → O TY19) (v3 : Int) : O TY19 :=
  O.cond (decide (r2.2 ≠ (0 : Int))) (
   .ok (([], (0 : Int)), ((g0.1, g0.2.1, ((IntKind.i64.wrap (g0.2.2.1 + (1 : Int))), (IntKind.i64.wrap (g0.2.2.2.1 + (1 : Int))), g0.2.2.2.2.1, g0.2.2.2.2.2.1, g0.2.2.2.2.2.2.1, g0.2.2.2.2.2.2.2)), g1))) (
   O.bind (F_addr_Kind.S k r2.1.2.1) fun r6 =>
   O.cond (decide (r6 ≠ (1 : Int))) (
    .ok (([], (0 : Int)), ((g0.1, g0.2.1, ((IntKind.i64.wrap (g0.2.2.1 + (1 : Int))), (IntKind.i64.wrap (g0.2.2.2.1 + (1 : Int))), g0.2.2.2.2.1, g0.2.2.2.2.2.1, g0.2.2.2.2.2.2.1, g0.2.2.2.2.2.2.2)), g1))) (
    O.bind (F_bridge_Bridge_fits.S k v3 a2 (g0.1, g0.2.1, ((IntKind.i64.wrap (g0.2.2.1 + (1 : Int))), g0.2.2.2.1, g0.2.2.2.2.1, g0.2.2.2.2.2.1, g0.2.2.2.2.2.2.1, g0.2.2.2.2.2.2.2)) g1) fun r7 =>
    O.cond (!r7) (
     .ok (([], (0 : Int)), ((g0.1, g0.2.1, ((IntKind.i64.wrap (g0.2.2.1 + (1 : Int))), (IntKind.i64.wrap (g0.2.2.2.1 + (1 : Int))), g0.2.2.2.2.1, g0.2.2.2.2.2.1, g0.2.2.2.2.2.2.1, g0.2.2.2.2.2.2.2)), g1))) (
     O.bind (F_bridge_Bridge_has.S k a1 v3 (g0.1, g0.2.1, ((IntKind.i64.wrap (g0.2.2.1 + (1 : Int))), g0.2.2.2.1, g0.2.2.2.2.1, g0.2.2.2.2.2.1, g0.2.2.2.2.2.2.1, g0.2.2.2.2.2.2.2)) g1) fun r9 =>
     O.cond (!r9.1) (
      .ok (([], (0 : Int)), ((r9.2.1.1, r9.2.1.2.1, (r9.2.1.2.2.1, r9.2.1.2.2.2.1, (IntKind.i64.wrap (r9.2.1.2.2.2.2.1 + (1 : Int))), r9.2.1.2.2.2.2.2.1, r9.2.1.2.2.2.2.2.2.1, r9.2.1.2.2.2.2.2.2.2)), r9.2.2))) (
      O.bind (F_fdb_Table_Learn.S k v3 r2.1.2.1 a1 r9.2.2) fun r11 =>
      O.bind (F_bridge_Bridge_to.S k a1 v3 r2.1.1 r9.2.1 r11.2) fun r13 =>
      D_l1 v3 r13 (0 : Int) [] r13.2.1.2.1 r13.2.1.2.2.2.2.2.2.1 r13.2.1.2.2.2.2.2.2.2))))
noncomputable def j5 (k : Nat) (a1 : Int) (a2 : ByteArray) (g0 : TY8 × TY5 × TY6) (g1 : Int × Int × TY0) (r2 : TY20 × Int) (v3 : Int) : O TY19 := j5_b k a1 a2 g0 g1 r2 ((fun (v3 : Int) (r13 : List Int × TY2 × TY3) (v19 : Int) (v22 : List Int) (v20 : List TY7) (v23 : Int) (v21 : Int) => l1 k a2 v3 r13 k v19 v22 v20 v23 v21)) v3
theorem j5_eq (k : Nat) (a1 : Int) (a2 : ByteArray) (g0 : TY8 × TY5 × TY6) (g1 : Int × Int × TY0) (r2 : TY20 × Int) (v3 : Int) : zj5 (ca k [] [.r, .r, .r, .r, .r, .r]) a1 a2 g0 g1 r2 v3 = j5 k a1 a2 g0 g1 r2 v3 := by
  have e0 : (fun (v3 : Int) (r13 : List Int × TY2 × TY3) (v19 : Int) (v22 : List Int) (v20 : List TY7) (v23 : Int) (v21 : Int) => zl1 (la k [] [.r, .r, .r, .r, .r, .r, .r, .r, .r, .r, .l, .r, .b] k) a2 v3 r13 v19 v20 v21 v22 v23) = (fun (v3 : Int) (r13 : List Int × TY2 × TY3) (v19 : Int) (v22 : List Int) (v20 : List TY7) (v23 : Int) (v21 : Int) => l1 k a2 v3 r13 k v19 v22 v20 v23 v21) := by funext v3 r13 v19 v22 v20 v23 v21; exact l1_eq k a2 v3 r13 k v19 v22 v20 v23 v21
  have h : zj5 (ca k [] [.r, .r, .r, .r, .r, .r]) a1 a2 g0 g1 r2 v3 = j5_b k a1 a2 g0 g1 r2 ((fun (v3 : Int) (r13 : List Int × TY2 × TY3) (v19 : Int) (v22 : List Int) (v20 : List TY7) (v23 : Int) (v21 : Int) => zl1 (la k [] [.r, .r, .r, .r, .r, .r, .r, .r, .r, .r, .l, .r, .b] k) a2 v3 r13 v19 v20 v21 v22 v23)) v3 := (codeAt_eq _ _ _ _ _ _ _ _ _ _ _).trans (by show _ = _; kernel_rfl)
  exact h.trans (by rw [e0]; rfl)
noncomputable def top (k : Nat) (a1 : Int) (a2 : ByteArray) (g0 : TY8 × TY5 × TY6) (g1 : Int × Int × TY0) (D_j5 : (TY20 × Int) → Int → O TY19) : O TY19 :=
  O.cond (decide (a1 < (0 : Int))) (
   .ok (([], (1 : Int)), (g0, g1))) (
   O.cond (decide (a1 ≥ (List.length g0.1 : Int))) (
    .ok (([], (1 : Int)), (g0, g1))) (
    O.bind (F_eth_Parse.S k a2) fun r2 =>
    O.cond (decide (r2.1.2.2.1 = (-1 : Int))) (
     O.chk (decide (0 ≤ a1 ∧ a1 < (List.length g0.1 : Int))) (
      O.chk (decide (0 ≤ a1 ∧ a1 < (List.length g0.1 : Int))) (
       D_j5 r2 ((gt ((0 : Int), []) g0.1 a1).1)))) (
     D_j5 r2 r2.1.2.2.1)))
noncomputable def S (k : Nat) (a1 : Int) (a2 : ByteArray) (g0 : TY8 × TY5 × TY6) (g1 : Int × Int × TY0) : O TY19 := top k a1 a2 g0 g1 ((fun (r2 : TY20 × Int) (v3 : Int) => j5 k a1 a2 g0 g1 r2 v3))
theorem eq (k : Nat) (a1 : Int) (a2 : ByteArray) (g0 : TY8 × TY5 × TY6) (g1 : Int × Int × TY0) : evFn (T := (List Int × Int) × TY2 × TY3) tab (calOf (cal k)) Go.Proofs.Tryz.f5 nt k 2 [.ptr 0 0, .int .i64 a1, .str a2] [] ⟨7, false, [(1, .cells 124 [.int .i64 g1.1, .int .i64 g1.2.1, .mp 6]), (6, .map 122 true true [.int .i64, .str] [.int .i64, .str, .int .i64, .int .i64] g1.2.2), (0, .cells 66 [.osl 3, .ptr 1 0, .osl 5, .int .i64 g0.2.2.1, .int .i64 g0.2.2.2.1, .int .i64 g0.2.2.2.2.1, .int .i64 g0.2.2.2.2.2.1, .int .i64 g0.2.2.2.2.2.2.1, .int .i64 g0.2.2.2.2.2.2.2]), (5, .tab true 78 [] 4 (.one (.box 129 (.cons (.row true 9 [.str]) (.cons (.leaf (.int .i64)) (.one (.leaf (.int .i64)) [])))) []) g0.2.1), (4, .ghost), (3, .tab false 58 [] 2 (.cons (.leaf (.int .i64)) (.one (.row false 3 [.int .i64]) [])) g0.1), (2, .ghost)]⟩ (fun v st => outK ct.ob (γ0 ct) ct.outs v st .ok) (fun e st => outP ct.ob (γ0 ct) ct.outs e st .ok) = S k a1 a2 g0 g1 := by
 have e0 : (fun (r2 : TY20 × Int) (v3 : Int) => zj5 (ca k [] [.r, .r, .r, .r, .r, .r]) a1 a2 g0 g1 r2 v3) = (fun (r2 : TY20 × Int) (v3 : Int) => j5 k a1 a2 g0 g1 r2 v3) := by funext r2 v3; exact j5_eq k a1 a2 g0 g1 r2 v3
 have h : evFn (T := (List Int × Int) × TY2 × TY3) tab (calOf (cal k)) Go.Proofs.Tryz.f5 nt k 2 [.ptr 0 0, .int .i64 a1, .str a2] [] ⟨7, false, [(1, .cells 124 [.int .i64 g1.1, .int .i64 g1.2.1, .mp 6]), (6, .map 122 true true [.int .i64, .str] [.int .i64, .str, .int .i64, .int .i64] g1.2.2), (0, .cells 66 [.osl 3, .ptr 1 0, .osl 5, .int .i64 g0.2.2.1, .int .i64 g0.2.2.2.1, .int .i64 g0.2.2.2.2.1, .int .i64 g0.2.2.2.2.2.1, .int .i64 g0.2.2.2.2.2.2.1, .int .i64 g0.2.2.2.2.2.2.2]), (5, .tab true 78 [] 4 (.one (.box 129 (.cons (.row true 9 [.str]) (.cons (.leaf (.int .i64)) (.one (.leaf (.int .i64)) [])))) []) g0.2.1), (4, .ghost), (3, .tab false 58 [] 2 (.cons (.leaf (.int .i64)) (.one (.row false 3 [.int .i64]) [])) g0.1), (2, .ghost)]⟩ (fun v st => outK ct.ob (γ0 ct) ct.outs v st .ok) (fun e st => outP ct.ob (γ0 ct) ct.outs e st .ok) = top k a1 a2 g0 g1 ((fun (r2 : TY20 × Int) (v3 : Int) => zj5 (ca k [] [.r, .r, .r, .r, .r, .r]) a1 a2 g0 g1 r2 v3)) := by kernel_rfl
 exact h.trans (by rw [e0]; rfl)
theorem ok (k : Nat) : FnOkC Tryz.prog 5 ct (fun (x : Int × ByteArray) (g : TY2 × TY3) => S k x.1 x.2 g.1 g.2) :=
 FnOkC.of_ev (C := ct) tab_ok rfl (calOf_ok (cal_ok k)) mixed Tryz.func5 nt k (fun _ _ => rfl) (fun (x : Int × ByteArray) (g : TY2 × TY3) => eq k x.1 x.2 g.1 g.2)
theorem hd {T : Type} (k : Nat) : HdOk Tryz.prog 5 (pureC (T := T) ct [.arg 0 0, .fld 0 1] (fun (x : Int × ByteArray) (g : TY2 × TY3) => S k x.1 x.2 g.1 g.2)) :=
 pureC_ok rfl [.arg 0 0, .fld 0 1] (ok k) Tryz.call5
end F_bridge_Bridge_In
namespace F_aqueductref16_Net
noncomputable def ct : Ct := ⟨.some (.cons (.row false 3 [.int .i64]) (.one (.leaf (.int .i64)) [])), [], [⟨.val (.leaf .bool), [], []⟩]⟩
noncomputable def nt : Notes := ⟨[(2, ⟨[0, 1, 5], []⟩)], [], [], [], []⟩
noncomputable def cal0 {T : Type} (k : Nat) : List (FuncId × Hd T) := []
theorem cal0_ok {T : Type} (k : Nat) : HdsOk Tryz.prog (cal0 (T := T) k) := trivial
noncomputable def cal {T : Type} (k : Nat) : List (FuncId × Hd T) := cal0 k
theorem cal_ok {T : Type} (k : Nat) : HdsOk Tryz.prog (cal (T := T) k) := cal0_ok k
noncomputable abbrev la (k : Nat) (Rs : List (Fr → St → O (Bool))) (ds : List Dir) (j : Nat) : Fr → St → O (Bool) := loopAt tab (calOf (cal k)) Go.Proofs.Tryz.f60.ntmps nt k Rs ds (bodyOf Go.Proofs.Tryz.f60) (finK tab Go.Proofs.Tryz.f60.results.toList (fun v st => outK ct.ob (γ0 ct) ct.outs v st .ok) (fun e st => outP ct.ob (γ0 ct) ct.outs e st .ok)) j
noncomputable abbrev zl0 {α : Type} (X : Fr → St → α) (a0 : List Int) (a1 : Int) (v1 : Int) : α := X ⟨[(0, .osl 0), (1, .int .i64 a1), (5, .int .i64 v1)], [], 0, []⟩ ⟨1, true, [(0, .row false 3 [.int .i64] a0)]⟩
noncomputable def l0_b (k : Nat) (a0 : List Int) (a1 : Int) (R_l0 : Int → O Bool) (v1 : Int) : O Bool :=
  O.cond (decide (v1 < (List.length a0 : Int))) (
   O.chk (decide (0 ≤ v1 ∧ v1 < (List.length a0 : Int) ∧ (List.length a0 : Int) ≤ (List.length a0 : Int))) (
    O.chk (decide (0 ≤ v1 ∧ v1 < (List.length a0 : Int))) (
     O.cond (decide ((gt (0 : Int) a0 v1) = a1)) (
      .ok true) (
      R_l0 (IntKind.i64.wrap (v1 + (1 : Int))))))) (
   .ok false)
noncomputable def l0 (k : Nat) (a0 : List Int) (a1 : Int) : Nat → Int → O Bool
 | 0, _ => .no
 | j + 1, v1 => l0_b k a0 a1 (l0 k a0 a1 j) v1
theorem l0_eq (k : Nat) (a0 : List Int) (a1 : Int) : ∀ (j : Nat) (v1 : Int), zl0 (la k [] [.r, .l, .r, .b] j) a0 a1 v1 = l0 k a0 a1 j v1 := by
 intro j
 induction j with
 | zero => intro v1; rfl
 | succ j ih =>
  intro v1
  have rs : (fun (v1' : Int) => zl0 (la k [] [.r, .l, .r, .b] j) a0 a1 v1') = l0 k a0 a1 j := by funext v1'; exact ih v1'
  have h : zl0 (la k [] [.r, .l, .r, .b] (j + 1)) a0 a1 v1 = l0_b k a0 a1 ((fun (v1' : Int) => zl0 (la k [] [.r, .l, .r, .b] j) a0 a1 v1')) v1 := by kernel_rfl
  exact h.trans (by rw [rs]; rfl)
noncomputable def top (k : Nat) (a0 : List Int) (a1 : Int) (D_l0 : Int → O Bool) : O Bool :=
 D_l0 (0 : Int)
noncomputable def S (k : Nat) (a0 : List Int) (a1 : Int) : O Bool := top k a0 a1 ((fun (v1 : Int) => l0 k a0 a1 k v1))
theorem eq (k : Nat) (a0 : List Int) (a1 : Int) : evFn (T := Bool) tab (calOf (cal k)) Go.Proofs.Tryz.f60 nt k 0 [.osl 0, .int .i64 a1] [] ⟨1, false, [(0, .row false 3 [.int .i64] a0)]⟩ (fun v st => outK ct.ob (γ0 ct) ct.outs v st .ok) (fun e st => outP ct.ob (γ0 ct) ct.outs e st .ok) = S k a0 a1 := by
 have e0 : (fun (v1 : Int) => zl0 (la k [] [.r, .l, .r, .b] k) a0 a1 v1) = (fun (v1 : Int) => l0 k a0 a1 k v1) := by funext v1; exact l0_eq k a0 a1 k v1
 have h : evFn (T := Bool) tab (calOf (cal k)) Go.Proofs.Tryz.f60 nt k 0 [.osl 0, .int .i64 a1] [] ⟨1, false, [(0, .row false 3 [.int .i64] a0)]⟩ (fun v st => outK ct.ob (γ0 ct) ct.outs v st .ok) (fun e st => outP ct.ob (γ0 ct) ct.outs e st .ok) = top k a0 a1 ((fun (v1 : Int) => zl0 (la k [] [.r, .l, .r, .b] k) a0 a1 v1)) := by kernel_rfl
 exact h.trans (by rw [e0]; rfl)
theorem ok (k : Nat) : FnOkC Tryz.prog 60 ct (fun (x : List Int × Int) (_ : Unit) => S k x.1 x.2) :=
 FnOkC.of_ev (C := ct) tab_ok rfl (calOf_ok (cal_ok k)) mixed Tryz.func60 nt k (fun _ _ => rfl) (fun (x : List Int × Int) (_ : Unit) => eq k x.1 x.2)
theorem hd {T : Type} (k : Nat) : HdOk Tryz.prog 60 (pureC (T := T) ct [] (fun (x : List Int × Int) (_ : Unit) => S k x.1 x.2)) :=
 pureC_ok rfl [] (ok k) Tryz.call60
end F_aqueductref16_Net
namespace F_aqueductref20_Has
noncomputable def ct : Ct := ⟨.some (.cons (.agg (.cons (.leaf (.int .i64)) (.one (.row false 3 [.int .i64]) []))) (.one (.leaf (.int .i64)) [])), [], [⟨.val (.leaf .bool), [], []⟩]⟩
noncomputable def nt : Notes := ⟨[], [], [], [], []⟩
noncomputable def cal0 {T : Type} (k : Nat) : List (FuncId × Hd T) := [(60, pureC F_aqueductref16_Net.ct [] (fun (x : List Int × Int) (_ : Unit) => F_aqueductref16_Net.S k x.1 x.2))]
theorem cal0_ok {T : Type} (k : Nat) : HdsOk Tryz.prog (cal0 (T := T) k) := ⟨F_aqueductref16_Net.hd k, trivial⟩
noncomputable def cal {T : Type} (k : Nat) : List (FuncId × Hd T) := cal0 k
theorem cal_ok {T : Type} (k : Nat) : HdsOk Tryz.prog (cal (T := T) k) := cal0_ok k
noncomputable def S (k : Nat) (a0 : Int × List Int) (a1 : Int) : O Bool :=
  O.cond (decide (a0.1 = a1)) (
   .ok true) (
   O.bind (F_aqueductref16_Net.S k a0.2 a1) fun r1 =>
   .ok r1)
theorem eq (k : Nat) (a0 : Int × List Int) (a1 : Int) : evFn (T := Bool) tab (calOf (cal k)) Go.Proofs.Tryz.f30 nt k 0 [.agg [.int .i64 a0.1, .osl 0], .int .i64 a1] [] ⟨1, false, [(0, .row false 3 [.int .i64] a0.2)]⟩ (fun v st => outK ct.ob (γ0 ct) ct.outs v st .ok) (fun e st => outP ct.ob (γ0 ct) ct.outs e st .ok) = S k a0 a1 := by kernel_rfl
theorem ok (k : Nat) : FnOkC Tryz.prog 30 ct (fun (x : (Int × List Int) × Int) (_ : Unit) => S k x.1 x.2) :=
 FnOkC.of_ev (C := ct) tab_ok rfl (calOf_ok (cal_ok k)) mixed Tryz.func30 nt k (fun _ _ => rfl) (fun (x : (Int × List Int) × Int) (_ : Unit) => eq k x.1 x.2)
theorem hd {T : Type} (k : Nat) : HdOk Tryz.prog 30 (pureC (T := T) ct [] (fun (x : (Int × List Int) × Int) (_ : Unit) => S k x.1 x.2)) :=
 pureC_ok rfl [] (ok k) Tryz.call30
end F_aqueductref20_Has
namespace F_aqueductref06_num
noncomputable def ct : Ct := ⟨.some (.cons (.leaf .str) (.one (.leaf (.int .i64)) [])), [], [⟨.val (.leaf (.int .i64)), [], []⟩]⟩
noncomputable def nt : Notes := ⟨[], [], [(1, [0, 1, 2, 3, 4, 5, 6, 7, 8, 9, 10, 11])], [], []⟩
noncomputable def cal0 {T : Type} (k : Nat) : List (FuncId × Hd T) := []
theorem cal0_ok {T : Type} (k : Nat) : HdsOk Tryz.prog (cal0 (T := T) k) := trivial
noncomputable def cal {T : Type} (k : Nat) : List (FuncId × Hd T) := cal0 k
theorem cal_ok {T : Type} (k : Nat) : HdsOk Tryz.prog (cal (T := T) k) := cal0_ok k
noncomputable def S (k : Nat) (a0 : ByteArray) (a1 : Int) : O Int :=
  O.chk (decide (0 ≤ a1 ∧ a1 < (ByteArray.size a0 : Int))) (
   O.chk (decide (0 ≤ (IntKind.i64.wrap (a1 + (1 : Int))) ∧ (IntKind.i64.wrap (a1 + (1 : Int))) < (ByteArray.size a0 : Int))) (
    .ok (IntKind.i64.wrap ((IntKind.i64.wrap ((256 : Int) * (IntKind.i64.wrap (bt a0 a1)))) + (IntKind.i64.wrap (bt a0 (IntKind.i64.wrap (a1 + (1 : Int)))))))))
theorem eq (k : Nat) (a0 : ByteArray) (a1 : Int) : evFn (T := Int) tab (calOf (cal k)) Go.Proofs.Tryz.f78 nt k 0 [.str a0, .int .i64 a1] [] ⟨0, false, []⟩ (fun v st => outK ct.ob (γ0 ct) ct.outs v st .ok) (fun e st => outP ct.ob (γ0 ct) ct.outs e st .ok) = S k a0 a1 := by kernel_rfl
theorem ok (k : Nat) : FnOkC Tryz.prog 78 ct (fun (x : ByteArray × Int) (_ : Unit) => S k x.1 x.2) :=
 FnOkC.of_ev (C := ct) tab_ok rfl (calOf_ok (cal_ok k)) mixed Tryz.func78 nt k (fun _ _ => rfl) (fun (x : ByteArray × Int) (_ : Unit) => eq k x.1 x.2)
theorem hd {T : Type} (k : Nat) : HdOk Tryz.prog 78 (pureC (T := T) ct [] (fun (x : ByteArray × Int) (_ : Unit) => S k x.1 x.2)) :=
 pureC_ok rfl [] (ok k) Tryz.call78
end F_aqueductref06_num
namespace F_aqueductref06_kind
noncomputable def ct : Ct := ⟨.some (.one (.leaf (.int .i64)) []), [], [⟨.val (.leaf .bool), [], []⟩]⟩
noncomputable def nt : Notes := ⟨[], [], [], [], []⟩
noncomputable def cal0 {T : Type} (k : Nat) : List (FuncId × Hd T) := []
theorem cal0_ok {T : Type} (k : Nat) : HdsOk Tryz.prog (cal0 (T := T) k) := trivial
noncomputable def cal {T : Type} (k : Nat) : List (FuncId × Hd T) := cal0 k
theorem cal_ok {T : Type} (k : Nat) : HdsOk Tryz.prog (cal (T := T) k) := cal0_ok k
noncomputable def S (k : Nat) (a0 : Int) : O Bool :=
  O.cond (decide (a0 ≥ (1536 : Int))) (
   O.cond (decide (a0 ≤ (65535 : Int))) (
    .ok (decide (a0 ≠ (33024 : Int)))) (
    .ok false)) (
   .ok false)
theorem eq (k : Nat) (a0 : Int) : evFn (T := Bool) tab (calOf (cal k)) Go.Proofs.Tryz.f79 nt k 0 [.int .i64 a0] [] ⟨0, false, []⟩ (fun v st => outK ct.ob (γ0 ct) ct.outs v st .ok) (fun e st => outP ct.ob (γ0 ct) ct.outs e st .ok) = S k a0 := by kernel_rfl
theorem ok (k : Nat) : FnOkC Tryz.prog 79 ct (fun (x : Int) (_ : Unit) => S k x) :=
 FnOkC.of_ev (C := ct) tab_ok rfl (calOf_ok (cal_ok k)) mixed Tryz.func79 nt k (fun _ _ => rfl) (fun (x : Int) (_ : Unit) => eq k x)
theorem hd {T : Type} (k : Nat) : HdOk Tryz.prog 79 (pureC (T := T) ct [] (fun (x : Int) (_ : Unit) => S k x)) :=
 pureC_ok rfl [] (ok k) Tryz.call79
end F_aqueductref06_kind
namespace F_aqueductref06_Parse
noncomputable def ct : Ct := ⟨.some (.one (.leaf .str) []), [], [⟨.tup (.cons (.agg (.cons (.leaf .str) (.cons (.leaf .str) (.cons (.leaf (.int .i64)) (.cons (.leaf (.int .i64)) (.cons (.leaf (.int .i64)) (.one (.leaf .str) []))))))) (.one (.leaf (.int .i64)) [])), [], []⟩]⟩
noncomputable def nt : Notes := ⟨[], [(6, ⟨[0, 2, 4], []⟩)], [(5, [0, 1, 2, 3, 4, 6, 7, 5, 8, 9, 10]), (10, [0, 1, 2, 3, 4, 5, 6, 7, 8, 10, 11, 9, 12, 13])], [], []⟩
noncomputable def cal0 {T : Type} (k : Nat) : List (FuncId × Hd T) := [(78, pureC F_aqueductref06_num.ct [] (fun (x : ByteArray × Int) (_ : Unit) => F_aqueductref06_num.S k x.1 x.2)), (79, pureC F_aqueductref06_kind.ct [] (fun (x : Int) (_ : Unit) => F_aqueductref06_kind.S k x))]
theorem cal0_ok {T : Type} (k : Nat) : HdsOk Tryz.prog (cal0 (T := T) k) := ⟨F_aqueductref06_num.hd k, F_aqueductref06_kind.hd k, trivial⟩
noncomputable def cal {T : Type} (k : Nat) : List (FuncId × Hd T) := cal0 k
theorem cal_ok {T : Type} (k : Nat) : HdsOk Tryz.prog (cal (T := T) k) := cal0_ok k
noncomputable abbrev ca (k : Nat) (Rs : List (Fr → St → O TY21)) (ds : List Dir) : Fr → St → O TY21 := codeAt tab (calOf (cal k)) Go.Proofs.Tryz.f58.ntmps nt k Rs ds (bodyOf Go.Proofs.Tryz.f58) (finK tab Go.Proofs.Tryz.f58.results.toList (fun v st => outK ct.ob (γ0 ct) ct.outs v st .ok) (fun e st => outP ct.ob (γ0 ct) ct.outs e st .ok))
noncomputable abbrev zj3 {α : Type} (X : Fr → St → α) (a0 : ByteArray) (v3 : Int) : α := X ⟨[(0, .str a0), (2, .ptr 0 0), (4, .ptr 1 0)], [], 0, []⟩ ⟨2, true, [(0, .cells 68 [.str ByteArray.empty, .str ByteArray.empty, .int .i64 (0 : Int), .int .i64 (0 : Int), .int .i64 (0 : Int), .str ByteArray.empty]), (1, .cells 68 [.str (ByteArray.extract a0 0 6), .str (ByteArray.extract a0 6 12), .int .i64 (-1 : Int), .int .i64 (0 : Int), .int .i64 v3, .str (ByteArray.extract a0 14 (ByteArray.size a0))])]⟩
noncomputable def j3_b (k : Nat) (a0 : ByteArray) (v3 : Int) : O TY21 :=
  O.cond (decide (v3 = (33024 : Int))) (
   O.cond (decide ((ByteArray.size a0 : Int) < (18 : Int))) (
    .ok ((ByteArray.empty, ByteArray.empty, (0 : Int), (0 : Int), (0 : Int), ByteArray.empty), (60 : Int))) (
    O.bind (F_aqueductref06_num.S k a0 (14 : Int)) fun r5 =>
    O.chk (decide (0 ≤ (6 : Int) ∧ (6 : Int) ≤ (ByteArray.size a0 : Int))) (
     O.chk (decide (0 ≤ (6 : Int) ∧ (6 : Int) ≤ (12 : Int) ∧ (12 : Int) ≤ (ByteArray.size a0 : Int))) (
      O.chk (decide (0 ≤ (18 : Int) ∧ (18 : Int) ≤ (ByteArray.size a0 : Int))) (
       O.bind (F_aqueductref06_num.S k a0 (16 : Int)) fun r6 =>
       O.cond (decide ((Int.tmod (IntKind.i64.wrap (Int.tdiv r5 (4096 : Int))) (2 : Int)) = (1 : Int))) (
        .ok ((ByteArray.empty, ByteArray.empty, (0 : Int), (0 : Int), (0 : Int), ByteArray.empty), (61 : Int))) (
        O.cond (decide ((Int.tmod r5 (4096 : Int)) = (4095 : Int))) (
         .ok ((ByteArray.empty, ByteArray.empty, (0 : Int), (0 : Int), (0 : Int), ByteArray.empty), (61 : Int))) (
         O.bind (F_aqueductref06_kind.S k r6) fun r7 =>
         O.cond (!r7) (
          .ok ((ByteArray.empty, ByteArray.empty, (0 : Int), (0 : Int), (0 : Int), ByteArray.empty), (61 : Int))) (
          .ok (((ByteArray.extract a0 0 6), (ByteArray.extract a0 6 12), (Int.tmod r5 (4096 : Int)), (IntKind.i64.wrap (Int.tdiv r5 (8192 : Int))), r6, (ByteArray.extract a0 18 (ByteArray.size a0))), (0 : Int)))))))))) (
   O.bind (F_aqueductref06_kind.S k v3) fun r8 =>
   O.cond (!r8) (
    .ok ((ByteArray.empty, ByteArray.empty, (0 : Int), (0 : Int), (0 : Int), ByteArray.empty), (61 : Int))) (
    .ok (((ByteArray.extract a0 0 6), (ByteArray.extract a0 6 12), (-1 : Int), (0 : Int), v3, (ByteArray.extract a0 14 (ByteArray.size a0))), (0 : Int))))
noncomputable def j3 (k : Nat) (a0 : ByteArray) (v3 : Int) : O TY21 := j3_b k a0 v3
theorem j3_eq (k : Nat) (a0 : ByteArray) (v3 : Int) : zj3 (ca k [] [.r, .r, .r, .r]) a0 v3 = j3 k a0 v3 := by
  have h : zj3 (ca k [] [.r, .r, .r, .r]) a0 v3 = j3_b k a0 v3 := (codeAt_eq _ _ _ _ _ _ _ _ _ _ _).trans (by show _ = _; kernel_rfl)
  exact h.trans (by rfl)
noncomputable def top (k : Nat) (a0 : ByteArray) (D_j3 : Int → O TY21) : O TY21 :=
  O.cond (decide ((ByteArray.size a0 : Int) > (1518 : Int))) (
   .ok ((ByteArray.empty, ByteArray.empty, (0 : Int), (0 : Int), (0 : Int), ByteArray.empty), (61 : Int))) (
   O.cond (decide ((ByteArray.size a0 : Int) < (14 : Int))) (
    .ok ((ByteArray.empty, ByteArray.empty, (0 : Int), (0 : Int), (0 : Int), ByteArray.empty), (60 : Int))) (
    O.chk (decide (0 ≤ (6 : Int) ∧ (6 : Int) ≤ (ByteArray.size a0 : Int))) (
     O.chk (decide (0 ≤ (6 : Int) ∧ (6 : Int) ≤ (12 : Int) ∧ (12 : Int) ≤ (ByteArray.size a0 : Int))) (
      O.chk (decide (0 ≤ (14 : Int) ∧ (14 : Int) ≤ (ByteArray.size a0 : Int))) (
       O.twice (
        O.bind (F_aqueductref06_num.S k a0 (12 : Int)) fun r4 =>
        D_j3 r4))))))
noncomputable def S (k : Nat) (a0 : ByteArray) : O TY21 := top k a0 ((fun (v3 : Int) => j3 k a0 v3))
theorem eq (k : Nat) (a0 : ByteArray) : evFn (T := TY20 × Int) tab (calOf (cal k)) Go.Proofs.Tryz.f58 nt k 0 [.str a0] [] ⟨0, false, []⟩ (fun v st => outK ct.ob (γ0 ct) ct.outs v st .ok) (fun e st => outP ct.ob (γ0 ct) ct.outs e st .ok) = S k a0 := by
 have e0 : (fun (v3 : Int) => zj3 (ca k [] [.r, .r, .r, .r]) a0 v3) = (fun (v3 : Int) => j3 k a0 v3) := by funext v3; exact j3_eq k a0 v3
 have h : evFn (T := TY20 × Int) tab (calOf (cal k)) Go.Proofs.Tryz.f58 nt k 0 [.str a0] [] ⟨0, false, []⟩ (fun v st => outK ct.ob (γ0 ct) ct.outs v st .ok) (fun e st => outP ct.ob (γ0 ct) ct.outs e st .ok) = top k a0 ((fun (v3 : Int) => zj3 (ca k [] [.r, .r, .r, .r]) a0 v3)) := by kernel_rfl
 exact h.trans (by rw [e0]; rfl)
theorem ok (k : Nat) : FnOkC Tryz.prog 58 ct (fun (x : ByteArray) (_ : Unit) => S k x) :=
 FnOkC.of_ev (C := ct) tab_ok rfl (calOf_ok (cal_ok k)) mixed Tryz.func58 nt k (fun _ _ => rfl) (fun (x : ByteArray) (_ : Unit) => eq k x)
theorem hd {T : Type} (k : Nat) : HdOk Tryz.prog 58 (pureC (T := T) ct [] (fun (x : ByteArray) (_ : Unit) => S k x)) :=
 pureC_ok rfl [] (ok k) Tryz.call58
end F_aqueductref06_Parse
namespace F_aqueductref01_Put
noncomputable def ct : Ct := ⟨.some (.cons (.leaf (.int .u64)) (.cons (.leaf (.int .i64)) (.one (.leaf .bool) []))), [], [⟨.tup (.cons (.leaf .str) (.one (.leaf (.int .i64)) [])), [], []⟩]⟩
noncomputable def nt : Notes := ⟨[(5, ⟨[0, 1, 2, 8, 9, 10], []⟩)], [], [], [], []⟩
noncomputable def cal0 {T : Type} (k : Nat) : List (FuncId × Hd T) := []
theorem cal0_ok {T : Type} (k : Nat) : HdsOk Tryz.prog (cal0 (T := T) k) := trivial
noncomputable def cal {T : Type} (k : Nat) : List (FuncId × Hd T) := cal0 k
theorem cal_ok {T : Type} (k : Nat) : HdsOk Tryz.prog (cal (T := T) k) := cal0_ok k
noncomputable abbrev la (k : Nat) (Rs : List (Fr → St → O (ByteArray × Int))) (ds : List Dir) (j : Nat) : Fr → St → O (ByteArray × Int) := loopAt tab (calOf (cal k)) Go.Proofs.Tryz.f94.ntmps nt k Rs ds (bodyOf Go.Proofs.Tryz.f94) (finK tab Go.Proofs.Tryz.f94.results.toList (fun v st => outK ct.ob (γ0 ct) ct.outs v st .ok) (fun e st => outP ct.ob (γ0 ct) ct.outs e st .ok)) j
noncomputable abbrev zl0 {α : Type} (X : Fr → St → α) (a1 : Int) (a2 : Bool) (v1 : Int) (v2 : ByteArray) (v3 : ByteArray) (v4 : Int) : α := X ⟨[(0, .int .u64 v1), (1, .int .i64 a1), (2, .bool a2), (8, .str v2), (9, .str v3), (10, .int .i64 v4)], [], 0, []⟩ ⟨0, true, []⟩
noncomputable def l0_b (k : Nat) (a1 : Int) (a2 : Bool) (R_l0 : Int → ByteArray → ByteArray → Int → O (ByteArray × Int)) (v1 : Int) (v2 : ByteArray) (v3 : ByteArray) (v4 : Int) : O (ByteArray × Int) :=
  O.cond (decide (v4 < a1)) (
   O.chk (decide (((ByteArray.size v2 + ByteArray.size (Go.Aq.strOf [(IntKind.u8.wrap (Int.tmod v1 (256 : Int)))]) : Nat) : Int) ≤ 9223372036854775807)) (
    O.chk (decide (((ByteArray.size (Go.Aq.strOf [(IntKind.u8.wrap (Int.tmod v1 (256 : Int)))]) + ByteArray.size v3 : Nat) : Int) ≤ 9223372036854775807)) (
     R_l0 (IntKind.u64.wrap (Int.tdiv v1 (256 : Int))) (v2 ++ (Go.Aq.strOf [(IntKind.u8.wrap (Int.tmod v1 (256 : Int)))])) ((Go.Aq.strOf [(IntKind.u8.wrap (Int.tmod v1 (256 : Int)))]) ++ v3) (IntKind.i64.wrap (v4 + (1 : Int)))))) (
   O.cond (decide (v1 > (0 : Int))) (
    .ok ((⟨#[]⟩ : ByteArray), (1 : Int))) (
    O.cond a2 (
     .ok (v3, (0 : Int))) (
     .ok (v2, (0 : Int)))))
noncomputable def l0 (k : Nat) (a1 : Int) (a2 : Bool) : Nat → Int → ByteArray → ByteArray → Int → O (ByteArray × Int)
 | 0, _, _, _, _ => .no
 | j + 1, v1, v2, v3, v4 => l0_b k a1 a2 (l0 k a1 a2 j) v1 v2 v3 v4
theorem l0_eq (k : Nat) (a1 : Int) (a2 : Bool) : ∀ (j : Nat) (v1 : Int) (v2 : ByteArray) (v3 : ByteArray) (v4 : Int), zl0 (la k [] [.r, .r, .r, .l, .r, .b] j) a1 a2 v1 v2 v3 v4 = l0 k a1 a2 j v1 v2 v3 v4 := by
 intro j
 induction j with
 | zero => intro v1 v2 v3 v4; rfl
 | succ j ih =>
  intro v1 v2 v3 v4
  have rs : (fun (v1' : Int) (v2' : ByteArray) (v3' : ByteArray) (v4' : Int) => zl0 (la k [] [.r, .r, .r, .l, .r, .b] j) a1 a2 v1' v2' v3' v4') = l0 k a1 a2 j := by funext v1' v2' v3' v4'; exact ih v1' v2' v3' v4'
  have h : zl0 (la k [] [.r, .r, .r, .l, .r, .b] (j + 1)) a1 a2 v1 v2 v3 v4 = l0_b k a1 a2 ((fun (v1' : Int) (v2' : ByteArray) (v3' : ByteArray) (v4' : Int) => zl0 (la k [] [.r, .r, .r, .l, .r, .b] j) a1 a2 v1' v2' v3' v4')) v1 v2 v3 v4 := by kernel_rfl
  exact h.trans (by rw [rs]; rfl)
noncomputable def top (k : Nat) (a0 : Int) (a1 : Int) (a2 : Bool) (D_l0 : Int → ByteArray → ByteArray → Int → O (ByteArray × Int)) : O (ByteArray × Int) :=
  O.cond (decide (a1 < (1 : Int))) (
   .ok ((⟨#[]⟩ : ByteArray), (1 : Int))) (
   O.cond (decide (a1 > (8 : Int))) (
    .ok ((⟨#[]⟩ : ByteArray), (1 : Int))) (
    D_l0 a0 (⟨#[]⟩ : ByteArray) (⟨#[]⟩ : ByteArray) (0 : Int)))
noncomputable def S (k : Nat) (a0 : Int) (a1 : Int) (a2 : Bool) : O (ByteArray × Int) := top k a0 a1 a2 ((fun (v1 : Int) (v2 : ByteArray) (v3 : ByteArray) (v4 : Int) => l0 k a1 a2 k v1 v2 v3 v4))
theorem eq (k : Nat) (a0 : Int) (a1 : Int) (a2 : Bool) : evFn (T := ByteArray × Int) tab (calOf (cal k)) Go.Proofs.Tryz.f94 nt k 0 [.int .u64 a0, .int .i64 a1, .bool a2] [] ⟨0, false, []⟩ (fun v st => outK ct.ob (γ0 ct) ct.outs v st .ok) (fun e st => outP ct.ob (γ0 ct) ct.outs e st .ok) = S k a0 a1 a2 := by
 have e0 : (fun (v1 : Int) (v2 : ByteArray) (v3 : ByteArray) (v4 : Int) => zl0 (la k [] [.r, .r, .r, .l, .r, .b] k) a1 a2 v1 v2 v3 v4) = (fun (v1 : Int) (v2 : ByteArray) (v3 : ByteArray) (v4 : Int) => l0 k a1 a2 k v1 v2 v3 v4) := by funext v1 v2 v3 v4; exact l0_eq k a1 a2 k v1 v2 v3 v4
 have h : evFn (T := ByteArray × Int) tab (calOf (cal k)) Go.Proofs.Tryz.f94 nt k 0 [.int .u64 a0, .int .i64 a1, .bool a2] [] ⟨0, false, []⟩ (fun v st => outK ct.ob (γ0 ct) ct.outs v st .ok) (fun e st => outP ct.ob (γ0 ct) ct.outs e st .ok) = top k a0 a1 a2 ((fun (v1 : Int) (v2 : ByteArray) (v3 : ByteArray) (v4 : Int) => zl0 (la k [] [.r, .r, .r, .l, .r, .b] k) a1 a2 v1 v2 v3 v4)) := by kernel_rfl
 exact h.trans (by rw [e0]; rfl)
theorem ok (k : Nat) : FnOkC Tryz.prog 94 ct (fun (x : Int × Int × Bool) (_ : Unit) => S k x.1 x.2.1 x.2.2) :=
 FnOkC.of_ev (C := ct) tab_ok rfl (calOf_ok (cal_ok k)) mixed Tryz.func94 nt k (fun _ _ => rfl) (fun (x : Int × Int × Bool) (_ : Unit) => eq k x.1 x.2.1 x.2.2)
theorem hd {T : Type} (k : Nat) : HdOk Tryz.prog 94 (pureC (T := T) ct [] (fun (x : Int × Int × Bool) (_ : Unit) => S k x.1 x.2.1 x.2.2)) :=
 pureC_ok rfl [] (ok k) Tryz.call94
end F_aqueductref01_Put
end Go.Proofs.YtkihcmcaignmkaaGreat
end
section
namespace Go.Proofs.YtkihcmcaignmkaaGreat
open Go.Aq
set_option linter.unusedVariables false
set_option maxRecDepth 100000
namespace F_aqueductref06_two
noncomputable def ct : Ct := ⟨.some (.one (.leaf (.int .i64)) []), [], [⟨.val (.leaf .str), [], []⟩]⟩
noncomputable def nt : Notes := ⟨[], [], [], [], []⟩
noncomputable def cal0 {T : Type} (k : Nat) : List (FuncId × Hd T) := [(94, pureC F_aqueductref01_Put.ct [] (fun (x : Int × Int × Bool) (_ : Unit) => F_aqueductref01_Put.S k x.1 x.2.1 x.2.2))]
theorem cal0_ok {T : Type} (k : Nat) : HdsOk Tryz.prog (cal0 (T := T) k) := ⟨F_aqueductref01_Put.hd k, trivial⟩
noncomputable def cal {T : Type} (k : Nat) : List (FuncId × Hd T) := cal0 k
theorem cal_ok {T : Type} (k : Nat) : HdsOk Tryz.prog (cal (T := T) k) := cal0_ok k
noncomputable def S (k : Nat) (a0 : Int) : O ByteArray :=
 O.bind (F_aqueductref01_Put.S k (IntKind.u64.wrap a0) (2 : Int) true) fun r1 =>
 .ok r1.1
theorem eq (k : Nat) (a0 : Int) : evFn (T := ByteArray) tab (calOf (cal k)) Go.Proofs.Tryz.f89 nt k 0 [.int .i64 a0] [] ⟨0, false, []⟩ (fun v st => outK ct.ob (γ0 ct) ct.outs v st .ok) (fun e st => outP ct.ob (γ0 ct) ct.outs e st .ok) = S k a0 := by kernel_rfl
theorem ok (k : Nat) : FnOkC Tryz.prog 89 ct (fun (x : Int) (_ : Unit) => S k x) :=
 FnOkC.of_ev (C := ct) tab_ok rfl (calOf_ok (cal_ok k)) mixed Tryz.func89 nt k (fun _ _ => rfl) (fun (x : Int) (_ : Unit) => eq k x)
theorem hd {T : Type} (k : Nat) : HdOk Tryz.prog 89 (pureC (T := T) ct [] (fun (x : Int) (_ : Unit) => S k x)) :=
 pureC_ok rfl [] (ok k) Tryz.call89
end F_aqueductref06_two
namespace F_aqueductref06_Build
noncomputable def ct : Ct := ⟨.some (.one (.agg (.cons (.leaf .str) (.cons (.leaf .str) (.cons (.leaf (.int .i64)) (.cons (.leaf (.int .i64)) (.cons (.leaf (.int .i64)) (.one (.leaf .str) []))))))) []), [], [⟨.tup (.cons (.leaf .str) (.one (.leaf (.int .i64)) [])), [], []⟩]⟩
noncomputable def nt : Notes := ⟨[], [], [(5, [0, 2, 3, 4, 5, 6, 7, 1, 8, 9, 10, 11])], [], []⟩
noncomputable def cal0 {T : Type} (k : Nat) : List (FuncId × Hd T) := [(79, pureC F_aqueductref06_kind.ct [] (fun (x : Int) (_ : Unit) => F_aqueductref06_kind.S k x)), (89, pureC F_aqueductref06_two.ct [] (fun (x : Int) (_ : Unit) => F_aqueductref06_two.S k x))]
theorem cal0_ok {T : Type} (k : Nat) : HdsOk Tryz.prog (cal0 (T := T) k) := ⟨F_aqueductref06_kind.hd k, F_aqueductref06_two.hd k, trivial⟩
noncomputable def cal {T : Type} (k : Nat) : List (FuncId × Hd T) := cal0 k
theorem cal_ok {T : Type} (k : Nat) : HdsOk Tryz.prog (cal (T := T) k) := cal0_ok k
noncomputable def S (k : Nat) (a0 : ByteArray × ByteArray × Int × Int × Int × ByteArray) : O (ByteArray × Int) :=
  O.cond (decide ((ByteArray.size a0.1 : Int) ≠ (6 : Int))) (
   .ok ((⟨#[]⟩ : ByteArray), (61 : Int))) (
   O.cond (decide ((ByteArray.size a0.2.1 : Int) ≠ (6 : Int))) (
    .ok ((⟨#[]⟩ : ByteArray), (61 : Int))) (
    O.cond (decide (a0.2.2.1 < (-1 : Int))) (
     .ok ((⟨#[]⟩ : ByteArray), (61 : Int))) (
     O.cond (decide (a0.2.2.1 > (4094 : Int))) (
      .ok ((⟨#[]⟩ : ByteArray), (61 : Int))) (
      O.cond (decide (a0.2.2.2.1 < (0 : Int))) (
       .ok ((⟨#[]⟩ : ByteArray), (61 : Int))) (
       O.cond (decide (a0.2.2.2.1 > (7 : Int))) (
        .ok ((⟨#[]⟩ : ByteArray), (61 : Int))) (
        O.bind (F_aqueductref06_kind.S k a0.2.2.2.2.1) fun r2 =>
        O.cond (!r2) (
         .ok ((⟨#[]⟩ : ByteArray), (61 : Int))) (
         O.chk (decide (((ByteArray.size a0.1 + ByteArray.size a0.2.1 : Nat) : Int) ≤ 9223372036854775807)) (
          O.cond (decide (a0.2.2.1 ≥ (0 : Int))) (
           O.bind (F_aqueductref06_two.S k (33024 : Int)) fun r3 =>
           O.bind (F_aqueductref06_two.S k (IntKind.i64.wrap ((IntKind.i64.wrap ((8192 : Int) * a0.2.2.2.1)) + a0.2.2.1))) fun r4 =>
           O.chk (decide (((ByteArray.size r3 + ByteArray.size r4 : Nat) : Int) ≤ 9223372036854775807)) (
            O.chk (decide (((ByteArray.size (a0.1 ++ a0.2.1) + ByteArray.size (r3 ++ r4) : Nat) : Int) ≤ 9223372036854775807)) (
             O.bind (F_aqueductref06_two.S k a0.2.2.2.2.1) fun r5 =>
             O.chk (decide (((ByteArray.size ((a0.1 ++ a0.2.1) ++ (r3 ++ r4)) + ByteArray.size r5 : Nat) : Int) ≤ 9223372036854775807)) (
              O.cond (decide ((ByteArray.size a0.2.2.2.2.2 : Int) > (IntKind.i64.wrap ((1518 : Int) - (ByteArray.size (((a0.1 ++ a0.2.1) ++ (r3 ++ r4)) ++ r5) : Int))))) (
               .ok ((⟨#[]⟩ : ByteArray), (61 : Int))) (
               O.chk (decide (((ByteArray.size (((a0.1 ++ a0.2.1) ++ (r3 ++ r4)) ++ r5) + ByteArray.size a0.2.2.2.2.2 : Nat) : Int) ≤ 9223372036854775807)) (
                .ok (((((a0.1 ++ a0.2.1) ++ (r3 ++ r4)) ++ r5) ++ a0.2.2.2.2.2), (0 : Int)))))))) (
           O.cond (decide (a0.2.2.2.1 > (0 : Int))) (
            .ok ((⟨#[]⟩ : ByteArray), (61 : Int))) (
            O.bind (F_aqueductref06_two.S k a0.2.2.2.2.1) fun r6 =>
            O.chk (decide (((ByteArray.size (a0.1 ++ a0.2.1) + ByteArray.size r6 : Nat) : Int) ≤ 9223372036854775807)) (
             O.cond (decide ((ByteArray.size a0.2.2.2.2.2 : Int) > (IntKind.i64.wrap ((1518 : Int) - (ByteArray.size ((a0.1 ++ a0.2.1) ++ r6) : Int))))) (
              .ok ((⟨#[]⟩ : ByteArray), (61 : Int))) (
              O.chk (decide (((ByteArray.size ((a0.1 ++ a0.2.1) ++ r6) + ByteArray.size a0.2.2.2.2.2 : Nat) : Int) ≤ 9223372036854775807)) (
               .ok ((((a0.1 ++ a0.2.1) ++ r6) ++ a0.2.2.2.2.2), (0 : Int)))))))))))))))
theorem eq (k : Nat) (a0 : ByteArray × ByteArray × Int × Int × Int × ByteArray) : evFn (T := ByteArray × Int) tab (calOf (cal k)) Go.Proofs.Tryz.f80 nt k 0 [.agg [.str a0.1, .str a0.2.1, .int .i64 a0.2.2.1, .int .i64 a0.2.2.2.1, .int .i64 a0.2.2.2.2.1, .str a0.2.2.2.2.2]] [] ⟨0, false, []⟩ (fun v st => outK ct.ob (γ0 ct) ct.outs v st .ok) (fun e st => outP ct.ob (γ0 ct) ct.outs e st .ok) = S k a0 := by kernel_rfl
theorem ok (k : Nat) : FnOkC Tryz.prog 80 ct (fun (x : ByteArray × ByteArray × Int × Int × Int × ByteArray) (_ : Unit) => S k x) :=
 FnOkC.of_ev (C := ct) tab_ok rfl (calOf_ok (cal_ok k)) mixed Tryz.func80 nt k (fun _ _ => rfl) (fun (x : ByteArray × ByteArray × Int × Int × Int × ByteArray) (_ : Unit) => eq k x)
theorem hd {T : Type} (k : Nat) : HdOk Tryz.prog 80 (pureC (T := T) ct [] (fun (x : ByteArray × ByteArray × Int × Int × Int × ByteArray) (_ : Unit) => S k x)) :=
 pureC_ok rfl [] (ok k) Tryz.call80
end F_aqueductref06_Build
namespace F_aqueductref06_Tag
noncomputable def ct : Ct := ⟨.some (.cons (.leaf .str) (.one (.leaf (.int .i64)) [])), [], [⟨.tup (.cons (.leaf .str) (.one (.leaf (.int .i64)) [])), [], []⟩]⟩
noncomputable def nt : Notes := ⟨[], [], [], [], []⟩
noncomputable def cal0 {T : Type} (k : Nat) : List (FuncId × Hd T) := [(58, pureC F_aqueductref06_Parse.ct [] (fun (x : ByteArray) (_ : Unit) => F_aqueductref06_Parse.S k x)), (80, pureC F_aqueductref06_Build.ct [] (fun (x : ByteArray × ByteArray × Int × Int × Int × ByteArray) (_ : Unit) => F_aqueductref06_Build.S k x))]
theorem cal0_ok {T : Type} (k : Nat) : HdsOk Tryz.prog (cal0 (T := T) k) := ⟨F_aqueductref06_Parse.hd k, F_aqueductref06_Build.hd k, trivial⟩
noncomputable def cal {T : Type} (k : Nat) : List (FuncId × Hd T) := cal0 k
theorem cal_ok {T : Type} (k : Nat) : HdsOk Tryz.prog (cal (T := T) k) := cal0_ok k
noncomputable def S (k : Nat) (a0 : ByteArray) (a1 : Int) : O (ByteArray × Int) :=
  O.bind (F_aqueductref06_Parse.S k a0) fun r1 =>
  O.cond (decide (r1.2 ≠ (0 : Int))) (
   .ok ((⟨#[]⟩ : ByteArray), r1.2)) (
   O.cond (decide (a1 = (-1 : Int))) (
    O.bind (F_aqueductref06_Build.S k (r1.1.1, r1.1.2.1, a1, (0 : Int), r1.1.2.2.2.2.1, r1.1.2.2.2.2.2)) fun r2 =>
    .ok r2) (
    O.bind (F_aqueductref06_Build.S k (r1.1.1, r1.1.2.1, a1, r1.1.2.2.2.1, r1.1.2.2.2.2.1, r1.1.2.2.2.2.2)) fun r3 =>
    .ok r3))
theorem eq (k : Nat) (a0 : ByteArray) (a1 : Int) : evFn (T := ByteArray × Int) tab (calOf (cal k)) Go.Proofs.Tryz.f63 nt k 0 [.str a0, .int .i64 a1] [] ⟨0, false, []⟩ (fun v st => outK ct.ob (γ0 ct) ct.outs v st .ok) (fun e st => outP ct.ob (γ0 ct) ct.outs e st .ok) = S k a0 a1 := by kernel_rfl
theorem ok (k : Nat) : FnOkC Tryz.prog 63 ct (fun (x : ByteArray × Int) (_ : Unit) => S k x.1 x.2) :=
 FnOkC.of_ev (C := ct) tab_ok rfl (calOf_ok (cal_ok k)) mixed Tryz.func63 nt k (fun _ _ => rfl) (fun (x : ByteArray × Int) (_ : Unit) => eq k x.1 x.2)
theorem hd {T : Type} (k : Nat) : HdOk Tryz.prog 63 (pureC (T := T) ct [] (fun (x : ByteArray × Int) (_ : Unit) => S k x.1 x.2)) :=
 pureC_ok rfl [] (ok k) Tryz.call63
end F_aqueductref06_Tag
namespace F_aqueductref20_Leaves
noncomputable def ct : Ct := ⟨.some (.cons (.agg (.cons (.leaf (.int .i64)) (.one (.row false 3 [.int .i64]) []))) (.cons (.leaf (.int .i64)) (.one (.leaf .str) []))), [], [⟨.tup (.cons (.leaf .str) (.one (.leaf (.int .i64)) [])), [], []⟩]⟩
noncomputable def nt : Notes := ⟨[], [], [], [], []⟩
noncomputable def cal0 {T : Type} (k : Nat) : List (FuncId × Hd T) := [(63, pureC F_aqueductref06_Tag.ct [] (fun (x : ByteArray × Int) (_ : Unit) => F_aqueductref06_Tag.S k x.1 x.2))]
theorem cal0_ok {T : Type} (k : Nat) : HdsOk Tryz.prog (cal0 (T := T) k) := ⟨F_aqueductref06_Tag.hd k, trivial⟩
noncomputable def cal {T : Type} (k : Nat) : List (FuncId × Hd T) := cal0 k
theorem cal_ok {T : Type} (k : Nat) : HdsOk Tryz.prog (cal (T := T) k) := cal0_ok k
noncomputable def S (k : Nat) (a0 : Int × List Int) (a1 : Int) (a2 : ByteArray) : O (ByteArray × Int) :=
  O.cond (decide (a0.1 = a1)) (
   O.bind (F_aqueductref06_Tag.S k a2 (-1 : Int)) fun r1 =>
   .ok r1) (
   O.bind (F_aqueductref06_Tag.S k a2 a1) fun r2 =>
   .ok r2)
theorem eq (k : Nat) (a0 : Int × List Int) (a1 : Int) (a2 : ByteArray) : evFn (T := ByteArray × Int) tab (calOf (cal k)) Go.Proofs.Tryz.f33 nt k 0 [.agg [.int .i64 a0.1, .osl 0], .int .i64 a1, .str a2] [] ⟨1, false, [(0, .row false 3 [.int .i64] a0.2)]⟩ (fun v st => outK ct.ob (γ0 ct) ct.outs v st .ok) (fun e st => outP ct.ob (γ0 ct) ct.outs e st .ok) = S k a0 a1 a2 := by kernel_rfl
theorem ok (k : Nat) : FnOkC Tryz.prog 33 ct (fun (x : (Int × List Int) × Int × ByteArray) (_ : Unit) => S k x.1 x.2.1 x.2.2) :=
 FnOkC.of_ev (C := ct) tab_ok rfl (calOf_ok (cal_ok k)) mixed Tryz.func33 nt k (fun _ _ => rfl) (fun (x : (Int × List Int) × Int × ByteArray) (_ : Unit) => eq k x.1 x.2.1 x.2.2)
theorem hd {T : Type} (k : Nat) : HdOk Tryz.prog 33 (pureC (T := T) ct [] (fun (x : (Int × List Int) × Int × ByteArray) (_ : Unit) => S k x.1 x.2.1 x.2.2)) :=
 pureC_ok rfl [] (ok k) Tryz.call33
end F_aqueductref20_Leaves
namespace F_aqueductref05_Kind
noncomputable def ct : Ct := ⟨.some (.one (.leaf .str) []), [], [⟨.val (.leaf (.int .i64)), [], []⟩]⟩
noncomputable def nt : Notes := ⟨[(5, ⟨[0, 3, 4], []⟩)], [], [], [], []⟩
noncomputable def cal0 {T : Type} (k : Nat) : List (FuncId × Hd T) := []
theorem cal0_ok {T : Type} (k : Nat) : HdsOk Tryz.prog (cal0 (T := T) k) := trivial
noncomputable def cal {T : Type} (k : Nat) : List (FuncId × Hd T) := cal0 k
theorem cal_ok {T : Type} (k : Nat) : HdsOk Tryz.prog (cal (T := T) k) := cal0_ok k
noncomputable abbrev la (k : Nat) (Rs : List (Fr → St → O (Int))) (ds : List Dir) (j : Nat) : Fr → St → O (Int) := loopAt tab (calOf (cal k)) Go.Proofs.Tryz.f59.ntmps nt k Rs ds (bodyOf Go.Proofs.Tryz.f59) (finK tab Go.Proofs.Tryz.f59.results.toList (fun v st => outK ct.ob (γ0 ct) ct.outs v st .ok) (fun e st => outP ct.ob (γ0 ct) ct.outs e st .ok)) j
noncomputable abbrev zl0 {α : Type} (X : Fr → St → α) (a0 : ByteArray) (v1 : Bool) (v2 : Int) : α := X ⟨[(0, .str a0), (3, .bool v1), (4, .int .i64 v2)], [], 0, []⟩ ⟨0, true, []⟩
noncomputable def l0_b (k : Nat) (a0 : ByteArray) (R_l0 : Bool → Int → O Int) (v1 : Bool) (v2 : Int) : O Int :=
  O.cond (decide (v2 < (6 : Int))) (
   O.cond v1 (
    O.chk (decide (0 ≤ v2 ∧ v2 < (ByteArray.size a0 : Int))) (
     R_l0 (decide ((bt a0 v2) = (255 : Int))) (IntKind.i64.wrap (v2 + (1 : Int))))) (
    R_l0 false (IntKind.i64.wrap (v2 + (1 : Int))))) (
   O.cond v1 (
    .ok (3 : Int)) (
    O.chk (decide (0 ≤ (0 : Int) ∧ (0 : Int) < (ByteArray.size a0 : Int))) (
     O.cond (decide ((Int.tmod (IntKind.i64.wrap (bt a0 (0 : Int))) (2 : Int)) = (1 : Int))) (
      .ok (2 : Int)) (
      .ok (1 : Int)))))
noncomputable def l0 (k : Nat) (a0 : ByteArray) : Nat → Bool → Int → O Int
 | 0, _, _ => .no
 | j + 1, v1, v2 => l0_b k a0 (l0 k a0 j) v1 v2
theorem l0_eq (k : Nat) (a0 : ByteArray) : ∀ (j : Nat) (v1 : Bool) (v2 : Int), zl0 (la k [] [.r, .r, .r, .l, .r, .b] j) a0 v1 v2 = l0 k a0 j v1 v2 := by
 intro j
 induction j with
 | zero => intro v1 v2; rfl
 | succ j ih =>
  intro v1 v2
  have rs : (fun (v1' : Bool) (v2' : Int) => zl0 (la k [] [.r, .r, .r, .l, .r, .b] j) a0 v1' v2') = l0 k a0 j := by funext v1' v2'; exact ih v1' v2'
  have h : zl0 (la k [] [.r, .r, .r, .l, .r, .b] (j + 1)) a0 v1 v2 = l0_b k a0 ((fun (v1' : Bool) (v2' : Int) => zl0 (la k [] [.r, .r, .r, .l, .r, .b] j) a0 v1' v2')) v1 v2 := by kernel_rfl
  exact h.trans (by rw [rs]; rfl)
noncomputable def top (k : Nat) (a0 : ByteArray) (D_l0 : Bool → Int → O Int) : O Int :=
  O.cond (decide ((ByteArray.size a0 : Int) ≠ (6 : Int))) (
   .ok (0 : Int)) (
   D_l0 true (0 : Int))
noncomputable def S (k : Nat) (a0 : ByteArray) : O Int := top k a0 ((fun (v1 : Bool) (v2 : Int) => l0 k a0 k v1 v2))
theorem eq (k : Nat) (a0 : ByteArray) : evFn (T := Int) tab (calOf (cal k)) Go.Proofs.Tryz.f59 nt k 0 [.str a0] [] ⟨0, false, []⟩ (fun v st => outK ct.ob (γ0 ct) ct.outs v st .ok) (fun e st => outP ct.ob (γ0 ct) ct.outs e st .ok) = S k a0 := by
 have e0 : (fun (v1 : Bool) (v2 : Int) => zl0 (la k [] [.r, .r, .r, .l, .r, .b] k) a0 v1 v2) = (fun (v1 : Bool) (v2 : Int) => l0 k a0 k v1 v2) := by funext v1 v2; exact l0_eq k a0 k v1 v2
 have h : evFn (T := Int) tab (calOf (cal k)) Go.Proofs.Tryz.f59 nt k 0 [.str a0] [] ⟨0, false, []⟩ (fun v st => outK ct.ob (γ0 ct) ct.outs v st .ok) (fun e st => outP ct.ob (γ0 ct) ct.outs e st .ok) = top k a0 ((fun (v1 : Bool) (v2 : Int) => zl0 (la k [] [.r, .r, .r, .l, .r, .b] k) a0 v1 v2)) := by kernel_rfl
 exact h.trans (by rw [e0]; rfl)
theorem ok (k : Nat) : FnOkC Tryz.prog 59 ct (fun (x : ByteArray) (_ : Unit) => S k x) :=
 FnOkC.of_ev (C := ct) tab_ok rfl (calOf_ok (cal_ok k)) mixed Tryz.func59 nt k (fun _ _ => rfl) (fun (x : ByteArray) (_ : Unit) => eq k x)
theorem hd {T : Type} (k : Nat) : HdOk Tryz.prog 59 (pureC (T := T) ct [] (fun (x : ByteArray) (_ : Unit) => S k x)) :=
 pureC_ok rfl [] (ok k) Tryz.call59
end F_aqueductref05_Kind
namespace F_aqueductref20_Net
noncomputable def ct : Ct := ⟨.some (.cons (.tab false 58 (.cons (.leaf (.int .i64)) (.one (.row false 3 [.int .i64]) []))) (.cons (.leaf (.int .i64)) (.one (.leaf .str) []))), [], [⟨.tup (.cons (.agg (.cons (.leaf .str) (.cons (.leaf .str) (.cons (.leaf (.int .i64)) (.cons (.leaf (.int .i64)) (.cons (.leaf (.int .i64)) (.one (.leaf .str) []))))))) (.cons (.leaf (.int .i64)) (.one (.leaf .bool) []))), [], []⟩]⟩
noncomputable def nt : Notes := ⟨[(7, ⟨[0, 2, 6, 9, 11, 12, 13], []⟩)], [(5, ⟨[0, 2, 6, 9, 10, 11], []⟩), (6, ⟨[0, 2, 6, 9, 11, 12], []⟩)], [], [], []⟩
noncomputable def cal0 {T : Type} (k : Nat) : List (FuncId × Hd T) := [(30, pureC F_aqueductref20_Has.ct [] (fun (x : (Int × List Int) × Int) (_ : Unit) => F_aqueductref20_Has.S k x.1 x.2)), (33, pureC F_aqueductref20_Leaves.ct [] (fun (x : (Int × List Int) × Int × ByteArray) (_ : Unit) => F_aqueductref20_Leaves.S k x.1 x.2.1 x.2.2)), (58, pureC F_aqueductref06_Parse.ct [] (fun (x : ByteArray) (_ : Unit) => F_aqueductref06_Parse.S k x)), (59, pureC F_aqueductref05_Kind.ct [] (fun (x : ByteArray) (_ : Unit) => F_aqueductref05_Kind.S k x))]
theorem cal0_ok {T : Type} (k : Nat) : HdsOk Tryz.prog (cal0 (T := T) k) := ⟨F_aqueductref20_Has.hd k, F_aqueductref20_Leaves.hd k, F_aqueductref06_Parse.hd k, F_aqueductref05_Kind.hd k, trivial⟩
noncomputable def cal {T : Type} (k : Nat) : List (FuncId × Hd T) := cal0 k
theorem cal_ok {T : Type} (k : Nat) : HdsOk Tryz.prog (cal (T := T) k) := cal0_ok k
noncomputable abbrev la (k : Nat) (Rs : List (Fr → St → O TY22)) (ds : List Dir) (j : Nat) : Fr → St → O TY22 := loopAt tab (calOf (cal k)) Go.Proofs.Tryz.f29.ntmps nt k Rs ds (bodyOf Go.Proofs.Tryz.f29) (finK tab Go.Proofs.Tryz.f29.results.toList (fun v st => outK ct.ob (γ0 ct) ct.outs v st .ok) (fun e st => outP ct.ob (γ0 ct) ct.outs e st .ok)) j
noncomputable abbrev ca (k : Nat) (Rs : List (Fr → St → O TY22)) (ds : List Dir) : Fr → St → O TY22 := codeAt tab (calOf (cal k)) Go.Proofs.Tryz.f29.ntmps nt k Rs ds (bodyOf Go.Proofs.Tryz.f29) (finK tab Go.Proofs.Tryz.f29.results.toList (fun v st => outK ct.ob (γ0 ct) ct.outs v st .ok) (fun e st => outP ct.ob (γ0 ct) ct.outs e st .ok))
noncomputable abbrev zj3 {α : Type} (X : Fr → St → α) (a0 : List (Int × List Int)) (a2 : ByteArray) (r2 : TY20 × Int) (v3 : Int) : α := X ⟨[(0, .osl 0), (2, .str a2), (6, .ptr 1 0), (9, .ptr 2 0), (10, .int .i64 r2.2), (11, .int .i64 v3)], [], 0, []⟩ ⟨4, true, [(0, .tab false 58 [] 3 (.cons (.leaf (.int .i64)) (.one (.row false 3 [.int .i64]) [])) a0), (1, .cells 68 [.str ByteArray.empty, .str ByteArray.empty, .int .i64 (0 : Int), .int .i64 (0 : Int), .int .i64 (0 : Int), .str ByteArray.empty]), (2, .cells 68 [.str r2.1.1, .str r2.1.2.1, .int .i64 r2.1.2.2.1, .int .i64 r2.1.2.2.2.1, .int .i64 r2.1.2.2.2.2.1, .str r2.1.2.2.2.2.2]), (3, .ghost)]⟩
noncomputable abbrev zj4 {α : Type} (X : Fr → St → α) (a0 : List (Int × List Int)) (a2 : ByteArray) (r2 : TY20 × Int) (v3 : Int) (v5 : Bool) : α := X ⟨[(0, .osl 0), (2, .str a2), (6, .ptr 1 0), (9, .ptr 2 0), (11, .int .i64 v3), (12, .bool v5)], [], 0, []⟩ ⟨4, true, [(0, .tab false 58 [] 3 (.cons (.leaf (.int .i64)) (.one (.row false 3 [.int .i64]) [])) a0), (1, .cells 68 [.str ByteArray.empty, .str ByteArray.empty, .int .i64 (0 : Int), .int .i64 (0 : Int), .int .i64 (0 : Int), .str ByteArray.empty]), (2, .cells 68 [.str r2.1.1, .str r2.1.2.1, .int .i64 r2.1.2.2.1, .int .i64 r2.1.2.2.2.1, .int .i64 r2.1.2.2.2.2.1, .str r2.1.2.2.2.2.2]), (3, .ghost)]⟩
noncomputable abbrev zl2 {α : Type} (X : Fr → St → α) (a0 : List (Int × List Int)) (a2 : ByteArray) (r2 : TY20 × Int) (v3 : Int) (v8 : Bool) (v9 : Int) : α := X ⟨[(0, .osl 0), (2, .str a2), (6, .ptr 1 0), (9, .ptr 2 0), (11, .int .i64 v3), (12, .bool v8), (13, .int .i64 v9)], [], 0, []⟩ ⟨4, true, [(0, .tab false 58 [] 3 (.cons (.leaf (.int .i64)) (.one (.row false 3 [.int .i64]) [])) a0), (1, .cells 68 [.str ByteArray.empty, .str ByteArray.empty, .int .i64 (0 : Int), .int .i64 (0 : Int), .int .i64 (0 : Int), .str ByteArray.empty]), (2, .cells 68 [.str r2.1.1, .str r2.1.2.1, .int .i64 r2.1.2.2.1, .int .i64 r2.1.2.2.2.1, .int .i64 r2.1.2.2.2.2.1, .str r2.1.2.2.2.2.2]), (3, .ghost)]⟩
noncomputable def l2_b (k : Nat) (a0 : List (Int × List Int)) (a2 : ByteArray) (r2 : TY20 × Int) (v3 : Int) (R_l2 : Bool → Int → O TY22) (v8 : Bool) (v9 : Int) : O TY22 :=
  O.cond (decide (v9 < (List.length a0 : Int))) (
   O.cond (!v8) (
    O.chk (decide (0 ≤ v9 ∧ v9 < (List.length a0 : Int))) (
     O.chk (decide (0 ≤ v9 ∧ v9 < (List.length a0 : Int))) (
      O.bind (F_aqueductref20_Leaves.S k (gt ((0 : Int), []) a0 v9) v3 a2) fun r12 =>
      O.chk (decide (0 ≤ v9 ∧ v9 < (List.length a0 : Int))) (
       O.chk (decide (0 ≤ v9 ∧ v9 < (List.length a0 : Int))) (
        O.bind (F_aqueductref20_Has.S k (gt ((0 : Int), []) a0 v9) v3) fun r13 =>
        O.cond r13 (
         R_l2 (decide (r12.2 ≠ (0 : Int))) (IntKind.i64.wrap (v9 + (1 : Int)))) (
         R_l2 false (IntKind.i64.wrap (v9 + (1 : Int))))))))) (
    .ok (r2.1, v3, v8))) (
   .ok (r2.1, v3, v8))
noncomputable def l2 (k : Nat) (a0 : List (Int × List Int)) (a2 : ByteArray) (r2 : TY20 × Int) (v3 : Int) : Nat → Bool → Int → O TY22
 | 0, _, _ => .no
 | j + 1, v8, v9 => l2_b k a0 a2 r2 v3 (l2 k a0 a2 r2 v3 j) v8 v9
theorem l2_eq (k : Nat) (a0 : List (Int × List Int)) (a2 : ByteArray) (r2 : TY20 × Int) (v3 : Int) : ∀ (j : Nat) (v8 : Bool) (v9 : Int), zl2 (la k [] [.r, .r, .r, .r, .r, .l, .r, .b] j) a0 a2 r2 v3 v8 v9 = l2 k a0 a2 r2 v3 j v8 v9 := by
 intro j
 induction j with
 | zero => intro v8 v9; rfl
 | succ j ih =>
  intro v8 v9
  have rs : (fun (v8' : Bool) (v9' : Int) => zl2 (la k [] [.r, .r, .r, .r, .r, .l, .r, .b] j) a0 a2 r2 v3 v8' v9') = l2 k a0 a2 r2 v3 j := by funext v8' v9'; exact ih v8' v9'
  have h : zl2 (la k [] [.r, .r, .r, .r, .r, .l, .r, .b] (j + 1)) a0 a2 r2 v3 v8 v9 = l2_b k a0 a2 r2 v3 ((fun (v8' : Bool) (v9' : Int) => zl2 (la k [] [.r, .r, .r, .r, .r, .l, .r, .b] j) a0 a2 r2 v3 v8' v9')) v8 v9 := by kernel_rfl
  exact h.trans (by rw [rs]; rfl)
noncomputable def j4_b (k : Nat) (a0 : List (Int × List Int)) (a2 : ByteArray) (r2 : TY20 × Int) (v3 : Int) (D_l2 : Bool → Int → O TY22) (v5 : Bool) : O TY22 :=
 D_l2 v5 (0 : Int)
noncomputable def j4 (k : Nat) (a0 : List (Int × List Int)) (a2 : ByteArray) (r2 : TY20 × Int) (v3 : Int) (v5 : Bool) : O TY22 := j4_b k a0 a2 r2 v3 ((fun (v8 : Bool) (v9 : Int) => l2 k a0 a2 r2 v3 k v8 v9)) v5
theorem j4_eq (k : Nat) (a0 : List (Int × List Int)) (a2 : ByteArray) (r2 : TY20 × Int) (v3 : Int) (v5 : Bool) : zj4 (ca k [] [.r, .r, .r, .r, .r]) a0 a2 r2 v3 v5 = j4 k a0 a2 r2 v3 v5 := by
  have e0 : (fun (v8 : Bool) (v9 : Int) => zl2 (la k [] [.r, .r, .r, .r, .r, .l, .r, .b] k) a0 a2 r2 v3 v8 v9) = (fun (v8 : Bool) (v9 : Int) => l2 k a0 a2 r2 v3 k v8 v9) := by funext v8 v9; exact l2_eq k a0 a2 r2 v3 k v8 v9
  have h : zj4 (ca k [] [.r, .r, .r, .r, .r]) a0 a2 r2 v3 v5 = j4_b k a0 a2 r2 v3 ((fun (v8 : Bool) (v9 : Int) => zl2 (la k [] [.r, .r, .r, .r, .r, .l, .r, .b] k) a0 a2 r2 v3 v8 v9)) v5 := (codeAt_eq _ _ _ _ _ _ _ _ _ _ _).trans (by show _ = _; kernel_rfl)
  exact h.trans (by rw [e0]; rfl)
noncomputable def j3_b (k : Nat) (a0 : List (Int × List Int)) (a2 : ByteArray) (r2 : TY20 × Int) (D_j4 : Int → Bool → O TY22) (v3 : Int) : O TY22 :=
  O.cond (decide (r2.2 ≠ (0 : Int))) (
   D_j4 v3 true) (
   O.bind (F_aqueductref05_Kind.S k r2.1.2.1) fun r14 =>
   D_j4 v3 (decide (r14 ≠ (1 : Int))))
noncomputable def j3 (k : Nat) (a0 : List (Int × List Int)) (a2 : ByteArray) (r2 : TY20 × Int) (v3 : Int) : O TY22 := j3_b k a0 a2 r2 ((fun (v3 : Int) (v5 : Bool) => j4 k a0 a2 r2 v3 v5)) v3
theorem j3_eq (k : Nat) (a0 : List (Int × List Int)) (a2 : ByteArray) (r2 : TY20 × Int) (v3 : Int) : zj3 (ca k [] [.r, .r, .r, .r]) a0 a2 r2 v3 = j3 k a0 a2 r2 v3 := by
  have e0 : (fun (v3 : Int) (v5 : Bool) => zj4 (ca k [] [.r, .r, .r, .r, .r]) a0 a2 r2 v3 v5) = (fun (v3 : Int) (v5 : Bool) => j4 k a0 a2 r2 v3 v5) := by funext v3 v5; exact j4_eq k a0 a2 r2 v3 v5
  have h : zj3 (ca k [] [.r, .r, .r, .r]) a0 a2 r2 v3 = j3_b k a0 a2 r2 ((fun (v3 : Int) (v5 : Bool) => zj4 (ca k [] [.r, .r, .r, .r, .r]) a0 a2 r2 v3 v5)) v3 := (codeAt_eq _ _ _ _ _ _ _ _ _ _ _).trans (by show _ = _; kernel_rfl)
  exact h.trans (by rw [e0]; rfl)
noncomputable def top (k : Nat) (a0 : List (Int × List Int)) (a1 : Int) (a2 : ByteArray) (D_j3 : TY21 → Int → O TY22) : O TY22 :=
  O.bind (F_aqueductref06_Parse.S k a2) fun r2 =>
  O.cond (decide (r2.1.2.2.1 < (0 : Int))) (
   O.chk (decide (0 ≤ a1 ∧ a1 < (List.length a0 : Int))) (
    O.chk (decide (0 ≤ a1 ∧ a1 < (List.length a0 : Int))) (
     D_j3 r2 ((gt ((0 : Int), []) a0 a1).1)))) (
   D_j3 r2 r2.1.2.2.1)
noncomputable def S (k : Nat) (a0 : List (Int × List Int)) (a1 : Int) (a2 : ByteArray) : O TY22 := top k a0 a1 a2 ((fun (r2 : TY20 × Int) (v3 : Int) => j3 k a0 a2 r2 v3))
theorem eq (k : Nat) (a0 : List (Int × List Int)) (a1 : Int) (a2 : ByteArray) : evFn (T := TY20 × Int × Bool) tab (calOf (cal k)) Go.Proofs.Tryz.f29 nt k 0 [.osl 1, .int .i64 a1, .str a2] [] ⟨2, false, [(1, .tab false 58 [] 0 (.cons (.leaf (.int .i64)) (.one (.row false 3 [.int .i64]) [])) a0), (0, .ghost)]⟩ (fun v st => outK ct.ob (γ0 ct) ct.outs v st .ok) (fun e st => outP ct.ob (γ0 ct) ct.outs e st .ok) = S k a0 a1 a2 := by
 have e0 : (fun (r2 : TY20 × Int) (v3 : Int) => zj3 (ca k [] [.r, .r, .r, .r]) a0 a2 r2 v3) = (fun (r2 : TY20 × Int) (v3 : Int) => j3 k a0 a2 r2 v3) := by funext r2 v3; exact j3_eq k a0 a2 r2 v3
 have h : evFn (T := TY20 × Int × Bool) tab (calOf (cal k)) Go.Proofs.Tryz.f29 nt k 0 [.osl 1, .int .i64 a1, .str a2] [] ⟨2, false, [(1, .tab false 58 [] 0 (.cons (.leaf (.int .i64)) (.one (.row false 3 [.int .i64]) [])) a0), (0, .ghost)]⟩ (fun v st => outK ct.ob (γ0 ct) ct.outs v st .ok) (fun e st => outP ct.ob (γ0 ct) ct.outs e st .ok) = top k a0 a1 a2 ((fun (r2 : TY20 × Int) (v3 : Int) => zj3 (ca k [] [.r, .r, .r, .r]) a0 a2 r2 v3)) := by kernel_rfl
 exact h.trans (by rw [e0]; rfl)
theorem ok (k : Nat) : FnOkC Tryz.prog 29 ct (fun (x : TY8 × Int × ByteArray) (_ : Unit) => S k x.1 x.2.1 x.2.2) :=
 FnOkC.of_ev (C := ct) tab_ok rfl (calOf_ok (cal_ok k)) mixed Tryz.func29 nt k (fun _ _ => rfl) (fun (x : TY8 × Int × ByteArray) (_ : Unit) => eq k x.1 x.2.1 x.2.2)
theorem hd {T : Type} (k : Nat) : HdOk Tryz.prog 29 (pureC (T := T) ct [] (fun (x : TY8 × Int × ByteArray) (_ : Unit) => S k x.1 x.2.1 x.2.2)) :=
 pureC_ok rfl [] (ok k) Tryz.call29
end F_aqueductref20_Net
namespace F_aqueductref18_Table_at
noncomputable def ct : Ct := ⟨.some (.pin (.ref 0) (.cons (.leaf (.int .i64)) (.one (.leaf .str) []))), [(53, .cons (.leaf (.int .i64)) (.cons (.leaf (.int .i64)) (.one (.row true 89 [.int .i64, .str, .int .i64, .int .i64]) [])))], [⟨.val (.leaf (.int .i64)), [], []⟩]⟩
noncomputable def nt : Notes := ⟨[(2, ⟨[0, 1, 2, 7], []⟩)], [], [], [], []⟩
noncomputable def cal0 {T : Type} (k : Nat) : List (FuncId × Hd T) := []
theorem cal0_ok {T : Type} (k : Nat) : HdsOk Tryz.prog (cal0 (T := T) k) := trivial
noncomputable def cal {T : Type} (k : Nat) : List (FuncId × Hd T) := cal0 k
theorem cal_ok {T : Type} (k : Nat) : HdsOk Tryz.prog (cal (T := T) k) := cal0_ok k
noncomputable abbrev la (k : Nat) (Rs : List (Fr → St → O TY23)) (ds : List Dir) (j : Nat) : Fr → St → O TY23 := loopAt tab (calOf (cal k)) Go.Proofs.Tryz.f61.ntmps nt k Rs ds (bodyOf Go.Proofs.Tryz.f61) (finK tab Go.Proofs.Tryz.f61.results.toList (fun v st => outK ct.ob (γ0 ct) ct.outs v st .ok) (fun e st => outP ct.ob (γ0 ct) ct.outs e st .ok)) j
noncomputable abbrev zl0 {α : Type} (X : Fr → St → α) (a1 : Int) (a2 : ByteArray) (g0 : Int × Int × TY12) (v1 : Int) : α := X ⟨[(0, .ptr 0 0), (1, .int .i64 a1), (2, .str a2), (7, .int .i64 v1)], [], 1, []⟩ ⟨2, true, [(1, .row true 89 [.int .i64, .str, .int .i64, .int .i64] g0.2.2), (0, .cells 53 [.int .i64 g0.1, .int .i64 g0.2.1, .osl 1])]⟩
noncomputable def l0_b (k : Nat) (a1 : Int) (a2 : ByteArray) (g0 : Int × Int × TY12) (R_l0 : Int → O TY23) (v1 : Int) : O TY23 :=
  O.cond (decide (v1 < (List.length g0.2.2 : Int))) (
   O.chk (decide (0 ≤ v1 ∧ v1 < (List.length g0.2.2 : Int) ∧ (List.length g0.2.2 : Int) ≤ (List.length g0.2.2 : Int))) (
    O.chk (decide (0 ≤ v1 ∧ v1 < (List.length g0.2.2 : Int))) (
     O.cond (decide ((gt ((0 : Int), ByteArray.empty, (0 : Int), (0 : Int)) g0.2.2 v1).1 = a1)) (
      O.chk (decide (0 ≤ v1 ∧ v1 < (List.length g0.2.2 : Int) ∧ (List.length g0.2.2 : Int) ≤ (List.length g0.2.2 : Int))) (
       O.chk (decide (0 ≤ v1 ∧ v1 < (List.length g0.2.2 : Int))) (
        O.cond (decide ((gt ((0 : Int), ByteArray.empty, (0 : Int), (0 : Int)) g0.2.2 v1).2.1 = a2)) (
         .ok (v1, g0)) (
         R_l0 (IntKind.i64.wrap (v1 + (1 : Int))))))) (
      R_l0 (IntKind.i64.wrap (v1 + (1 : Int))))))) (
   .ok ((-1 : Int), g0))
noncomputable def l0 (k : Nat) (a1 : Int) (a2 : ByteArray) (g0 : Int × Int × TY12) : Nat → Int → O TY23
 | 0, _ => .no
 | j + 1, v1 => l0_b k a1 a2 g0 (l0 k a1 a2 g0 j) v1
theorem l0_eq (k : Nat) (a1 : Int) (a2 : ByteArray) (g0 : Int × Int × TY12) : ∀ (j : Nat) (v1 : Int), zl0 (la k [] [.r, .l, .r, .b] j) a1 a2 g0 v1 = l0 k a1 a2 g0 j v1 := by
 intro j
 induction j with
 | zero => intro v1; rfl
 | succ j ih =>
  intro v1
  have rs : (fun (v1' : Int) => zl0 (la k [] [.r, .l, .r, .b] j) a1 a2 g0 v1') = l0 k a1 a2 g0 j := by funext v1'; exact ih v1'
  have h : zl0 (la k [] [.r, .l, .r, .b] (j + 1)) a1 a2 g0 v1 = l0_b k a1 a2 g0 ((fun (v1' : Int) => zl0 (la k [] [.r, .l, .r, .b] j) a1 a2 g0 v1')) v1 := by kernel_rfl
  exact h.trans (by rw [rs]; rfl)
noncomputable def top (k : Nat) (a1 : Int) (a2 : ByteArray) (g0 : Int × Int × TY12) (D_l0 : Int → O TY23) : O TY23 :=
 D_l0 (0 : Int)
noncomputable def S (k : Nat) (a1 : Int) (a2 : ByteArray) (g0 : Int × Int × TY12) : O TY23 := top k a1 a2 g0 ((fun (v1 : Int) => l0 k a1 a2 g0 k v1))
theorem eq (k : Nat) (a1 : Int) (a2 : ByteArray) (g0 : Int × Int × TY12) : evFn (T := Int × Int × Int × TY12) tab (calOf (cal k)) Go.Proofs.Tryz.f61 nt k 1 [.ptr 0 0, .int .i64 a1, .str a2] [] ⟨2, false, [(0, .cells 53 [.int .i64 g0.1, .int .i64 g0.2.1, .osl 1]), (1, .row true 89 [.int .i64, .str, .int .i64, .int .i64] g0.2.2)]⟩ (fun v st => outK ct.ob (γ0 ct) ct.outs v st .ok) (fun e st => outP ct.ob (γ0 ct) ct.outs e st .ok) = S k a1 a2 g0 := by
 have e0 : (fun (v1 : Int) => zl0 (la k [] [.r, .l, .r, .b] k) a1 a2 g0 v1) = (fun (v1 : Int) => l0 k a1 a2 g0 k v1) := by funext v1; exact l0_eq k a1 a2 g0 k v1
 have h : evFn (T := Int × Int × Int × TY12) tab (calOf (cal k)) Go.Proofs.Tryz.f61 nt k 1 [.ptr 0 0, .int .i64 a1, .str a2] [] ⟨2, false, [(0, .cells 53 [.int .i64 g0.1, .int .i64 g0.2.1, .osl 1]), (1, .row true 89 [.int .i64, .str, .int .i64, .int .i64] g0.2.2)]⟩ (fun v st => outK ct.ob (γ0 ct) ct.outs v st .ok) (fun e st => outP ct.ob (γ0 ct) ct.outs e st .ok) = top k a1 a2 g0 ((fun (v1 : Int) => zl0 (la k [] [.r, .l, .r, .b] k) a1 a2 g0 v1)) := by kernel_rfl
 exact h.trans (by rw [e0]; rfl)
theorem ok (k : Nat) : FnOkC Tryz.prog 61 ct (fun (x : Int × ByteArray) (g : Int × Int × TY12) => S k x.1 x.2 g) :=
 FnOkC.of_ev (C := ct) tab_ok rfl (calOf_ok (cal_ok k)) mixed Tryz.func61 nt k (fun _ _ => rfl) (fun (x : Int × ByteArray) (g : Int × Int × TY12) => eq k x.1 x.2 g)
theorem hd {T : Type} (k : Nat) : HdOk Tryz.prog 61 (pureC (T := T) ct [.arg 0 0] (fun (x : Int × ByteArray) (g : Int × Int × TY12) => S k x.1 x.2 g)) :=
 pureC_ok rfl [.arg 0 0] (ok k) Tryz.call61
end F_aqueductref18_Table_at
namespace F_aqueductref18_Table_Learn
noncomputable def ct : Ct := ⟨.some (.pin (.ref 0) (.cons (.leaf (.int .i64)) (.cons (.leaf .str) (.one (.leaf (.int .i64)) [])))), [(53, .cons (.leaf (.int .i64)) (.cons (.leaf (.int .i64)) (.one (.row true 89 [.int .i64, .str, .int .i64, .int .i64]) [])))], [⟨.val (.leaf .bool), [], []⟩]⟩
noncomputable def nt : Notes := ⟨[(8, ⟨[0, 1, 2, 9, 10, 11, 12], []⟩)], [(5, ⟨[0, 1, 2, 3], []⟩)], [(3, [0, 1, 2, 3, 4, 5, 6, 7, 8, 11, 12, 13, 9, 10, 14, 15, 16])], [], [(3, [], [], [42, 47])]⟩
noncomputable def cal0 {T : Type} (k : Nat) : List (FuncId × Hd T) := [(59, pureC F_aqueductref05_Kind.ct [] (fun (x : ByteArray) (_ : Unit) => F_aqueductref05_Kind.S k x)), (61, pureC F_aqueductref18_Table_at.ct [.arg 0 0] (fun (x : Int × ByteArray) (g : Int × Int × TY12) => F_aqueductref18_Table_at.S k x.1 x.2 g))]
theorem cal0_ok {T : Type} (k : Nat) : HdsOk Tryz.prog (cal0 (T := T) k) := ⟨F_aqueductref05_Kind.hd k, F_aqueductref18_Table_at.hd k, trivial⟩
noncomputable def cal {T : Type} (k : Nat) : List (FuncId × Hd T) := cal0 k
theorem cal_ok {T : Type} (k : Nat) : HdsOk Tryz.prog (cal (T := T) k) := cal0_ok k
noncomputable abbrev la (k : Nat) (Rs : List (Fr → St → O TY24)) (ds : List Dir) (j : Nat) : Fr → St → O TY24 := loopAt tab (calOf (cal k)) Go.Proofs.Tryz.f31.ntmps nt k Rs ds (bodyOf Go.Proofs.Tryz.f31) (finK tab Go.Proofs.Tryz.f31.results.toList (fun v st => outK ct.ob (γ0 ct) ct.outs v st .ok) (fun e st => outP ct.ob (γ0 ct) ct.outs e st .ok)) j
noncomputable abbrev ca (k : Nat) (Rs : List (Fr → St → O TY24)) (ds : List Dir) : Fr → St → O TY24 := codeAt tab (calOf (cal k)) Go.Proofs.Tryz.f31.ntmps nt k Rs ds (bodyOf Go.Proofs.Tryz.f31) (finK tab Go.Proofs.Tryz.f31.results.toList (fun v st => outK ct.ob (γ0 ct) ct.outs v st .ok) (fun e st => outP ct.ob (γ0 ct) ct.outs e st .ok))
noncomputable abbrev zj2 {α : Type} (X : Fr → St → α) (a1 : Int) (a2 : ByteArray) (a3 : Int) (v4 : List TY13) (v5 : Int) (v6 : Int) : α := X ⟨[(0, .ptr 0 0), (1, .int .i64 a1), (2, .str a2), (3, .int .i64 a3)], [], 1, []⟩ ⟨2, true, [(1, .row true 89 [.int .i64, .str, .int .i64, .int .i64] v4), (0, .cells 53 [.int .i64 v5, .int .i64 v6, .osl 1])]⟩
noncomputable abbrev zl1 {α : Type} (X : Fr → St → α) (a1 : Int) (a2 : ByteArray) (a3 : Int) (v4 : List TY13) (v5 : Int) (v6 : Int) (v8 : Int) (v9 : Bool) (v10 : List TY13) : α := X ⟨[(0, .ptr 0 0), (1, .int .i64 a1), (2, .str a2), (9, .ptr 1 0), (10, .osl 2), (11, .bool v9), (12, .int .i64 v8)], [], 1, []⟩ ⟨4, true, [(1, .cells 89 [.int .i64 a1, .str a2, .int .i64 a3, .int .i64 (0 : Int)]), (2, .row true 89 [.int .i64, .str, .int .i64, .int .i64] v10), (3, .row true 89 [.int .i64, .str, .int .i64, .int .i64] v4), (0, .cells 53 [.int .i64 v5, .int .i64 v6, .osl 3])]⟩
noncomputable def l1_b (k : Nat) (a1 : Int) (a2 : ByteArray) (a3 : Int) (v4 : List TY13) (v5 : Int) (v6 : Int) (R_l1 : Bool → Int → TY12 → O TY24) (v9 : Bool) (v8 : Int) (v10 : List TY13) : O TY24 :=
  O.cond (decide (v8 < (List.length v4 : Int))) (
   O.chk (decide (0 ≤ v8 ∧ v8 < (List.length v4 : Int) ∧ (List.length v4 : Int) ≤ (List.length v4 : Int))) (
    O.chk (decide (0 ≤ v8 ∧ v8 < (List.length v4 : Int))) (
     O.cond (decide ((gt ((0 : Int), ByteArray.empty, (0 : Int), (0 : Int)) v4 v8).1 = a1)) (
      O.cond (decide ((gt ((0 : Int), ByteArray.empty, (0 : Int), (0 : Int)) v4 v8).2.1 = a2)) (
       R_l1 v9 (IntKind.i64.wrap (v8 + (1 : Int))) v10) (
       O.cond (!v9) (
        O.cond (decide ((gt ((0 : Int), ByteArray.empty, (0 : Int), (0 : Int)) v4 v8).1 > a1)) (
         O.chk (decide (List.length v10 + List.length [(a1, a2, a3, (0 : Int))] ≤ 1073741824)) (
          O.chk (decide (List.length (v10 ++ [(a1, a2, a3, (0 : Int))]) + List.length [(gt ((0 : Int), ByteArray.empty, (0 : Int), (0 : Int)) v4 v8)] ≤ 1073741824)) (
           R_l1 true (IntKind.i64.wrap (v8 + (1 : Int))) ((v10 ++ [(a1, a2, a3, (0 : Int))]) ++ [(gt ((0 : Int), ByteArray.empty, (0 : Int), (0 : Int)) v4 v8)])))) (
         O.cond (decide ((gt ((0 : Int), ByteArray.empty, (0 : Int), (0 : Int)) v4 v8).1 = a1)) (
          O.cond (!(sLt ((gt ((0 : Int), ByteArray.empty, (0 : Int), (0 : Int)) v4 v8).2.1) a2 || decide ((gt ((0 : Int), ByteArray.empty, (0 : Int), (0 : Int)) v4 v8).2.1 = a2))) (
           O.chk (decide (List.length v10 + List.length [(a1, a2, a3, (0 : Int))] ≤ 1073741824)) (
            O.chk (decide (List.length (v10 ++ [(a1, a2, a3, (0 : Int))]) + List.length [(gt ((0 : Int), ByteArray.empty, (0 : Int), (0 : Int)) v4 v8)] ≤ 1073741824)) (
             R_l1 true (IntKind.i64.wrap (v8 + (1 : Int))) ((v10 ++ [(a1, a2, a3, (0 : Int))]) ++ [(gt ((0 : Int), ByteArray.empty, (0 : Int), (0 : Int)) v4 v8)])))) (
           O.chk (decide (List.length v10 + List.length [(gt ((0 : Int), ByteArray.empty, (0 : Int), (0 : Int)) v4 v8)] ≤ 1073741824)) (
            R_l1 v9 (IntKind.i64.wrap (v8 + (1 : Int))) (v10 ++ [(gt ((0 : Int), ByteArray.empty, (0 : Int), (0 : Int)) v4 v8)])))) (
          O.chk (decide (List.length v10 + List.length [(gt ((0 : Int), ByteArray.empty, (0 : Int), (0 : Int)) v4 v8)] ≤ 1073741824)) (
           R_l1 v9 (IntKind.i64.wrap (v8 + (1 : Int))) (v10 ++ [(gt ((0 : Int), ByteArray.empty, (0 : Int), (0 : Int)) v4 v8)]))))) (
        O.chk (decide (List.length v10 + List.length [(gt ((0 : Int), ByteArray.empty, (0 : Int), (0 : Int)) v4 v8)] ≤ 1073741824)) (
         R_l1 v9 (IntKind.i64.wrap (v8 + (1 : Int))) (v10 ++ [(gt ((0 : Int), ByteArray.empty, (0 : Int), (0 : Int)) v4 v8)]))))) (
      O.cond (!v9) (
       O.cond (decide ((gt ((0 : Int), ByteArray.empty, (0 : Int), (0 : Int)) v4 v8).1 > a1)) (
        O.chk (decide (List.length v10 + List.length [(a1, a2, a3, (0 : Int))] ≤ 1073741824)) (
         O.chk (decide (List.length (v10 ++ [(a1, a2, a3, (0 : Int))]) + List.length [(gt ((0 : Int), ByteArray.empty, (0 : Int), (0 : Int)) v4 v8)] ≤ 1073741824)) (
          R_l1 true (IntKind.i64.wrap (v8 + (1 : Int))) ((v10 ++ [(a1, a2, a3, (0 : Int))]) ++ [(gt ((0 : Int), ByteArray.empty, (0 : Int), (0 : Int)) v4 v8)])))) (
        O.cond (decide ((gt ((0 : Int), ByteArray.empty, (0 : Int), (0 : Int)) v4 v8).1 = a1)) (
         O.cond (!(sLt ((gt ((0 : Int), ByteArray.empty, (0 : Int), (0 : Int)) v4 v8).2.1) a2 || decide ((gt ((0 : Int), ByteArray.empty, (0 : Int), (0 : Int)) v4 v8).2.1 = a2))) (
          O.chk (decide (List.length v10 + List.length [(a1, a2, a3, (0 : Int))] ≤ 1073741824)) (
           O.chk (decide (List.length (v10 ++ [(a1, a2, a3, (0 : Int))]) + List.length [(gt ((0 : Int), ByteArray.empty, (0 : Int), (0 : Int)) v4 v8)] ≤ 1073741824)) (
            R_l1 true (IntKind.i64.wrap (v8 + (1 : Int))) ((v10 ++ [(a1, a2, a3, (0 : Int))]) ++ [(gt ((0 : Int), ByteArray.empty, (0 : Int), (0 : Int)) v4 v8)])))) (
          O.chk (decide (List.length v10 + List.length [(gt ((0 : Int), ByteArray.empty, (0 : Int), (0 : Int)) v4 v8)] ≤ 1073741824)) (
           R_l1 v9 (IntKind.i64.wrap (v8 + (1 : Int))) (v10 ++ [(gt ((0 : Int), ByteArray.empty, (0 : Int), (0 : Int)) v4 v8)])))) (
         O.chk (decide (List.length v10 + List.length [(gt ((0 : Int), ByteArray.empty, (0 : Int), (0 : Int)) v4 v8)] ≤ 1073741824)) (
          R_l1 v9 (IntKind.i64.wrap (v8 + (1 : Int))) (v10 ++ [(gt ((0 : Int), ByteArray.empty, (0 : Int), (0 : Int)) v4 v8)]))))) (
       O.chk (decide (List.length v10 + List.length [(gt ((0 : Int), ByteArray.empty, (0 : Int), (0 : Int)) v4 v8)] ≤ 1073741824)) (
        R_l1 v9 (IntKind.i64.wrap (v8 + (1 : Int))) (v10 ++ [(gt ((0 : Int), ByteArray.empty, (0 : Int), (0 : Int)) v4 v8)]))))))) (
   O.cond (!v9) (
    O.chk (decide (List.length v10 + List.length [(a1, a2, a3, (0 : Int))] ≤ 1073741824)) (
     .ok (true, (v5, v6, (v10 ++ [(a1, a2, a3, (0 : Int))]))))) (
    .ok (true, (v5, v6, v10))))
noncomputable def l1 (k : Nat) (a1 : Int) (a2 : ByteArray) (a3 : Int) (v4 : List TY13) (v5 : Int) (v6 : Int) : Nat → Bool → Int → TY12 → O TY24
 | 0, _, _, _ => .no
 | j + 1, v9, v8, v10 => l1_b k a1 a2 a3 v4 v5 v6 (l1 k a1 a2 a3 v4 v5 v6 j) v9 v8 v10
theorem l1_eq (k : Nat) (a1 : Int) (a2 : ByteArray) (a3 : Int) (v4 : List TY13) (v5 : Int) (v6 : Int) : ∀ (j : Nat) (v9 : Bool) (v8 : Int) (v10 : List TY13), zl1 (la k [] [.r, .r, .r, .r, .r, .l, .r, .b] j) a1 a2 a3 v4 v5 v6 v8 v9 v10 = l1 k a1 a2 a3 v4 v5 v6 j v9 v8 v10 := by
 intro j
 induction j with
 | zero => intro v9 v8 v10; rfl
 | succ j ih =>
  intro v9 v8 v10
  have rs : (fun (v9' : Bool) (v8' : Int) (v10' : List TY13) => zl1 (la k [] [.r, .r, .r, .r, .r, .l, .r, .b] j) a1 a2 a3 v4 v5 v6 v8' v9' v10') = l1 k a1 a2 a3 v4 v5 v6 j := by funext v9' v8' v10'; exact ih v9' v8' v10'
  have h : zl1 (la k [] [.r, .r, .r, .r, .r, .l, .r, .b] (j + 1)) a1 a2 a3 v4 v5 v6 v8 v9 v10 = l1_b k a1 a2 a3 v4 v5 v6 ((fun (v9' : Bool) (v8' : Int) (v10' : List TY13) => zl1 (la k [] [.r, .r, .r, .r, .r, .l, .r, .b] j) a1 a2 a3 v4 v5 v6 v8' v9' v10')) v9 v8 v10 := by kernel_rfl
  exact h.trans (by rw [rs]; rfl)
noncomputable def j2_b (k : Nat) (a1 : Int) (a2 : ByteArray) (a3 : Int) (D_l1 : TY12 → Int → Int → Bool → Int → TY12 → O TY24) (v4 : List TY13) (v5 : Int) (v6 : Int) : O TY24 :=
 D_l1 v4 v5 v6 false (0 : Int) []
noncomputable def j2 (k : Nat) (a1 : Int) (a2 : ByteArray) (a3 : Int) (v4 : List TY13) (v5 : Int) (v6 : Int) : O TY24 := j2_b k a1 a2 a3 ((fun (v4 : List TY13) (v5 : Int) (v6 : Int) (v9 : Bool) (v8 : Int) (v10 : List TY13) => l1 k a1 a2 a3 v4 v5 v6 k v9 v8 v10)) v4 v5 v6
theorem j2_eq (k : Nat) (a1 : Int) (a2 : ByteArray) (a3 : Int) (v4 : List TY13) (v5 : Int) (v6 : Int) : zj2 (ca k [] [.r, .r, .r]) a1 a2 a3 v4 v5 v6 = j2 k a1 a2 a3 v4 v5 v6 := by
  have e0 : (fun (v4 : List TY13) (v5 : Int) (v6 : Int) (v9 : Bool) (v8 : Int) (v10 : List TY13) => zl1 (la k [] [.r, .r, .r, .r, .r, .l, .r, .b] k) a1 a2 a3 v4 v5 v6 v8 v9 v10) = (fun (v4 : List TY13) (v5 : Int) (v6 : Int) (v9 : Bool) (v8 : Int) (v10 : List TY13) => l1 k a1 a2 a3 v4 v5 v6 k v9 v8 v10) := by funext v4 v5 v6 v9 v8 v10; exact l1_eq k a1 a2 a3 v4 v5 v6 k v9 v8 v10
  have h : zj2 (ca k [] [.r, .r, .r]) a1 a2 a3 v4 v5 v6 = j2_b k a1 a2 a3 ((fun (v4 : List TY13) (v5 : Int) (v6 : Int) (v9 : Bool) (v8 : Int) (v10 : List TY13) => zl1 (la k [] [.r, .r, .r, .r, .r, .l, .r, .b] k) a1 a2 a3 v4 v5 v6 v8 v9 v10)) v4 v5 v6 := (codeAt_eq _ _ _ _ _ _ _ _ _ _ _).trans (by show _ = _; kernel_rfl)
  exact h.trans (by rw [e0]; rfl)
noncomputable def top (k : Nat) (a1 : Int) (a2 : ByteArray) (a3 : Int) (g0 : Int × Int × TY12) (D_j2 : TY12 → Int → Int → O TY24) : O TY24 :=
  O.cond (decide (a1 < (0 : Int))) (
   .ok (false, g0)) (
   O.cond (decide (a1 > (4094 : Int))) (
    .ok (false, g0)) (
    O.bind (F_aqueductref05_Kind.S k a2) fun r2 =>
    O.cond (decide (r2 ≠ (1 : Int))) (
     .ok (false, g0)) (
     O.cond (decide (a3 < (0 : Int))) (
      .ok (false, g0)) (
      O.cond (decide (a3 > (15 : Int))) (
       .ok (false, g0)) (
       O.bind (F_aqueductref18_Table_at.S k a1 a2 g0) fun r7 =>
       O.cond (decide (r7.1 < (0 : Int))) (
        O.twice (
         O.cond (decide ((List.length r7.2.2.2 : Int) ≥ r7.2.1)) (
          .ok (false, r7.2)) (
          D_j2 r7.2.2.2 r7.2.1 r7.2.2.1))) (
        O.twice (
         D_j2 r7.2.2.2 r7.2.1 r7.2.2.1)))))))
noncomputable def S (k : Nat) (a1 : Int) (a2 : ByteArray) (a3 : Int) (g0 : Int × Int × TY12) : O TY24 := top k a1 a2 a3 g0 ((fun (v4 : List TY13) (v5 : Int) (v6 : Int) => j2 k a1 a2 a3 v4 v5 v6))
theorem eq (k : Nat) (a1 : Int) (a2 : ByteArray) (a3 : Int) (g0 : Int × Int × TY12) : evFn (T := Bool × Int × Int × TY12) tab (calOf (cal k)) Go.Proofs.Tryz.f31 nt k 1 [.ptr 0 0, .int .i64 a1, .str a2, .int .i64 a3] [] ⟨2, false, [(0, .cells 53 [.int .i64 g0.1, .int .i64 g0.2.1, .osl 1]), (1, .row true 89 [.int .i64, .str, .int .i64, .int .i64] g0.2.2)]⟩ (fun v st => outK ct.ob (γ0 ct) ct.outs v st .ok) (fun e st => outP ct.ob (γ0 ct) ct.outs e st .ok) = S k a1 a2 a3 g0 := by
 have e0 : (fun (v4 : List TY13) (v5 : Int) (v6 : Int) => zj2 (ca k [] [.r, .r, .r]) a1 a2 a3 v4 v5 v6) = (fun (v4 : List TY13) (v5 : Int) (v6 : Int) => j2 k a1 a2 a3 v4 v5 v6) := by funext v4 v5 v6; exact j2_eq k a1 a2 a3 v4 v5 v6
 have h : evFn (T := Bool × Int × Int × TY12) tab (calOf (cal k)) Go.Proofs.Tryz.f31 nt k 1 [.ptr 0 0, .int .i64 a1, .str a2, .int .i64 a3] [] ⟨2, false, [(0, .cells 53 [.int .i64 g0.1, .int .i64 g0.2.1, .osl 1]), (1, .row true 89 [.int .i64, .str, .int .i64, .int .i64] g0.2.2)]⟩ (fun v st => outK ct.ob (γ0 ct) ct.outs v st .ok) (fun e st => outP ct.ob (γ0 ct) ct.outs e st .ok) = top k a1 a2 a3 g0 ((fun (v4 : List TY13) (v5 : Int) (v6 : Int) => zj2 (ca k [] [.r, .r, .r]) a1 a2 a3 v4 v5 v6)) := by kernel_rfl
 exact h.trans (by rw [e0]; rfl)
theorem ok (k : Nat) : FnOkC Tryz.prog 31 ct (fun (x : Int × ByteArray × Int) (g : Int × Int × TY12) => S k x.1 x.2.1 x.2.2 g) :=
 FnOkC.of_ev (C := ct) tab_ok rfl (calOf_ok (cal_ok k)) mixed Tryz.func31 nt k (fun _ _ => rfl) (fun (x : Int × ByteArray × Int) (g : Int × Int × TY12) => eq k x.1 x.2.1 x.2.2 g)
theorem hd {T : Type} (k : Nat) : HdOk Tryz.prog 31 (pureC (T := T) ct [.arg 0 0] (fun (x : Int × ByteArray × Int) (g : Int × Int × TY12) => S k x.1 x.2.1 x.2.2 g)) :=
 pureC_ok rfl [.arg 0 0] (ok k) Tryz.call31
end F_aqueductref18_Table_Learn
namespace F_aqueductref20_Bridge_to
noncomputable def ct : Ct := ⟨.some (.pin (.ref 0) (.cons (.leaf (.int .i64)) (.cons (.leaf (.int .i64)) (.one (.leaf .str) [])))), [(45, .cons (.tab false 58 (.cons (.leaf (.int .i64)) (.one (.row false 3 [.int .i64]) []))) (.pin (.ref 1) (.cons (.tab true 86 (.one (.box 95 (.cons (.row true 9 [.str]) (.cons (.leaf (.int .i64)) (.one (.leaf (.int .i64)) [])))) [])) (.one (.agg (.cons (.leaf (.int .i64)) (.cons (.leaf (.int .i64)) (.cons (.leaf (.int .i64)) (.cons (.leaf (.int .i64)) (.cons (.leaf (.int .i64)) (.one (.leaf (.int .i64)) []))))))) [])))), (53, .cons (.leaf (.int .i64)) (.cons (.leaf (.int .i64)) (.one (.row true 89 [.int .i64, .str, .int .i64, .int .i64]) [])))], [⟨.tup (.cons (.row true 3 [.int .i64]) (.one (.leaf .bool) [])), [], []⟩]⟩
noncomputable def nt : Notes := ⟨[(8, ⟨[0, 1, 2, 10, 13], []⟩)], [(3, ⟨[0, 1, 2, 3, 10, 11, 12], []⟩)], [], [], []⟩
noncomputable def cal0 {T : Type} (k : Nat) : List (FuncId × Hd T) := [(30, pureC F_aqueductref20_Has.ct [] (fun (x : (Int × List Int) × Int) (_ : Unit) => F_aqueductref20_Has.S k x.1 x.2)), (59, pureC F_aqueductref05_Kind.ct [] (fun (x : ByteArray) (_ : Unit) => F_aqueductref05_Kind.S k x)), (61, pureC F_aqueductref18_Table_at.ct [.arg 0 0] (fun (x : Int × ByteArray) (g : Int × Int × TY12) => F_aqueductref18_Table_at.S k x.1 x.2 g))]
theorem cal0_ok {T : Type} (k : Nat) : HdsOk Tryz.prog (cal0 (T := T) k) := ⟨F_aqueductref20_Has.hd k, F_aqueductref05_Kind.hd k, F_aqueductref18_Table_at.hd k, trivial⟩
noncomputable def nt62 : Notes := ⟨[], [], [], [], []⟩
noncomputable def cal1 {T : Type} (k : Nat) : List (FuncId × Hd T) := (62, inlH tab (calOf (cal0 k)) Go.Proofs.Tryz.f62 nt62 k) :: cal0 k
theorem cal1_ok {T : Type} (k : Nat) : HdsOk Tryz.prog (cal1 (T := T) k) := ⟨inlH_ok tab_ok (calOf_ok (cal0_ok k)) mixed Tryz.func62 nt62 k Tryz.call62, cal0_ok k⟩
noncomputable def cal {T : Type} (k : Nat) : List (FuncId × Hd T) := cal1 k
theorem cal_ok {T : Type} (k : Nat) : HdsOk Tryz.prog (cal (T := T) k) := cal1_ok k
noncomputable abbrev la (k : Nat) (Rs : List (Fr → St → O TY25)) (ds : List Dir) (j : Nat) : Fr → St → O TY25 := loopAt tab (calOf (cal k)) Go.Proofs.Tryz.f32.ntmps nt k Rs ds (bodyOf Go.Proofs.Tryz.f32) (finK tab Go.Proofs.Tryz.f32.results.toList (fun v st => outK ct.ob (γ0 ct) ct.outs v st .ok) (fun e st => outP ct.ob (γ0 ct) ct.outs e st .ok)) j
noncomputable abbrev ca (k : Nat) (Rs : List (Fr → St → O TY25)) (ds : List Dir) : Fr → St → O TY25 := codeAt tab (calOf (cal k)) Go.Proofs.Tryz.f32.ntmps nt k Rs ds (bodyOf Go.Proofs.Tryz.f32) (finK tab Go.Proofs.Tryz.f32.results.toList (fun v st => outK ct.ob (γ0 ct) ct.outs v st .ok) (fun e st => outP ct.ob (γ0 ct) ct.outs e st .ok))
noncomputable abbrev zj2 {α : Type} (X : Fr → St → α) (a1 : Int) (a2 : Int) (a3 : ByteArray) (g0 : TY8 × TY5 × TY6) (v2 : List TY13) (v3 : Int) (v4 : Int) (v5 : Int) (v6 : Bool) : α := X ⟨[(0, .ptr 0 0), (1, .int .i64 a1), (2, .int .i64 a2), (3, .str a3), (10, .osl 2), (11, .int .i64 v5), (12, .bool v6)], [], 2, []⟩ ⟨8, true, [(2, .row true 3 [.int .i64] []), (3, .tab false 58 [] 6 (.cons (.leaf (.int .i64)) (.one (.row false 3 [.int .i64]) [])) g0.1), (4, .tab true 86 [] 7 (.one (.box 95 (.cons (.row true 9 [.str]) (.cons (.leaf (.int .i64)) (.one (.leaf (.int .i64)) [])))) []) g0.2.1), (5, .row true 89 [.int .i64, .str, .int .i64, .int .i64] v2), (6, .ghost), (7, .ghost), (0, .cells 45 [.osl 3, .ptr 1 0, .osl 4, .int .i64 g0.2.2.1, .int .i64 g0.2.2.2.1, .int .i64 g0.2.2.2.2.1, .int .i64 g0.2.2.2.2.2.1, .int .i64 g0.2.2.2.2.2.2.1, .int .i64 g0.2.2.2.2.2.2.2]), (1, .cells 53 [.int .i64 v3, .int .i64 v4, .osl 5])]⟩
noncomputable abbrev zl1 {α : Type} (X : Fr → St → α) (a1 : Int) (a2 : Int) (g0 : TY8 × TY5 × TY6) (v2 : List TY13) (v3 : Int) (v4 : Int) (v11 : Int) (v12 : List Int) : α := X ⟨[(0, .ptr 0 0), (1, .int .i64 a1), (2, .int .i64 a2), (10, .osl 2), (13, .int .i64 v11)], [], 2, []⟩ ⟨8, true, [(2, .row true 3 [.int .i64] v12), (3, .tab false 58 [] 6 (.cons (.leaf (.int .i64)) (.one (.row false 3 [.int .i64]) [])) g0.1), (4, .tab true 86 [] 7 (.one (.box 95 (.cons (.row true 9 [.str]) (.cons (.leaf (.int .i64)) (.one (.leaf (.int .i64)) [])))) []) g0.2.1), (5, .row true 89 [.int .i64, .str, .int .i64, .int .i64] v2), (6, .ghost), (7, .ghost), (0, .cells 45 [.osl 3, .ptr 1 0, .osl 4, .int .i64 g0.2.2.1, .int .i64 g0.2.2.2.1, .int .i64 g0.2.2.2.2.1, .int .i64 g0.2.2.2.2.2.1, .int .i64 g0.2.2.2.2.2.2.1, .int .i64 g0.2.2.2.2.2.2.2]), (1, .cells 53 [.int .i64 v3, .int .i64 v4, .osl 5])]⟩
noncomputable def l1_b (k : Nat) (a1 : Int) (a2 : Int) (g0 : TY8 × TY5 × TY6) (v2 : List TY13) (v3 : Int) (v4 : Int) (R_l1 : Int → (List Int) → O TY25) (v11 : Int) (v12 : List Int) : O TY25 :=
  O.cond (decide (v11 < (List.length g0.1 : Int))) (
   O.cond (decide (v11 ≠ a1)) (
    O.chk (decide (0 ≤ v11 ∧ v11 < (List.length g0.1 : Int))) (
     O.chk (decide (0 ≤ v11 ∧ v11 < (List.length g0.1 : Int))) (
      O.bind (F_aqueductref20_Has.S k (gt ((0 : Int), []) g0.1 v11) a2) fun r14 =>
      O.cond r14 (
       O.chk (decide (List.length v12 + List.length [v11] ≤ 1073741824)) (
        R_l1 (IntKind.i64.wrap (v11 + (1 : Int))) (v12 ++ [v11]))) (
       R_l1 (IntKind.i64.wrap (v11 + (1 : Int))) v12)))) (
    R_l1 (IntKind.i64.wrap (v11 + (1 : Int))) v12)) (
   .ok ((v12, false), (g0, (v3, v4, v2))))
noncomputable def l1 (k : Nat) (a1 : Int) (a2 : Int) (g0 : TY8 × TY5 × TY6) (v2 : List TY13) (v3 : Int) (v4 : Int) : Nat → Int → (List Int) → O TY25
 | 0, _, _ => .no
 | j + 1, v11, v12 => l1_b k a1 a2 g0 v2 v3 v4 (l1 k a1 a2 g0 v2 v3 v4 j) v11 v12
theorem l1_eq (k : Nat) (a1 : Int) (a2 : Int) (g0 : TY8 × TY5 × TY6) (v2 : List TY13) (v3 : Int) (v4 : Int) : ∀ (j : Nat) (v11 : Int) (v12 : List Int), zl1 (la k [] [.r, .r, .r, .r, .l, .r, .b] j) a1 a2 g0 v2 v3 v4 v11 v12 = l1 k a1 a2 g0 v2 v3 v4 j v11 v12 := by
 intro j
 induction j with
 | zero => intro v11 v12; rfl
 | succ j ih =>
  intro v11 v12
  have rs : (fun (v11' : Int) (v12' : List Int) => zl1 (la k [] [.r, .r, .r, .r, .l, .r, .b] j) a1 a2 g0 v2 v3 v4 v11' v12') = l1 k a1 a2 g0 v2 v3 v4 j := by funext v11' v12'; exact ih v11' v12'
  have h : zl1 (la k [] [.r, .r, .r, .r, .l, .r, .b] (j + 1)) a1 a2 g0 v2 v3 v4 v11 v12 = l1_b k a1 a2 g0 v2 v3 v4 ((fun (v11' : Int) (v12' : List Int) => zl1 (la k [] [.r, .r, .r, .r, .l, .r, .b] j) a1 a2 g0 v2 v3 v4 v11' v12')) v11 v12 := by kernel_rfl
  exact h.trans (by rw [rs]; rfl)
noncomputable def j2_b (k : Nat) (a1 : Int) (a2 : Int) (a3 : ByteArray) (g0 : TY8 × TY5 × TY6) (D_l1 : TY12 → Int → Int → Int → (List Int) → O TY25) (v5 : Int) (v6 : Bool) (v2 : List TY13) (v3 : Int) (v4 : Int) : O TY25 :=
  O.cond v6 (
   O.bind (F_aqueductref05_Kind.S k a3) fun r8 =>
   O.cond (decide (r8 = (1 : Int))) (
    O.cond (decide (v5 ≠ a1)) (
     O.chk (decide (0 ≤ v5 ∧ v5 < (List.length g0.1 : Int))) (
      O.chk (decide (0 ≤ v5 ∧ v5 < (List.length g0.1 : Int))) (
       O.bind (F_aqueductref20_Has.S k (gt ((0 : Int), []) g0.1 v5) a2) fun r9 =>
       O.cond r9 (
        O.chk (decide ((0 : Nat) + List.length [v5] ≤ 1073741824)) (
         .ok (([v5], (decide (v5 = a1))), (g0, (v3, v4, v2))))) (
        .ok (([], (decide (v5 = a1))), (g0, (v3, v4, v2))))))) (
     .ok (([], (decide (v5 = a1))), (g0, (v3, v4, v2))))) (
    D_l1 v2 v3 v4 (0 : Int) [])) (
   D_l1 v2 v3 v4 (0 : Int) [])
noncomputable def j2 (k : Nat) (a1 : Int) (a2 : Int) (a3 : ByteArray) (g0 : TY8 × TY5 × TY6) (v5 : Int) (v6 : Bool) (v2 : List TY13) (v3 : Int) (v4 : Int) : O TY25 := j2_b k a1 a2 a3 g0 ((fun (v2 : List TY13) (v3 : Int) (v4 : Int) (v11 : Int) (v12 : List Int) => l1 k a1 a2 g0 v2 v3 v4 k v11 v12)) v5 v6 v2 v3 v4
theorem j2_eq (k : Nat) (a1 : Int) (a2 : Int) (a3 : ByteArray) (g0 : TY8 × TY5 × TY6) (v5 : Int) (v6 : Bool) (v2 : List TY13) (v3 : Int) (v4 : Int) : zj2 (ca k [] [.r, .r, .r]) a1 a2 a3 g0 v2 v3 v4 v5 v6 = j2 k a1 a2 a3 g0 v5 v6 v2 v3 v4 := by
  have e0 : (fun (v2 : List TY13) (v3 : Int) (v4 : Int) (v11 : Int) (v12 : List Int) => zl1 (la k [] [.r, .r, .r, .r, .l, .r, .b] k) a1 a2 g0 v2 v3 v4 v11 v12) = (fun (v2 : List TY13) (v3 : Int) (v4 : Int) (v11 : Int) (v12 : List Int) => l1 k a1 a2 g0 v2 v3 v4 k v11 v12) := by funext v2 v3 v4 v11 v12; exact l1_eq k a1 a2 g0 v2 v3 v4 k v11 v12
  have h : zj2 (ca k [] [.r, .r, .r]) a1 a2 a3 g0 v2 v3 v4 v5 v6 = j2_b k a1 a2 a3 g0 ((fun (v2 : List TY13) (v3 : Int) (v4 : Int) (v11 : Int) (v12 : List Int) => zl1 (la k [] [.r, .r, .r, .r, .l, .r, .b] k) a1 a2 g0 v2 v3 v4 v11 v12)) v5 v6 v2 v3 v4 := (codeAt_eq _ _ _ _ _ _ _ _ _ _ _).trans (by show _ = _; kernel_rfl)
  exact h.trans (by rw [e0]; rfl)
noncomputable def top (k : Nat) (a1 : Int) (a2 : Int) (a3 : ByteArray) (g0 : TY8 × TY5 × TY6) (g1 : Int × Int × TY12) (D_j2 : Int → Bool → TY12 → Int → Int → O TY25) : O TY25 :=
  O.bind (F_aqueductref18_Table_at.S k a2 a3 g1) fun r7 =>
  O.cond (decide (r7.1 < (0 : Int))) (
   D_j2 (0 : Int) false r7.2.2.2 r7.2.1 r7.2.2.1) (
   O.chk (decide (0 ≤ r7.1 ∧ r7.1 < (List.length r7.2.2.2 : Int) ∧ (List.length r7.2.2.2 : Int) ≤ (List.length r7.2.2.2 : Int))) (
    O.chk (decide (0 ≤ r7.1 ∧ r7.1 < (List.length r7.2.2.2 : Int))) (
     D_j2 ((gt ((0 : Int), ByteArray.empty, (0 : Int), (0 : Int)) r7.2.2.2 r7.1).2.2.1) true r7.2.2.2 r7.2.1 r7.2.2.1)))
noncomputable def S (k : Nat) (a1 : Int) (a2 : Int) (a3 : ByteArray) (g0 : TY8 × TY5 × TY6) (g1 : Int × Int × TY12) : O TY25 := top k a1 a2 a3 g0 g1 ((fun (v5 : Int) (v6 : Bool) (v2 : List TY13) (v3 : Int) (v4 : Int) => j2 k a1 a2 a3 g0 v5 v6 v2 v3 v4))
theorem eq (k : Nat) (a1 : Int) (a2 : Int) (a3 : ByteArray) (g0 : TY8 × TY5 × TY6) (g1 : Int × Int × TY12) : evFn (T := (List Int × Bool) × TY2 × TY11) tab (calOf (cal k)) Go.Proofs.Tryz.f32 nt k 2 [.ptr 0 0, .int .i64 a1, .int .i64 a2, .str a3] [] ⟨7, false, [(1, .cells 53 [.int .i64 g1.1, .int .i64 g1.2.1, .osl 6]), (6, .row true 89 [.int .i64, .str, .int .i64, .int .i64] g1.2.2), (0, .cells 45 [.osl 3, .ptr 1 0, .osl 5, .int .i64 g0.2.2.1, .int .i64 g0.2.2.2.1, .int .i64 g0.2.2.2.2.1, .int .i64 g0.2.2.2.2.2.1, .int .i64 g0.2.2.2.2.2.2.1, .int .i64 g0.2.2.2.2.2.2.2]), (5, .tab true 86 [] 4 (.one (.box 95 (.cons (.row true 9 [.str]) (.cons (.leaf (.int .i64)) (.one (.leaf (.int .i64)) [])))) []) g0.2.1), (4, .ghost), (3, .tab false 58 [] 2 (.cons (.leaf (.int .i64)) (.one (.row false 3 [.int .i64]) [])) g0.1), (2, .ghost)]⟩ (fun v st => outK ct.ob (γ0 ct) ct.outs v st .ok) (fun e st => outP ct.ob (γ0 ct) ct.outs e st .ok) = S k a1 a2 a3 g0 g1 := by
 have e0 : (fun (v5 : Int) (v6 : Bool) (v2 : List TY13) (v3 : Int) (v4 : Int) => zj2 (ca k [] [.r, .r, .r]) a1 a2 a3 g0 v2 v3 v4 v5 v6) = (fun (v5 : Int) (v6 : Bool) (v2 : List TY13) (v3 : Int) (v4 : Int) => j2 k a1 a2 a3 g0 v5 v6 v2 v3 v4) := by funext v5 v6 v2 v3 v4; exact j2_eq k a1 a2 a3 g0 v5 v6 v2 v3 v4
 have h : evFn (T := (List Int × Bool) × TY2 × TY11) tab (calOf (cal k)) Go.Proofs.Tryz.f32 nt k 2 [.ptr 0 0, .int .i64 a1, .int .i64 a2, .str a3] [] ⟨7, false, [(1, .cells 53 [.int .i64 g1.1, .int .i64 g1.2.1, .osl 6]), (6, .row true 89 [.int .i64, .str, .int .i64, .int .i64] g1.2.2), (0, .cells 45 [.osl 3, .ptr 1 0, .osl 5, .int .i64 g0.2.2.1, .int .i64 g0.2.2.2.1, .int .i64 g0.2.2.2.2.1, .int .i64 g0.2.2.2.2.2.1, .int .i64 g0.2.2.2.2.2.2.1, .int .i64 g0.2.2.2.2.2.2.2]), (5, .tab true 86 [] 4 (.one (.box 95 (.cons (.row true 9 [.str]) (.cons (.leaf (.int .i64)) (.one (.leaf (.int .i64)) [])))) []) g0.2.1), (4, .ghost), (3, .tab false 58 [] 2 (.cons (.leaf (.int .i64)) (.one (.row false 3 [.int .i64]) [])) g0.1), (2, .ghost)]⟩ (fun v st => outK ct.ob (γ0 ct) ct.outs v st .ok) (fun e st => outP ct.ob (γ0 ct) ct.outs e st .ok) = top k a1 a2 a3 g0 g1 ((fun (v5 : Int) (v6 : Bool) (v2 : List TY13) (v3 : Int) (v4 : Int) => zj2 (ca k [] [.r, .r, .r]) a1 a2 a3 g0 v2 v3 v4 v5 v6)) := by kernel_rfl
 exact h.trans (by rw [e0]; rfl)
theorem ok (k : Nat) : FnOkC Tryz.prog 32 ct (fun (x : Int × Int × ByteArray) (g : TY2 × TY11) => S k x.1 x.2.1 x.2.2 g.1 g.2) :=
 FnOkC.of_ev (C := ct) tab_ok rfl (calOf_ok (cal_ok k)) mixed Tryz.func32 nt k (fun _ _ => rfl) (fun (x : Int × Int × ByteArray) (g : TY2 × TY11) => eq k x.1 x.2.1 x.2.2 g.1 g.2)
theorem hd {T : Type} (k : Nat) : HdOk Tryz.prog 32 (pureC (T := T) ct [.arg 0 0, .fld 0 1] (fun (x : Int × Int × ByteArray) (g : TY2 × TY11) => S k x.1 x.2.1 x.2.2 g.1 g.2)) :=
 pureC_ok rfl [.arg 0 0, .fld 0 1] (ok k) Tryz.call32
end F_aqueductref20_Bridge_to
namespace F_aqueductref20_Bridge_In
noncomputable def ct : Ct := ⟨.some (.pin (.ref 0) (.cons (.leaf (.int .i64)) (.one (.leaf .str) []))), [(45, .cons (.tab false 58 (.cons (.leaf (.int .i64)) (.one (.row false 3 [.int .i64]) []))) (.pin (.ref 1) (.cons (.tab true 86 (.one (.box 95 (.cons (.row true 9 [.str]) (.cons (.leaf (.int .i64)) (.one (.leaf (.int .i64)) [])))) [])) (.one (.agg (.cons (.leaf (.int .i64)) (.cons (.leaf (.int .i64)) (.cons (.leaf (.int .i64)) (.cons (.leaf (.int .i64)) (.cons (.leaf (.int .i64)) (.one (.leaf (.int .i64)) []))))))) [])))), (53, .cons (.leaf (.int .i64)) (.cons (.leaf (.int .i64)) (.one (.row true 89 [.int .i64, .str, .int .i64, .int .i64]) [])))], [⟨.tup (.cons (.row true 3 [.int .i64]) (.one (.leaf (.int .i64)) [])), [], []⟩]⟩
noncomputable def nt : Notes := ⟨[(17, ⟨[0, 2, 8, 10, 12, 14], []⟩)], [(16, ⟨[0, 2, 8, 10, 12], []⟩)], [(12, [0, 1, 2, 3, 4, 5, 6, 7, 8]), (19, [0, 1, 2, 3, 4, 5, 6, 7, 8, 10, 11, 9, 12, 13, 14, 15, 16, 17]), (20, [0, 1, 2, 3, 4, 5, 6, 7, 8, 10, 9, 11])], [], [(20, [], [], [140])]⟩
noncomputable def cal0 {T : Type} (k : Nat) : List (FuncId × Hd T) := [(29, pureC F_aqueductref20_Net.ct [] (fun (x : TY8 × Int × ByteArray) (_ : Unit) => F_aqueductref20_Net.S k x.1 x.2.1 x.2.2)), (30, pureC F_aqueductref20_Has.ct [] (fun (x : (Int × List Int) × Int) (_ : Unit) => F_aqueductref20_Has.S k x.1 x.2)), (31, pureC F_aqueductref18_Table_Learn.ct [.arg 0 0] (fun (x : Int × ByteArray × Int) (g : Int × Int × TY12) => F_aqueductref18_Table_Learn.S k x.1 x.2.1 x.2.2 g)), (32, pureC F_aqueductref20_Bridge_to.ct [.arg 0 0, .fld 0 1] (fun (x : Int × Int × ByteArray) (g : TY2 × TY11) => F_aqueductref20_Bridge_to.S k x.1 x.2.1 x.2.2 g.1 g.2)), (33, pureC F_aqueductref20_Leaves.ct [] (fun (x : (Int × List Int) × Int × ByteArray) (_ : Unit) => F_aqueductref20_Leaves.S k x.1 x.2.1 x.2.2))]
theorem cal0_ok {T : Type} (k : Nat) : HdsOk Tryz.prog (cal0 (T := T) k) := ⟨F_aqueductref20_Net.hd k, F_aqueductref20_Has.hd k, F_aqueductref18_Table_Learn.hd k, F_aqueductref20_Bridge_to.hd k, F_aqueductref20_Leaves.hd k, trivial⟩
noncomputable def nt34 : Notes := ⟨[], [], [(1, [0, 1, 2, 3, 4, 5, 6, 7, 8, 9])], [], []⟩
noncomputable def cal1 {T : Type} (k : Nat) : List (FuncId × Hd T) := (34, inlH tab (calOf (cal0 k)) Go.Proofs.Tryz.f34 nt34 k) :: cal0 k
theorem cal1_ok {T : Type} (k : Nat) : HdsOk Tryz.prog (cal1 (T := T) k) := ⟨inlH_ok tab_ok (calOf_ok (cal0_ok k)) mixed Tryz.func34 nt34 k Tryz.call34, cal0_ok k⟩
noncomputable def cal {T : Type} (k : Nat) : List (FuncId × Hd T) := cal1 k
theorem cal_ok {T : Type} (k : Nat) : HdsOk Tryz.prog (cal (T := T) k) := cal1_ok k
noncomputable abbrev la (k : Nat) (Rs : List (Fr → St → O TY26)) (ds : List Dir) (j : Nat) : Fr → St → O TY26 := loopAt tab (calOf (cal k)) Go.Proofs.Tryz.f6.ntmps nt k Rs ds (bodyOf Go.Proofs.Tryz.f6) (finK tab Go.Proofs.Tryz.f6.results.toList (fun v st => outK ct.ob (γ0 ct) ct.outs v st .ok) (fun e st => outP ct.ob (γ0 ct) ct.outs e st .ok)) j
noncomputable abbrev ca (k : Nat) (Rs : List (Fr → St → O TY26)) (ds : List Dir) : Fr → St → O TY26 := codeAt tab (calOf (cal k)) Go.Proofs.Tryz.f6.ntmps nt k Rs ds (bodyOf Go.Proofs.Tryz.f6) (finK tab Go.Proofs.Tryz.f6.results.toList (fun v st => outK ct.ob (γ0 ct) ct.outs v st .ok) (fun e st => outP ct.ob (γ0 ct) ct.outs e st .ok))
noncomputable abbrev zj9 {α : Type} (X : Fr → St → α) (a2 : ByteArray) (r2 : TY20 × Int × Bool) (r8 : (List Int × Bool) × TY2 × TY11) (v9 : Int) : α := X ⟨[(0, .ptr 0 0), (2, .str a2), (8, .osl 2), (10, .int .i64 r2.2.1), (12, .osl 3)], [], 2, []⟩ ⟨9, true, [(2, .row true 3 [.int .i64] []), (3, .row true 3 [.int .i64] r8.1.1), (4, .tab false 58 [] 7 (.cons (.leaf (.int .i64)) (.one (.row false 3 [.int .i64]) [])) r8.2.1.1), (5, .tab true 86 [] 8 (.one (.box 95 (.cons (.row true 9 [.str]) (.cons (.leaf (.int .i64)) (.one (.leaf (.int .i64)) [])))) []) r8.2.1.2.1), (6, .row true 89 [.int .i64, .str, .int .i64, .int .i64] r8.2.2.2.2), (7, .ghost), (8, .ghost), (0, .cells 45 [.osl 4, .ptr 1 0, .osl 5, .int .i64 r8.2.1.2.2.1, .int .i64 r8.2.1.2.2.2.1, .int .i64 r8.2.1.2.2.2.2.1, .int .i64 v9, .int .i64 r8.2.1.2.2.2.2.2.2.1, .int .i64 r8.2.1.2.2.2.2.2.2.2]), (1, .cells 53 [.int .i64 r8.2.2.1, .int .i64 r8.2.2.2.1, .osl 6])]⟩
noncomputable abbrev zl1 {α : Type} (X : Fr → St → α) (a2 : ByteArray) (r2 : TY20 × Int × Bool) (r8 : (List Int × Bool) × TY2 × TY11) (v9 : Int) (v11 : Int) (v12 : List Int) (v13 : List TY7) (v14 : Int) (v15 : Int) : α := X ⟨[(0, .ptr 0 0), (2, .str a2), (8, .osl 2), (10, .int .i64 r2.2.1), (12, .osl 3), (14, .int .i64 v11)], [], 2, []⟩ ⟨9, true, [(2, .row true 3 [.int .i64] v12), (3, .row true 3 [.int .i64] r8.1.1), (4, .tab false 58 [] 7 (.cons (.leaf (.int .i64)) (.one (.row false 3 [.int .i64]) [])) r8.2.1.1), (5, .tab true 86 [] 8 (.one (.box 95 (.cons (.row true 9 [.str]) (.cons (.leaf (.int .i64)) (.one (.leaf (.int .i64)) [])))) []) v13), (6, .row true 89 [.int .i64, .str, .int .i64, .int .i64] r8.2.2.2.2), (7, .ghost), (8, .ghost), (0, .cells 45 [.osl 4, .ptr 1 0, .osl 5, .int .i64 r8.2.1.2.2.1, .int .i64 r8.2.1.2.2.2.1, .int .i64 r8.2.1.2.2.2.2.1, .int .i64 v9, .int .i64 v14, .int .i64 v15]), (1, .cells 53 [.int .i64 r8.2.2.1, .int .i64 r8.2.2.2.1, .osl 6])]⟩
noncomputable def l1_b (k : Nat) (a2 : ByteArray) (r2 : TY20 × Int × Bool) (r8 : (List Int × Bool) × TY2 × TY11) (v9 : Int) (R_l1 : Int → (List Int) → TY5 → Int → Int → O TY26) (v11 : Int) (v12 : List Int) (v13 : List TY7) (v14 : Int) (v15 : Int) : O TY26 :=
  O.cond (decide (v11 < (List.length r8.1.1 : Int))) (
   O.chk (decide (0 ≤ v11 ∧ v11 < (List.length r8.1.1 : Int) ∧ (List.length r8.1.1 : Int) ≤ (List.length r8.1.1 : Int))) (
    O.chk (decide (0 ≤ v11 ∧ v11 < (List.length r8.1.1 : Int))) (
     O.chk (decide (0 ≤ (gt (0 : Int) r8.1.1 v11) ∧ (gt (0 : Int) r8.1.1 v11) < (List.length r8.2.1.1 : Int))) (
      O.chk (decide (0 ≤ (gt (0 : Int) r8.1.1 v11) ∧ (gt (0 : Int) r8.1.1 v11) < (List.length r8.2.1.1 : Int))) (
       O.bind (F_aqueductref20_Leaves.S k (gt ((0 : Int), []) r8.2.1.1 (gt (0 : Int) r8.1.1 v11)) r2.2.1 a2) fun r18 =>
       O.chk (decide (0 ≤ v11 ∧ v11 < (List.length r8.1.1 : Int) ∧ (List.length r8.1.1 : Int) ≤ (List.length r8.1.1 : Int))) (
        O.chk (decide (0 ≤ v11 ∧ v11 < (List.length r8.1.1 : Int))) (
         O.chk (decide (0 ≤ (gt (0 : Int) r8.1.1 v11) ∧ (gt (0 : Int) r8.1.1 v11) < (List.length v13 : Int))) (
          O.chk (decide (0 ≤ (gt (0 : Int) r8.1.1 v11) ∧ (gt (0 : Int) r8.1.1 v11) < (List.length v13 : Int))) (
           O.cond (decide ((List.length ((gt ([], (0 : Int), (0 : Int)) v13 (gt (0 : Int) r8.1.1 v11)).1) : Int) = (gt ([], (0 : Int), (0 : Int)) v13 (gt (0 : Int) r8.1.1 v11)).2.1)) (
            O.cond false (
             O.chk (decide (0 ≤ v11 ∧ v11 < (List.length r8.1.1 : Int) ∧ (List.length r8.1.1 : Int) ≤ (List.length r8.1.1 : Int))) (
              O.chk (decide (0 ≤ v11 ∧ v11 < (List.length r8.1.1 : Int))) (
               O.chk (decide (List.length v12 + List.length [(gt (0 : Int) r8.1.1 v11)] ≤ 1073741824)) (
                R_l1 (IntKind.i64.wrap (v11 + (1 : Int))) (v12 ++ [(gt (0 : Int) r8.1.1 v11)]) (su v13 (gt (0 : Int) r8.1.1 v11) ((gt ([], (0 : Int), (0 : Int)) v13 (gt (0 : Int) r8.1.1 v11)).1, (gt ([], (0 : Int), (0 : Int)) v13 (gt (0 : Int) r8.1.1 v11)).2.1, (IntKind.i64.wrap ((gt ([], (0 : Int), (0 : Int)) v13 (gt (0 : Int) r8.1.1 v11)).2.2 + (1 : Int))))) (IntKind.i64.wrap (v14 + (1 : Int))) v15)))) (
             R_l1 (IntKind.i64.wrap (v11 + (1 : Int))) v12 (su v13 (gt (0 : Int) r8.1.1 v11) ((gt ([], (0 : Int), (0 : Int)) v13 (gt (0 : Int) r8.1.1 v11)).1, (gt ([], (0 : Int), (0 : Int)) v13 (gt (0 : Int) r8.1.1 v11)).2.1, (IntKind.i64.wrap ((gt ([], (0 : Int), (0 : Int)) v13 (gt (0 : Int) r8.1.1 v11)).2.2 + (1 : Int))))) v14 (IntKind.i64.wrap (v15 + (1 : Int))))) (
            O.chk (decide ((0 : Nat) + List.length ((gt ([], (0 : Int), (0 : Int)) v13 (gt (0 : Int) r8.1.1 v11)).1) ≤ 1073741824)) (
             O.chk (decide (List.length ([] ++ (gt ([], (0 : Int), (0 : Int)) v13 (gt (0 : Int) r8.1.1 v11)).1) + List.length [r18.1] ≤ 1073741824)) (
              O.cond true (
               O.chk (decide (0 ≤ v11 ∧ v11 < (List.length r8.1.1 : Int) ∧ (List.length r8.1.1 : Int) ≤ (List.length r8.1.1 : Int))) (
                O.chk (decide (0 ≤ v11 ∧ v11 < (List.length r8.1.1 : Int))) (
                 O.chk (decide (List.length v12 + List.length [(gt (0 : Int) r8.1.1 v11)] ≤ 1073741824)) (
                  R_l1 (IntKind.i64.wrap (v11 + (1 : Int))) (v12 ++ [(gt (0 : Int) r8.1.1 v11)]) (su v13 (gt (0 : Int) r8.1.1 v11) ((([] ++ (gt ([], (0 : Int), (0 : Int)) v13 (gt (0 : Int) r8.1.1 v11)).1) ++ [r18.1]), (gt ([], (0 : Int), (0 : Int)) v13 (gt (0 : Int) r8.1.1 v11)).2.1, (gt ([], (0 : Int), (0 : Int)) v13 (gt (0 : Int) r8.1.1 v11)).2.2)) (IntKind.i64.wrap (v14 + (1 : Int))) v15)))) (
               R_l1 (IntKind.i64.wrap (v11 + (1 : Int))) v12 (su v13 (gt (0 : Int) r8.1.1 v11) ((([] ++ (gt ([], (0 : Int), (0 : Int)) v13 (gt (0 : Int) r8.1.1 v11)).1) ++ [r18.1]), (gt ([], (0 : Int), (0 : Int)) v13 (gt (0 : Int) r8.1.1 v11)).2.1, (gt ([], (0 : Int), (0 : Int)) v13 (gt (0 : Int) r8.1.1 v11)).2.2)) v14 (IntKind.i64.wrap (v15 + (1 : Int)))))))))))))))) (
   .ok ((v12, (0 : Int)), ((r8.2.1.1, v13, (r8.2.1.2.2.1, r8.2.1.2.2.2.1, r8.2.1.2.2.2.2.1, v9, v14, v15)), r8.2.2)))
noncomputable def l1 (k : Nat) (a2 : ByteArray) (r2 : TY20 × Int × Bool) (r8 : (List Int × Bool) × TY2 × TY11) (v9 : Int) : Nat → Int → (List Int) → TY5 → Int → Int → O TY26
 | 0, _, _, _, _, _ => .no
 | j + 1, v11, v12, v13, v14, v15 => l1_b k a2 r2 r8 v9 (l1 k a2 r2 r8 v9 j) v11 v12 v13 v14 v15
theorem l1_eq (k : Nat) (a2 : ByteArray) (r2 : TY20 × Int × Bool) (r8 : (List Int × Bool) × TY2 × TY11) (v9 : Int) : ∀ (j : Nat) (v11 : Int) (v12 : List Int) (v13 : List TY7) (v14 : Int) (v15 : Int), zl1 (la k [] [.r, .r, .r, .r, .r, .r, .r, .r, .r, .r, .l, .r, .b] j) a2 r2 r8 v9 v11 v12 v13 v14 v15 = l1 k a2 r2 r8 v9 j v11 v12 v13 v14 v15 := by
 intro j
 induction j with
 | zero => intro v11 v12 v13 v14 v15; rfl
 | succ j ih =>
  intro v11 v12 v13 v14 v15
  have rs : (fun (v11' : Int) (v12' : List Int) (v13' : List TY7) (v14' : Int) (v15' : Int) => zl1 (la k [] [.r, .r, .r, .r, .r, .r, .r, .r, .r, .r, .l, .r, .b] j) a2 r2 r8 v9 v11' v12' v13' v14' v15') = l1 k a2 r2 r8 v9 j := by funext v11' v12' v13' v14' v15'; exact ih v11' v12' v13' v14' v15'
  have h : zl1 (la k [] [.r, .r, .r, .r, .r, .r, .r, .r, .r, .r, .l, .r, .b] (j + 1)) a2 r2 r8 v9 v11 v12 v13 v14 v15 = l1_b k a2 r2 r8 v9 ((fun (v11' : Int) (v12' : List Int) (v13' : List TY7) (v14' : Int) (v15' : Int) => zl1 (la k [] [.r, .r, .r, .r, .r, .r, .r, .r, .r, .r, .l, .r, .b] j) a2 r2 r8 v9 v11' v12' v13' v14' v15')) v11 v12 v13 v14 v15 := by kernel_rfl
  exact h.trans (by rw [rs]; rfl)
noncomputable def j9_b (k : Nat) (a2 : ByteArray) (r2 : TY20 × Int × Bool) (r8 : (List Int × Bool) × TY2 × TY11) (D_l1 : Int → Int → (List Int) → TY5 → Int → Int → O TY26) (v9 : Int) : O TY26 :=
 D_l1 v9 (0 : Int) [] r8.2.1.2.1 r8.2.1.2.2.2.2.2.2.1 r8.2.1.2.2.2.2.2.2.2
noncomputable def j9 (k : Nat) (a2 : ByteArray) (r2 : TY20 × Int × Bool) (r8 : (List Int × Bool) × TY2 × TY11) (v9 : Int) : O TY26 := j9_b k a2 r2 r8 ((fun (v9 : Int) (v11 : Int) (v12 : List Int) (v13 : List TY7) (v14 : Int) (v15 : Int) => l1 k a2 r2 r8 v9 k v11 v12 v13 v14 v15)) v9
theorem j9_eq (k : Nat) (a2 : ByteArray) (r2 : TY20 × Int × Bool) (r8 : (List Int × Bool) × TY2 × TY11) (v9 : Int) : zj9 (ca k [] [.r, .r, .r, .r, .r, .r, .r, .r, .r, .r]) a2 r2 r8 v9 = j9 k a2 r2 r8 v9 := by
  have e0 : (fun (v9 : Int) (v11 : Int) (v12 : List Int) (v13 : List TY7) (v14 : Int) (v15 : Int) => zl1 (la k [] [.r, .r, .r, .r, .r, .r, .r, .r, .r, .r, .l, .r, .b] k) a2 r2 r8 v9 v11 v12 v13 v14 v15) = (fun (v9 : Int) (v11 : Int) (v12 : List Int) (v13 : List TY7) (v14 : Int) (v15 : Int) => l1 k a2 r2 r8 v9 k v11 v12 v13 v14 v15) := by funext v9 v11 v12 v13 v14 v15; exact l1_eq k a2 r2 r8 v9 k v11 v12 v13 v14 v15
  have h : zj9 (ca k [] [.r, .r, .r, .r, .r, .r, .r, .r, .r, .r]) a2 r2 r8 v9 = j9_b k a2 r2 r8 ((fun (v9 : Int) (v11 : Int) (v12 : List Int) (v13 : List TY7) (v14 : Int) (v15 : Int) => zl1 (la k [] [.r, .r, .r, .r, .r, .r, .r, .r, .r, .r, .l, .r, .b] k) a2 r2 r8 v9 v11 v12 v13 v14 v15)) v9 := (codeAt_eq _ _ _ _ _ _ _ _ _ _ _).trans (by show _ = _; kernel_rfl)
  exact h.trans (by rw [e0]; rfl)
noncomputable def top (k : Nat) (a1 : Int) (a2 : ByteArray) (g0 : TY8 × TY5 × TY6) (g1 : Int × Int × TY12) (D_j9 : TY22 → TY25 → Int → O TY26) : O TY26 :=
  O.cond (decide (a1 < (0 : Int))) (
   .ok (([], (1 : Int)), (g0, g1))) (
   O.cond (decide (a1 ≥ (List.length g0.1 : Int))) (
    .ok (([], (1 : Int)), (g0, g1))) (
    O.bind (F_aqueductref20_Net.S k g0.1 a1 a2) fun r2 =>
    O.cond r2.2.2 (
     .ok (([], (0 : Int)), ((g0.1, g0.2.1, ((IntKind.i64.wrap (g0.2.2.1 + (1 : Int))), (IntKind.i64.wrap (g0.2.2.2.1 + (1 : Int))), g0.2.2.2.2.1, g0.2.2.2.2.2.1, g0.2.2.2.2.2.2.1, g0.2.2.2.2.2.2.2)), g1))) (
     O.chk (decide (0 ≤ a1 ∧ a1 < (List.length g0.1 : Int))) (
      O.chk (decide (0 ≤ a1 ∧ a1 < (List.length g0.1 : Int))) (
       O.bind (F_aqueductref20_Has.S k (gt ((0 : Int), []) g0.1 a1) r2.2.1) fun r4 =>
       O.cond (!r4) (
        .ok (([], (0 : Int)), ((g0.1, g0.2.1, ((IntKind.i64.wrap (g0.2.2.1 + (1 : Int))), g0.2.2.2.1, (IntKind.i64.wrap (g0.2.2.2.2.1 + (1 : Int))), g0.2.2.2.2.2.1, g0.2.2.2.2.2.2.1, g0.2.2.2.2.2.2.2)), g1))) (
        O.bind (F_aqueductref18_Table_Learn.S k r2.2.1 r2.1.2.1 a1 g1) fun r6 =>
        O.bind (F_aqueductref20_Bridge_to.S k a1 r2.2.1 r2.1.1 (g0.1, g0.2.1, ((IntKind.i64.wrap (g0.2.2.1 + (1 : Int))), g0.2.2.2.1, g0.2.2.2.2.1, g0.2.2.2.2.2.1, g0.2.2.2.2.2.2.1, g0.2.2.2.2.2.2.2)) r6.2) fun r8 =>
        O.cond r8.1.2 (
         D_j9 r2 r8 (IntKind.i64.wrap (r8.2.1.2.2.2.2.2.1 + (1 : Int)))) (
         D_j9 r2 r8 r8.2.1.2.2.2.2.2.1)))))))
noncomputable def S (k : Nat) (a1 : Int) (a2 : ByteArray) (g0 : TY8 × TY5 × TY6) (g1 : Int × Int × TY12) : O TY26 := top k a1 a2 g0 g1 ((fun (r2 : TY20 × Int × Bool) (r8 : (List Int × Bool) × TY2 × TY11) (v9 : Int) => j9 k a2 r2 r8 v9))
theorem eq (k : Nat) (a1 : Int) (a2 : ByteArray) (g0 : TY8 × TY5 × TY6) (g1 : Int × Int × TY12) : evFn (T := (List Int × Int) × TY2 × TY11) tab (calOf (cal k)) Go.Proofs.Tryz.f6 nt k 2 [.ptr 0 0, .int .i64 a1, .str a2] [] ⟨7, false, [(1, .cells 53 [.int .i64 g1.1, .int .i64 g1.2.1, .osl 6]), (6, .row true 89 [.int .i64, .str, .int .i64, .int .i64] g1.2.2), (0, .cells 45 [.osl 3, .ptr 1 0, .osl 5, .int .i64 g0.2.2.1, .int .i64 g0.2.2.2.1, .int .i64 g0.2.2.2.2.1, .int .i64 g0.2.2.2.2.2.1, .int .i64 g0.2.2.2.2.2.2.1, .int .i64 g0.2.2.2.2.2.2.2]), (5, .tab true 86 [] 4 (.one (.box 95 (.cons (.row true 9 [.str]) (.cons (.leaf (.int .i64)) (.one (.leaf (.int .i64)) [])))) []) g0.2.1), (4, .ghost), (3, .tab false 58 [] 2 (.cons (.leaf (.int .i64)) (.one (.row false 3 [.int .i64]) [])) g0.1), (2, .ghost)]⟩ (fun v st => outK ct.ob (γ0 ct) ct.outs v st .ok) (fun e st => outP ct.ob (γ0 ct) ct.outs e st .ok) = S k a1 a2 g0 g1 := by
 have e0 : (fun (r2 : TY20 × Int × Bool) (r8 : (List Int × Bool) × TY2 × TY11) (v9 : Int) => zj9 (ca k [] [.r, .r, .r, .r, .r, .r, .r, .r, .r, .r]) a2 r2 r8 v9) = (fun (r2 : TY20 × Int × Bool) (r8 : (List Int × Bool) × TY2 × TY11) (v9 : Int) => j9 k a2 r2 r8 v9) := by funext r2 r8 v9; exact j9_eq k a2 r2 r8 v9
 have h : evFn (T := (List Int × Int) × TY2 × TY11) tab (calOf (cal k)) Go.Proofs.Tryz.f6 nt k 2 [.ptr 0 0, .int .i64 a1, .str a2] [] ⟨7, false, [(1, .cells 53 [.int .i64 g1.1, .int .i64 g1.2.1, .osl 6]), (6, .row true 89 [.int .i64, .str, .int .i64, .int .i64] g1.2.2), (0, .cells 45 [.osl 3, .ptr 1 0, .osl 5, .int .i64 g0.2.2.1, .int .i64 g0.2.2.2.1, .int .i64 g0.2.2.2.2.1, .int .i64 g0.2.2.2.2.2.1, .int .i64 g0.2.2.2.2.2.2.1, .int .i64 g0.2.2.2.2.2.2.2]), (5, .tab true 86 [] 4 (.one (.box 95 (.cons (.row true 9 [.str]) (.cons (.leaf (.int .i64)) (.one (.leaf (.int .i64)) [])))) []) g0.2.1), (4, .ghost), (3, .tab false 58 [] 2 (.cons (.leaf (.int .i64)) (.one (.row false 3 [.int .i64]) [])) g0.1), (2, .ghost)]⟩ (fun v st => outK ct.ob (γ0 ct) ct.outs v st .ok) (fun e st => outP ct.ob (γ0 ct) ct.outs e st .ok) = top k a1 a2 g0 g1 ((fun (r2 : TY20 × Int × Bool) (r8 : (List Int × Bool) × TY2 × TY11) (v9 : Int) => zj9 (ca k [] [.r, .r, .r, .r, .r, .r, .r, .r, .r, .r]) a2 r2 r8 v9)) := by kernel_rfl
 exact h.trans (by rw [e0]; rfl)
theorem ok (k : Nat) : FnOkC Tryz.prog 6 ct (fun (x : Int × ByteArray) (g : TY2 × TY11) => S k x.1 x.2 g.1 g.2) :=
 FnOkC.of_ev (C := ct) tab_ok rfl (calOf_ok (cal_ok k)) mixed Tryz.func6 nt k (fun _ _ => rfl) (fun (x : Int × ByteArray) (g : TY2 × TY11) => eq k x.1 x.2 g.1 g.2)
theorem hd {T : Type} (k : Nat) : HdOk Tryz.prog 6 (pureC (T := T) ct [.arg 0 0, .fld 0 1] (fun (x : Int × ByteArray) (g : TY2 × TY11) => S k x.1 x.2 g.1 g.2)) :=
 pureC_ok rfl [.arg 0 0, .fld 0 1] (ok k) Tryz.call6
end F_aqueductref20_Bridge_In
namespace F_aqueductref11_Same
noncomputable def ct : Ct := ⟨.some (.cons (.row false 3 [.int .i64]) (.one (.row false 3 [.int .i64]) [])), [], [⟨.val (.leaf .bool), [], []⟩]⟩
noncomputable def nt : Notes := ⟨[(4, ⟨[0, 1, 5], []⟩)], [], [(6, [0, 1, 2, 3, 4, 5, 6, 7, 8])], [], []⟩
noncomputable def cal0 {T : Type} (k : Nat) : List (FuncId × Hd T) := []
theorem cal0_ok {T : Type} (k : Nat) : HdsOk Tryz.prog (cal0 (T := T) k) := trivial
noncomputable def cal {T : Type} (k : Nat) : List (FuncId × Hd T) := cal0 k
theorem cal_ok {T : Type} (k : Nat) : HdsOk Tryz.prog (cal (T := T) k) := cal0_ok k
noncomputable abbrev la (k : Nat) (Rs : List (Fr → St → O (Bool))) (ds : List Dir) (j : Nat) : Fr → St → O (Bool) := loopAt tab (calOf (cal k)) Go.Proofs.Tryz.f7.ntmps nt k Rs ds (bodyOf Go.Proofs.Tryz.f7) (finK tab Go.Proofs.Tryz.f7.results.toList (fun v st => outK ct.ob (γ0 ct) ct.outs v st .ok) (fun e st => outP ct.ob (γ0 ct) ct.outs e st .ok)) j
noncomputable abbrev zl0 {α : Type} (X : Fr → St → α) (a0 : List Int) (a1 : List Int) (v1 : Int) : α := X ⟨[(0, .osl 0), (1, .osl 1), (5, .int .i64 v1)], [], 0, []⟩ ⟨2, true, [(0, .row false 3 [.int .i64] a0), (1, .row false 3 [.int .i64] a1)]⟩
noncomputable def l0_b (k : Nat) (a0 : List Int) (a1 : List Int) (R_l0 : Int → O Bool) (v1 : Int) : O Bool :=
  O.cond (decide (v1 < (List.length a0 : Int))) (
   O.chk (decide (0 ≤ v1 ∧ v1 < (List.length a0 : Int) ∧ (List.length a0 : Int) ≤ (List.length a0 : Int))) (
    O.chk (decide (0 ≤ v1 ∧ v1 < (List.length a0 : Int))) (
     O.chk (decide (0 ≤ v1 ∧ v1 < (List.length a1 : Int) ∧ (List.length a1 : Int) ≤ (List.length a1 : Int))) (
      O.chk (decide (0 ≤ v1 ∧ v1 < (List.length a1 : Int))) (
       O.cond (decide ((gt (0 : Int) a0 v1) ≠ (gt (0 : Int) a1 v1))) (
        .ok false) (
        R_l0 (IntKind.i64.wrap (v1 + (1 : Int))))))))) (
   .ok true)
noncomputable def l0 (k : Nat) (a0 : List Int) (a1 : List Int) : Nat → Int → O Bool
 | 0, _ => .no
 | j + 1, v1 => l0_b k a0 a1 (l0 k a0 a1 j) v1
theorem l0_eq (k : Nat) (a0 : List Int) (a1 : List Int) : ∀ (j : Nat) (v1 : Int), zl0 (la k [] [.r, .r, .l, .r, .b] j) a0 a1 v1 = l0 k a0 a1 j v1 := by
 intro j
 induction j with
 | zero => intro v1; rfl
 | succ j ih =>
  intro v1
  have rs : (fun (v1' : Int) => zl0 (la k [] [.r, .r, .l, .r, .b] j) a0 a1 v1') = l0 k a0 a1 j := by funext v1'; exact ih v1'
  have h : zl0 (la k [] [.r, .r, .l, .r, .b] (j + 1)) a0 a1 v1 = l0_b k a0 a1 ((fun (v1' : Int) => zl0 (la k [] [.r, .r, .l, .r, .b] j) a0 a1 v1')) v1 := by kernel_rfl
  exact h.trans (by rw [rs]; rfl)
noncomputable def top (k : Nat) (a0 : List Int) (a1 : List Int) (D_l0 : Int → O Bool) : O Bool :=
  O.cond (decide ((List.length a0 : Int) ≠ (List.length a1 : Int))) (
   .ok false) (
   D_l0 (0 : Int))
noncomputable def S (k : Nat) (a0 : List Int) (a1 : List Int) : O Bool := top k a0 a1 ((fun (v1 : Int) => l0 k a0 a1 k v1))
theorem eq (k : Nat) (a0 : List Int) (a1 : List Int) : evFn (T := Bool) tab (calOf (cal k)) Go.Proofs.Tryz.f7 nt k 0 [.osl 0, .osl 1] [] ⟨2, false, [(1, .row false 3 [.int .i64] a1), (0, .row false 3 [.int .i64] a0)]⟩ (fun v st => outK ct.ob (γ0 ct) ct.outs v st .ok) (fun e st => outP ct.ob (γ0 ct) ct.outs e st .ok) = S k a0 a1 := by
 have e0 : (fun (v1 : Int) => zl0 (la k [] [.r, .r, .l, .r, .b] k) a0 a1 v1) = (fun (v1 : Int) => l0 k a0 a1 k v1) := by funext v1; exact l0_eq k a0 a1 k v1
 have h : evFn (T := Bool) tab (calOf (cal k)) Go.Proofs.Tryz.f7 nt k 0 [.osl 0, .osl 1] [] ⟨2, false, [(1, .row false 3 [.int .i64] a1), (0, .row false 3 [.int .i64] a0)]⟩ (fun v st => outK ct.ob (γ0 ct) ct.outs v st .ok) (fun e st => outP ct.ob (γ0 ct) ct.outs e st .ok) = top k a0 a1 ((fun (v1 : Int) => zl0 (la k [] [.r, .r, .l, .r, .b] k) a0 a1 v1)) := by kernel_rfl
 exact h.trans (by rw [e0]; rfl)
theorem ok (k : Nat) : FnOkC Tryz.prog 7 ct (fun (x : List Int × List Int) (_ : Unit) => S k x.1 x.2) :=
 FnOkC.of_ev (C := ct) tab_ok rfl (calOf_ok (cal_ok k)) mixed Tryz.func7 nt k (fun _ _ => rfl) (fun (x : List Int × List Int) (_ : Unit) => eq k x.1 x.2)
theorem hd {T : Type} (k : Nat) : HdOk Tryz.prog 7 (pureC (T := T) ct [] (fun (x : List Int × List Int) (_ : Unit) => S k x.1 x.2)) :=
 pureC_ok rfl [] (ok k) Tryz.call7
end F_aqueductref11_Same
namespace F_slices_Clone_string_string
noncomputable def ct : Ct := ⟨.some (.one (.row false 9 [.str]) []), [], [⟨.val (.row true 9 [.str]), [], []⟩]⟩
noncomputable def nt : Notes := ⟨[], [], [], [], []⟩
noncomputable def cal0 {T : Type} (k : Nat) : List (FuncId × Hd T) := []
theorem cal0_ok {T : Type} (k : Nat) : HdsOk Tryz.prog (cal0 (T := T) k) := trivial
noncomputable def cal {T : Type} (k : Nat) : List (FuncId × Hd T) := cal0 k
theorem cal_ok {T : Type} (k : Nat) : HdsOk Tryz.prog (cal (T := T) k) := cal0_ok k
noncomputable def S (k : Nat) (a0 : List ByteArray) : O (List ByteArray) :=
  O.cond (decide (0 < (List.length a0 : Int))) (
   O.cond false (
    .ok []) (
    O.chk (decide ((0 : Nat) + List.length a0 ≤ 1073741824)) (
     .ok ([] ++ a0)))) (
   O.same (
    O.cond true (
     .ok []) (
     O.chk (decide ((0 : Nat) + List.length a0 ≤ 1073741824)) (
      .ok ([] ++ a0)))) (
    O.cond false (
     .ok []) (
     O.chk (decide ((0 : Nat) + List.length a0 ≤ 1073741824)) (
      .ok ([] ++ a0)))))
theorem eq (k : Nat) (a0 : List ByteArray) : evFn (T := List ByteArray) tab (calOf (cal k)) Go.Proofs.Tryz.f64 nt k 0 [.osl 0] [] ⟨1, false, [(0, .row false 9 [.str] a0)]⟩ (fun v st => outK ct.ob (γ0 ct) ct.outs v st .ok) (fun e st => outP ct.ob (γ0 ct) ct.outs e st .ok) = S k a0 := by kernel_rfl
theorem ok (k : Nat) : FnOkC Tryz.prog 64 ct (fun (x : List ByteArray) (_ : Unit) => S k x) :=
 FnOkC.of_ev (C := ct) tab_ok rfl (calOf_ok (cal_ok k)) mixed Tryz.func64 nt k (fun _ _ => rfl) (fun (x : List ByteArray) (_ : Unit) => eq k x)
theorem hd {T : Type} (k : Nat) : HdOk Tryz.prog 64 (pureC (T := T) ct [] (fun (x : List ByteArray) (_ : Unit) => S k x)) :=
 pureC_ok rfl [] (ok k) Tryz.call64
end F_slices_Clone_string_string
namespace F_bridge_Bridge_Out
noncomputable def ct : Ct := ⟨.some (.pin (.ref 0) (.one (.leaf (.int .i64)) [])), [(66, .cons (.tab false 58 (.cons (.leaf (.int .i64)) (.one (.row false 3 [.int .i64]) []))) (.pin (.ref 1) (.cons (.tab true 78 (.one (.box 129 (.cons (.row true 9 [.str]) (.cons (.leaf (.int .i64)) (.one (.leaf (.int .i64)) [])))) [])) (.one (.agg (.cons (.leaf (.int .i64)) (.cons (.leaf (.int .i64)) (.cons (.leaf (.int .i64)) (.cons (.leaf (.int .i64)) (.cons (.leaf (.int .i64)) (.one (.leaf (.int .i64)) []))))))) [])))), (124, .cons (.leaf (.int .i64)) (.cons (.leaf (.int .i64)) (.one (.map 122 true true [.int .i64, .str] [.int .i64, .str, .int .i64, .int .i64]) [])))], [⟨.tup (.cons (.leaf .str) (.one (.leaf .bool) [])), [], []⟩]⟩
noncomputable def nt : Notes := ⟨[], [], [], [], []⟩
noncomputable def cal0 {T : Type} (k : Nat) : List (FuncId × Hd T) := [(64, pureC F_slices_Clone_string_string.ct [] (fun (x : List ByteArray) (_ : Unit) => F_slices_Clone_string_string.S k x))]
theorem cal0_ok {T : Type} (k : Nat) : HdsOk Tryz.prog (cal0 (T := T) k) := ⟨F_slices_Clone_string_string.hd k, trivial⟩
noncomputable def nt35 : Notes := ⟨[], [], [], [], []⟩
noncomputable def cal1 {T : Type} (k : Nat) : List (FuncId × Hd T) := (35, inlH tab (calOf (cal0 k)) Go.Proofs.Tryz.f35 nt35 k) :: cal0 k
theorem cal1_ok {T : Type} (k : Nat) : HdsOk Tryz.prog (cal1 (T := T) k) := ⟨inlH_ok tab_ok (calOf_ok (cal0_ok k)) mixed Tryz.func35 nt35 k Tryz.call35, cal0_ok k⟩
noncomputable def cal {T : Type} (k : Nat) : List (FuncId × Hd T) := cal1 k
theorem cal_ok {T : Type} (k : Nat) : HdsOk Tryz.prog (cal (T := T) k) := cal1_ok k
noncomputable def S (k : Nat) (a1 : Int) (g0 : TY8 × TY5 × TY6) (g1 : Int × Int × TY0) : O ((ByteArray × Bool) × TY2 × TY3) :=
  O.cond (decide (a1 < (0 : Int))) (
   .ok (((⟨#[]⟩ : ByteArray), false), (g0, g1))) (
   O.cond (decide (a1 ≥ (List.length g0.1 : Int))) (
    .ok (((⟨#[]⟩ : ByteArray), false), (g0, g1))) (
    O.chk (decide (0 ≤ a1 ∧ a1 < (List.length g0.2.1 : Int))) (
     O.chk (decide (0 ≤ a1 ∧ a1 < (List.length g0.2.1 : Int))) (
      O.cond (decide ((List.length ((gt ([], (0 : Int), (0 : Int)) g0.2.1 a1).1) : Int) = (0 : Int))) (
       .ok (((⟨#[]⟩ : ByteArray), false), ((g0.1, (su g0.2.1 a1 (gt ([], (0 : Int), (0 : Int)) g0.2.1 a1)), g0.2.2), g1))) (
       O.chk (decide (0 ≤ (0 : Int) ∧ (0 : Int) < (List.length ((gt ([], (0 : Int), (0 : Int)) g0.2.1 a1).1) : Int) ∧ (List.length ((gt ([], (0 : Int), (0 : Int)) g0.2.1 a1).1) : Int) ≤ (List.length ((gt ([], (0 : Int), (0 : Int)) g0.2.1 a1).1) : Int))) (
        O.chk (decide (0 ≤ (0 : Int) ∧ (0 : Int) < (List.length ((gt ([], (0 : Int), (0 : Int)) g0.2.1 a1).1) : Int))) (
         O.chk (decide (0 ≤ (1 : Int) ∧ (1 : Int) ≤ (List.length ((gt ([], (0 : Int), (0 : Int)) g0.2.1 a1).1) : Int)) && (decide (0 ≤ (List.length ((gt ([], (0 : Int), (0 : Int)) g0.2.1 a1).1) : Int) ∧ (List.length ((gt ([], (0 : Int), (0 : Int)) g0.2.1 a1).1) : Int) ≤ (List.length ((gt ([], (0 : Int), (0 : Int)) g0.2.1 a1).1) : Int)))) (
          O.chk (posI [(1 : Int)] && decide (0 ≤ ((List.length ((gt ([], (0 : Int), (0 : Int)) g0.2.1 a1).1) : Int) - (1 : Int)) ∧ sumI [(1 : Int)] + ((List.length ((gt ([], (0 : Int), (0 : Int)) g0.2.1 a1).1) : Int) - (1 : Int)) ≤ (List.length ((gt ([], (0 : Int), (0 : Int)) g0.2.1 a1).1) : Int))) (
           O.bind (F_slices_Clone_string_string.S k (sub ((gt ([], (0 : Int), (0 : Int)) g0.2.1 a1).1) (sumI [(1 : Int)]) ((List.length ((gt ([], (0 : Int), (0 : Int)) g0.2.1 a1).1) : Int) - (1 : Int)))) fun r1 =>
           .ok (((gt ByteArray.empty ((gt ([], (0 : Int), (0 : Int)) g0.2.1 a1).1) (0 : Int)), true), ((g0.1, (su g0.2.1 a1 (r1, (gt ([], (0 : Int), (0 : Int)) g0.2.1 a1).2.1, (gt ([], (0 : Int), (0 : Int)) g0.2.1 a1).2.2)), g0.2.2), g1)))))))))))
theorem eq (k : Nat) (a1 : Int) (g0 : TY8 × TY5 × TY6) (g1 : Int × Int × TY0) : evFn (T := (ByteArray × Bool) × TY2 × TY3) tab (calOf (cal k)) Go.Proofs.Tryz.f8 nt k 2 [.ptr 0 0, .int .i64 a1] [] ⟨7, false, [(1, .cells 124 [.int .i64 g1.1, .int .i64 g1.2.1, .mp 6]), (6, .map 122 true true [.int .i64, .str] [.int .i64, .str, .int .i64, .int .i64] g1.2.2), (0, .cells 66 [.osl 3, .ptr 1 0, .osl 5, .int .i64 g0.2.2.1, .int .i64 g0.2.2.2.1, .int .i64 g0.2.2.2.2.1, .int .i64 g0.2.2.2.2.2.1, .int .i64 g0.2.2.2.2.2.2.1, .int .i64 g0.2.2.2.2.2.2.2]), (5, .tab true 78 [] 4 (.one (.box 129 (.cons (.row true 9 [.str]) (.cons (.leaf (.int .i64)) (.one (.leaf (.int .i64)) [])))) []) g0.2.1), (4, .ghost), (3, .tab false 58 [] 2 (.cons (.leaf (.int .i64)) (.one (.row false 3 [.int .i64]) [])) g0.1), (2, .ghost)]⟩ (fun v st => outK ct.ob (γ0 ct) ct.outs v st .ok) (fun e st => outP ct.ob (γ0 ct) ct.outs e st .ok) = S k a1 g0 g1 := by kernel_rfl
theorem ok (k : Nat) : FnOkC Tryz.prog 8 ct (fun (x : Int) (g : TY2 × TY3) => S k x g.1 g.2) :=
 FnOkC.of_ev (C := ct) tab_ok rfl (calOf_ok (cal_ok k)) mixed Tryz.func8 nt k (fun _ _ => rfl) (fun (x : Int) (g : TY2 × TY3) => eq k x g.1 g.2)
theorem hd {T : Type} (k : Nat) : HdOk Tryz.prog 8 (pureC (T := T) ct [.arg 0 0, .fld 0 1] (fun (x : Int) (g : TY2 × TY3) => S k x g.1 g.2)) :=
 pureC_ok rfl [.arg 0 0, .fld 0 1] (ok k) Tryz.call8
end F_bridge_Bridge_Out
namespace F_aqueductref20_Bridge_Out
noncomputable def ct : Ct := ⟨.some (.pin (.ref 0) (.one (.leaf (.int .i64)) [])), [(45, .cons (.tab false 58 (.cons (.leaf (.int .i64)) (.one (.row false 3 [.int .i64]) []))) (.pin (.ref 1) (.cons (.tab true 86 (.one (.box 95 (.cons (.row true 9 [.str]) (.cons (.leaf (.int .i64)) (.one (.leaf (.int .i64)) [])))) [])) (.one (.agg (.cons (.leaf (.int .i64)) (.cons (.leaf (.int .i64)) (.cons (.leaf (.int .i64)) (.cons (.leaf (.int .i64)) (.cons (.leaf (.int .i64)) (.one (.leaf (.int .i64)) []))))))) [])))), (53, .cons (.leaf (.int .i64)) (.cons (.leaf (.int .i64)) (.one (.row true 89 [.int .i64, .str, .int .i64, .int .i64]) [])))], [⟨.tup (.cons (.leaf .str) (.one (.leaf .bool) [])), [], []⟩]⟩
noncomputable def nt : Notes := ⟨[], [], [], [], []⟩
noncomputable def cal0 {T : Type} (k : Nat) : List (FuncId × Hd T) := []
theorem cal0_ok {T : Type} (k : Nat) : HdsOk Tryz.prog (cal0 (T := T) k) := trivial
noncomputable def nt36 : Notes := ⟨[], [], [], [], []⟩
noncomputable def cal1 {T : Type} (k : Nat) : List (FuncId × Hd T) := (36, inlH tab (calOf (cal0 k)) Go.Proofs.Tryz.f36 nt36 k) :: cal0 k
theorem cal1_ok {T : Type} (k : Nat) : HdsOk Tryz.prog (cal1 (T := T) k) := ⟨inlH_ok tab_ok (calOf_ok (cal0_ok k)) mixed Tryz.func36 nt36 k Tryz.call36, cal0_ok k⟩
noncomputable def cal {T : Type} (k : Nat) : List (FuncId × Hd T) := cal1 k
theorem cal_ok {T : Type} (k : Nat) : HdsOk Tryz.prog (cal (T := T) k) := cal1_ok k
noncomputable def S (k : Nat) (a1 : Int) (g0 : TY8 × TY5 × TY6) (g1 : Int × Int × TY12) : O ((ByteArray × Bool) × TY2 × TY11) :=
  O.cond (decide (a1 < (0 : Int))) (
   .ok (((⟨#[]⟩ : ByteArray), false), (g0, g1))) (
   O.cond (decide (a1 ≥ (List.length g0.1 : Int))) (
    .ok (((⟨#[]⟩ : ByteArray), false), (g0, g1))) (
    O.chk (decide (0 ≤ a1 ∧ a1 < (List.length g0.2.1 : Int))) (
     O.chk (decide (0 ≤ a1 ∧ a1 < (List.length g0.2.1 : Int))) (
      O.cond (decide ((List.length ((gt ([], (0 : Int), (0 : Int)) g0.2.1 a1).1) : Int) = (0 : Int))) (
       .ok (((⟨#[]⟩ : ByteArray), false), ((g0.1, (su g0.2.1 a1 (gt ([], (0 : Int), (0 : Int)) g0.2.1 a1)), g0.2.2), g1))) (
       O.chk (decide (0 ≤ (0 : Int) ∧ (0 : Int) < (List.length ((gt ([], (0 : Int), (0 : Int)) g0.2.1 a1).1) : Int) ∧ (List.length ((gt ([], (0 : Int), (0 : Int)) g0.2.1 a1).1) : Int) ≤ (List.length ((gt ([], (0 : Int), (0 : Int)) g0.2.1 a1).1) : Int))) (
        O.chk (decide (0 ≤ (0 : Int) ∧ (0 : Int) < (List.length ((gt ([], (0 : Int), (0 : Int)) g0.2.1 a1).1) : Int))) (
         O.chk (decide (0 ≤ (1 : Int) ∧ (1 : Int) ≤ (List.length ((gt ([], (0 : Int), (0 : Int)) g0.2.1 a1).1) : Int)) && (decide (0 ≤ (List.length ((gt ([], (0 : Int), (0 : Int)) g0.2.1 a1).1) : Int) ∧ (List.length ((gt ([], (0 : Int), (0 : Int)) g0.2.1 a1).1) : Int) ≤ (List.length ((gt ([], (0 : Int), (0 : Int)) g0.2.1 a1).1) : Int)))) (
          O.chk (posI [(1 : Int)] && decide (0 ≤ ((List.length ((gt ([], (0 : Int), (0 : Int)) g0.2.1 a1).1) : Int) - (1 : Int)) ∧ sumI [(1 : Int)] + ((List.length ((gt ([], (0 : Int), (0 : Int)) g0.2.1 a1).1) : Int) - (1 : Int)) ≤ (List.length ((gt ([], (0 : Int), (0 : Int)) g0.2.1 a1).1) : Int))) (
           O.chk (decide ((0 : Nat) + List.length (sub ((gt ([], (0 : Int), (0 : Int)) g0.2.1 a1).1) (sumI [(1 : Int)]) ((List.length ((gt ([], (0 : Int), (0 : Int)) g0.2.1 a1).1) : Int) - (1 : Int))) ≤ 1073741824)) (
            .ok (((gt ByteArray.empty ((gt ([], (0 : Int), (0 : Int)) g0.2.1 a1).1) (0 : Int)), true), ((g0.1, (su g0.2.1 a1 (([] ++ (sub ((gt ([], (0 : Int), (0 : Int)) g0.2.1 a1).1) (sumI [(1 : Int)]) ((List.length ((gt ([], (0 : Int), (0 : Int)) g0.2.1 a1).1) : Int) - (1 : Int)))), (gt ([], (0 : Int), (0 : Int)) g0.2.1 a1).2.1, (gt ([], (0 : Int), (0 : Int)) g0.2.1 a1).2.2)), g0.2.2), g1))))))))))))
theorem eq (k : Nat) (a1 : Int) (g0 : TY8 × TY5 × TY6) (g1 : Int × Int × TY12) : evFn (T := (ByteArray × Bool) × TY2 × TY11) tab (calOf (cal k)) Go.Proofs.Tryz.f9 nt k 2 [.ptr 0 0, .int .i64 a1] [] ⟨7, false, [(1, .cells 53 [.int .i64 g1.1, .int .i64 g1.2.1, .osl 6]), (6, .row true 89 [.int .i64, .str, .int .i64, .int .i64] g1.2.2), (0, .cells 45 [.osl 3, .ptr 1 0, .osl 5, .int .i64 g0.2.2.1, .int .i64 g0.2.2.2.1, .int .i64 g0.2.2.2.2.1, .int .i64 g0.2.2.2.2.2.1, .int .i64 g0.2.2.2.2.2.2.1, .int .i64 g0.2.2.2.2.2.2.2]), (5, .tab true 86 [] 4 (.one (.box 95 (.cons (.row true 9 [.str]) (.cons (.leaf (.int .i64)) (.one (.leaf (.int .i64)) [])))) []) g0.2.1), (4, .ghost), (3, .tab false 58 [] 2 (.cons (.leaf (.int .i64)) (.one (.row false 3 [.int .i64]) [])) g0.1), (2, .ghost)]⟩ (fun v st => outK ct.ob (γ0 ct) ct.outs v st .ok) (fun e st => outP ct.ob (γ0 ct) ct.outs e st .ok) = S k a1 g0 g1 := by kernel_rfl
theorem ok (k : Nat) : FnOkC Tryz.prog 9 ct (fun (x : Int) (g : TY2 × TY11) => S k x g.1 g.2) :=
 FnOkC.of_ev (C := ct) tab_ok rfl (calOf_ok (cal_ok k)) mixed Tryz.func9 nt k (fun _ _ => rfl) (fun (x : Int) (g : TY2 × TY11) => eq k x g.1 g.2)
theorem hd {T : Type} (k : Nat) : HdOk Tryz.prog 9 (pureC (T := T) ct [.arg 0 0, .fld 0 1] (fun (x : Int) (g : TY2 × TY11) => S k x g.1 g.2)) :=
 pureC_ok rfl [.arg 0 0, .fld 0 1] (ok k) Tryz.call9
end F_aqueductref20_Bridge_Out
namespace F_aqueductref18_Table_Tick
noncomputable def ct : Ct := ⟨.some (.pins [.ref 0]), [(53, .cons (.leaf (.int .i64)) (.cons (.leaf (.int .i64)) (.one (.row true 89 [.int .i64, .str, .int .i64, .int .i64]) [])))], [⟨.val (.leaf (.int .i64)), [], []⟩]⟩
noncomputable def nt : Notes := ⟨[(3, ⟨[0, 3, 4], []⟩)], [], [(7, [0, 1, 2, 3, 4, 5, 6])], [], []⟩
noncomputable def cal0 {T : Type} (k : Nat) : List (FuncId × Hd T) := []
theorem cal0_ok {T : Type} (k : Nat) : HdsOk Tryz.prog (cal0 (T := T) k) := trivial
noncomputable def cal {T : Type} (k : Nat) : List (FuncId × Hd T) := cal0 k
theorem cal_ok {T : Type} (k : Nat) : HdsOk Tryz.prog (cal (T := T) k) := cal0_ok k
noncomputable abbrev la (k : Nat) (Rs : List (Fr → St → O TY23)) (ds : List Dir) (j : Nat) : Fr → St → O TY23 := loopAt tab (calOf (cal k)) Go.Proofs.Tryz.f11.ntmps nt k Rs ds (bodyOf Go.Proofs.Tryz.f11) (finK tab Go.Proofs.Tryz.f11.results.toList (fun v st => outK ct.ob (γ0 ct) ct.outs v st .ok) (fun e st => outP ct.ob (γ0 ct) ct.outs e st .ok)) j
noncomputable abbrev zl0 {α : Type} (X : Fr → St → α) (g0 : Int × Int × TY12) (v1 : Int) (v2 : List TY13) : α := X ⟨[(0, .ptr 0 0), (3, .osl 1), (4, .int .i64 v1)], [], 1, []⟩ ⟨3, true, [(1, .row true 89 [.int .i64, .str, .int .i64, .int .i64] v2), (2, .row true 89 [.int .i64, .str, .int .i64, .int .i64] g0.2.2), (0, .cells 53 [.int .i64 g0.1, .int .i64 g0.2.1, .osl 2])]⟩
noncomputable def l0_b (k : Nat) (g0 : Int × Int × TY12) (R_l0 : Int → TY12 → O TY23) (v1 : Int) (v2 : List TY13) : O TY23 :=
  O.cond (decide (v1 < (List.length g0.2.2 : Int))) (
   O.chk (decide (0 ≤ v1 ∧ v1 < (List.length g0.2.2 : Int) ∧ (List.length g0.2.2 : Int) ≤ (List.length g0.2.2 : Int))) (
    O.chk (decide (0 ≤ v1 ∧ v1 < (List.length g0.2.2 : Int))) (
     O.cond (decide ((IntKind.i64.wrap ((gt ((0 : Int), ByteArray.empty, (0 : Int), (0 : Int)) g0.2.2 v1).2.2.2 + (1 : Int))) < g0.2.1)) (
      O.chk (decide (List.length v2 + List.length [((gt ((0 : Int), ByteArray.empty, (0 : Int), (0 : Int)) g0.2.2 v1).1, (gt ((0 : Int), ByteArray.empty, (0 : Int), (0 : Int)) g0.2.2 v1).2.1, (gt ((0 : Int), ByteArray.empty, (0 : Int), (0 : Int)) g0.2.2 v1).2.2.1, (IntKind.i64.wrap ((gt ((0 : Int), ByteArray.empty, (0 : Int), (0 : Int)) g0.2.2 v1).2.2.2 + (1 : Int))))] ≤ 1073741824)) (
       R_l0 (IntKind.i64.wrap (v1 + (1 : Int))) (v2 ++ [((gt ((0 : Int), ByteArray.empty, (0 : Int), (0 : Int)) g0.2.2 v1).1, (gt ((0 : Int), ByteArray.empty, (0 : Int), (0 : Int)) g0.2.2 v1).2.1, (gt ((0 : Int), ByteArray.empty, (0 : Int), (0 : Int)) g0.2.2 v1).2.2.1, (IntKind.i64.wrap ((gt ((0 : Int), ByteArray.empty, (0 : Int), (0 : Int)) g0.2.2 v1).2.2.2 + (1 : Int))))]))) (
      R_l0 (IntKind.i64.wrap (v1 + (1 : Int))) v2)))) (
   .ok ((IntKind.i64.wrap ((List.length g0.2.2 : Int) - (List.length v2 : Int))), (g0.1, g0.2.1, v2)))
noncomputable def l0 (k : Nat) (g0 : Int × Int × TY12) : Nat → Int → TY12 → O TY23
 | 0, _, _ => .no
 | j + 1, v1, v2 => l0_b k g0 (l0 k g0 j) v1 v2
theorem l0_eq (k : Nat) (g0 : Int × Int × TY12) : ∀ (j : Nat) (v1 : Int) (v2 : List TY13), zl0 (la k [] [.r, .r, .l, .r, .b] j) g0 v1 v2 = l0 k g0 j v1 v2 := by
 intro j
 induction j with
 | zero => intro v1 v2; rfl
 | succ j ih =>
  intro v1 v2
  have rs : (fun (v1' : Int) (v2' : List TY13) => zl0 (la k [] [.r, .r, .l, .r, .b] j) g0 v1' v2') = l0 k g0 j := by funext v1' v2'; exact ih v1' v2'
  have h : zl0 (la k [] [.r, .r, .l, .r, .b] (j + 1)) g0 v1 v2 = l0_b k g0 ((fun (v1' : Int) (v2' : List TY13) => zl0 (la k [] [.r, .r, .l, .r, .b] j) g0 v1' v2')) v1 v2 := by kernel_rfl
  exact h.trans (by rw [rs]; rfl)
noncomputable def top (k : Nat) (g0 : Int × Int × TY12) (D_l0 : Int → TY12 → O TY23) : O TY23 :=
 D_l0 (0 : Int) []
noncomputable def S (k : Nat) (g0 : Int × Int × TY12) : O TY23 := top k g0 ((fun (v1 : Int) (v2 : List TY13) => l0 k g0 k v1 v2))
theorem eq (k : Nat) (g0 : Int × Int × TY12) : evFn (T := Int × Int × Int × TY12) tab (calOf (cal k)) Go.Proofs.Tryz.f11 nt k 1 [.ptr 0 0] [] ⟨2, false, [(0, .cells 53 [.int .i64 g0.1, .int .i64 g0.2.1, .osl 1]), (1, .row true 89 [.int .i64, .str, .int .i64, .int .i64] g0.2.2)]⟩ (fun v st => outK ct.ob (γ0 ct) ct.outs v st .ok) (fun e st => outP ct.ob (γ0 ct) ct.outs e st .ok) = S k g0 := by
 have e0 : (fun (v1 : Int) (v2 : List TY13) => zl0 (la k [] [.r, .r, .l, .r, .b] k) g0 v1 v2) = (fun (v1 : Int) (v2 : List TY13) => l0 k g0 k v1 v2) := by funext v1 v2; exact l0_eq k g0 k v1 v2
 have h : evFn (T := Int × Int × Int × TY12) tab (calOf (cal k)) Go.Proofs.Tryz.f11 nt k 1 [.ptr 0 0] [] ⟨2, false, [(0, .cells 53 [.int .i64 g0.1, .int .i64 g0.2.1, .osl 1]), (1, .row true 89 [.int .i64, .str, .int .i64, .int .i64] g0.2.2)]⟩ (fun v st => outK ct.ob (γ0 ct) ct.outs v st .ok) (fun e st => outP ct.ob (γ0 ct) ct.outs e st .ok) = top k g0 ((fun (v1 : Int) (v2 : List TY13) => zl0 (la k [] [.r, .r, .l, .r, .b] k) g0 v1 v2)) := by kernel_rfl
 exact h.trans (by rw [e0]; rfl)
theorem ok (k : Nat) : FnOkC Tryz.prog 11 ct (fun (_ : Unit) (g : Int × Int × TY12) => S k g) :=
 FnOkC.of_ev (C := ct) tab_ok rfl (calOf_ok (cal_ok k)) mixed Tryz.func11 nt k (fun _ _ => rfl) (fun (_ : Unit) (g : Int × Int × TY12) => eq k g)
theorem hd {T : Type} (k : Nat) : HdOk Tryz.prog 11 (pureC (T := T) ct [.arg 0 0] (fun (_ : Unit) (g : Int × Int × TY12) => S k g)) :=
 pureC_ok rfl [.arg 0 0] (ok k) Tryz.call11
end F_aqueductref18_Table_Tick
end Go.Proofs.YtkihcmcaignmkaaGreat
end
