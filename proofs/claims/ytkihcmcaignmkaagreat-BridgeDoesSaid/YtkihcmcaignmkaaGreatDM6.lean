/- Texts of this proof, joined (2 of them): DS4, DS5.
   Conditions: none but those that stand at each theorem. -/
import Derived.Test.YtkihcmcaignmkaaGreatDM5
section
namespace Go.Proofs.YtkihcmcaignmkaaGreat
open Go.Aq
set_option linter.unusedVariables false
set_option maxRecDepth 100000
namespace F_bridge_Bridge_Clone
noncomputable def ct : Ct := ⟨.some (.pins [.ref 0]), [(66, .cons (.tab false 58 (.cons (.leaf (.int .i64)) (.one (.row false 3 [.int .i64]) []))) (.pin (.ref 1) (.cons (.tab true 78 (.one (.box 129 (.cons (.row true 9 [.str]) (.cons (.leaf (.int .i64)) (.one (.leaf (.int .i64)) [])))) [])) (.one (.agg (.cons (.leaf (.int .i64)) (.cons (.leaf (.int .i64)) (.cons (.leaf (.int .i64)) (.cons (.leaf (.int .i64)) (.cons (.leaf (.int .i64)) (.one (.leaf (.int .i64)) []))))))) [])))), (124, .cons (.leaf (.int .i64)) (.cons (.leaf (.int .i64)) (.one (.map 122 true true [.int .i64, .str] [.int .i64, .str, .int .i64, .int .i64]) [])))], [⟨.pin (.ref 2), [(66, .cons (.tab false 58 (.cons (.leaf (.int .i64)) (.one (.row false 3 [.int .i64]) []))) (.pin (.ref 3) (.cons (.tab true 78 (.one (.box 129 (.cons (.row true 9 [.str]) (.cons (.leaf (.int .i64)) (.one (.leaf (.int .i64)) [])))) [])) (.one (.agg (.cons (.leaf (.int .i64)) (.cons (.leaf (.int .i64)) (.cons (.leaf (.int .i64)) (.cons (.leaf (.int .i64)) (.cons (.leaf (.int .i64)) (.one (.leaf (.int .i64)) []))))))) [])))), (124, .cons (.leaf (.int .i64)) (.cons (.leaf (.int .i64)) (.one (.map 122 true true [.int .i64, .str] [.int .i64, .str, .int .i64, .int .i64]) [])))], [.arg 0 0, .fld 2 1]⟩]⟩
noncomputable def nt : Notes := ⟨[(3, ⟨[3, 24, 25, 26], [(.slot 3 [2], 78, .tb (.one (.box 129 (.cons (.row true 9 [.str]) (.cons (.leaf (.int .i64)) (.one (.leaf (.int .i64)) [])))) []))]⟩)], [], [(1, [0, 1, 2, 3, 4, 5, 6, 7, 9, 10, 11, 12, 8, 13, 14, 15]), (5, [0, 1, 2, 3, 4, 5, 6, 7, 8, 9, 10, 11])], [], []⟩
noncomputable def cal0 {T : Type} (k : Nat) : List (FuncId × Hd T) := [(64, pureC F_slices_Clone_string_string.ct [] (fun (x : List ByteArray) (_ : Unit) => F_slices_Clone_string_string.S k x)), (65, F_maps_Clone.h)]
theorem cal0_ok {T : Type} (k : Nat) : HdsOk Tryz.prog (cal0 (T := T) k) := ⟨F_slices_Clone_string_string.hd k, F_maps_Clone.hd k, trivial⟩
noncomputable def nt38 : Notes := ⟨[], [], [(1, [0, 1, 2, 3, 4, 5, 6, 7, 8, 9, 10, 11, 12, 13, 14, 15])], [], []⟩
noncomputable def cal1 {T : Type} (k : Nat) : List (FuncId × Hd T) := (38, inlH tab (calOf (cal0 k)) Go.Proofs.Tryz.f38 nt38 k) :: cal0 k
theorem cal1_ok {T : Type} (k : Nat) : HdsOk Tryz.prog (cal1 (T := T) k) := ⟨inlH_ok tab_ok (calOf_ok (cal0_ok k)) mixed Tryz.func38 nt38 k Tryz.call38, cal0_ok k⟩
noncomputable def nt39 : Notes := ⟨[], [], [(1, [0, 1, 2, 3, 5, 6, 7, 8, 9, 10, 11, 12, 4, 13, 14, 15])], [], []⟩
noncomputable def cal2 {T : Type} (k : Nat) : List (FuncId × Hd T) := (39, inlH tab (calOf (cal1 k)) Go.Proofs.Tryz.f39 nt39 k) :: cal1 k
theorem cal2_ok {T : Type} (k : Nat) : HdsOk Tryz.prog (cal2 (T := T) k) := ⟨inlH_ok tab_ok (calOf_ok (cal1_ok k)) mixed Tryz.func39 nt39 k Tryz.call39, cal1_ok k⟩
noncomputable def cal {T : Type} (k : Nat) : List (FuncId × Hd T) := cal2 k
theorem cal_ok {T : Type} (k : Nat) : HdsOk Tryz.prog (cal (T := T) k) := cal2_ok k
noncomputable abbrev la (k : Nat) (Rs : List (Fr → St → O TY27)) (ds : List Dir) (j : Nat) : Fr → St → O TY27 := loopAt tab (calOf (cal k)) Go.Proofs.Tryz.f12.ntmps nt k Rs ds (bodyOf Go.Proofs.Tryz.f12) (finK tab Go.Proofs.Tryz.f12.results.toList (fun v st => outK ct.ob (γ0 ct) ct.outs v st .ok) (fun e st => outP ct.ob (γ0 ct) ct.outs e st .ok)) j
noncomputable abbrev zl0 {α : Type} (X : Fr → St → α) (g0 : TY8 × TY5 × TY6) (g1 : Int × Int × TY0) (v3 : Int) (v4 : List TY7) (v5 : List TY7) : α := X ⟨[(3, .ptr 2 0), (24, .osl 3), (25, .int .i64 (List.length g0.2.1 : Int)), (26, .int .i64 v3)], [], 2, []⟩ ⟨12, true, [(2, .cells 66 [.osl 4, .ptr 6 0, .osl 7, .int .i64 g0.2.2.1, .int .i64 g0.2.2.2.1, .int .i64 g0.2.2.2.2.1, .int .i64 g0.2.2.2.2.2.1, .int .i64 g0.2.2.2.2.2.2.1, .int .i64 g0.2.2.2.2.2.2.2]), (3, .tab true 78 [] 8 (.one (.box 129 (.cons (.row true 9 [.str]) (.cons (.leaf (.int .i64)) (.one (.leaf (.int .i64)) [])))) []) v4), (4, .tab false 58 [] 9 (.cons (.leaf (.int .i64)) (.one (.row false 3 [.int .i64]) [])) g0.1), (5, .map 122 true true [.int .i64, .str] [.int .i64, .str, .int .i64, .int .i64] g1.2.2), (6, .cells 124 [.int .i64 g1.1, .int .i64 g1.2.1, .mp 10]), (7, .tab true 78 [] 11 (.one (.box 129 (.cons (.row true 9 [.str]) (.cons (.leaf (.int .i64)) (.one (.leaf (.int .i64)) [])))) []) v5), (8, .ghost), (9, .ghost), (10, .map 122 true true [.int .i64, .str] [.int .i64, .str, .int .i64, .int .i64] g1.2.2), (11, .ghost), (0, .cells 66 [.osl 4, .ptr 1 0, .osl 3, .int .i64 g0.2.2.1, .int .i64 g0.2.2.2.1, .int .i64 g0.2.2.2.2.1, .int .i64 g0.2.2.2.2.2.1, .int .i64 g0.2.2.2.2.2.2.1, .int .i64 g0.2.2.2.2.2.2.2]), (1, .cells 124 [.int .i64 g1.1, .int .i64 g1.2.1, .mp 5])]⟩
noncomputable def l0_b (k : Nat) (g0 : TY8 × TY5 × TY6) (g1 : Int × Int × TY0) (R_l0 : Int → TY5 → TY5 → O TY27) (v3 : Int) (v4 : List TY7) (v5 : List TY7) : O TY27 :=
  O.cond (decide (v3 < (List.length g0.2.1 : Int))) (
   O.chk (decide (0 ≤ v3 ∧ v3 < (List.length v4 : Int))) (
    O.chk (decide (0 ≤ v3 ∧ v3 < (List.length v4 : Int))) (
     O.bind (F_slices_Clone_string_string.S k ((gt ([], (0 : Int), (0 : Int)) v4 v3).1)) fun r7 =>
     O.chk (decide (List.length v5 + 1 ≤ 1073741824)) (
      R_l0 (IntKind.i64.wrap (v3 + (1 : Int))) (su v4 v3 (gt ([], (0 : Int), (0 : Int)) v4 v3)) (v5 ++ [(r7, (gt ([], (0 : Int), (0 : Int)) v4 v3).2.1, (gt ([], (0 : Int), (0 : Int)) v4 v3).2.2)]))))) (
   .ok ((g0.1, v4, g0.2.2), g1, (g0.1, v5, g0.2.2), g1))
noncomputable def l0 (k : Nat) (g0 : TY8 × TY5 × TY6) (g1 : Int × Int × TY0) : Nat → Int → TY5 → TY5 → O TY27
 | 0, _, _, _ => .no
 | j + 1, v3, v4, v5 => l0_b k g0 g1 (l0 k g0 g1 j) v3 v4 v5
theorem l0_eq (k : Nat) (g0 : TY8 × TY5 × TY6) (g1 : Int × Int × TY0) : ∀ (j : Nat) (v3 : Int) (v4 : List TY7) (v5 : List TY7), zl0 (la k [] [.r, .r, .l, .r, .b] j) g0 g1 v3 v4 v5 = l0 k g0 g1 j v3 v4 v5 := by
 intro j
 induction j with
 | zero => intro v3 v4 v5; rfl
 | succ j ih =>
  intro v3 v4 v5
  have rs : (fun (v3' : Int) (v4' : List TY7) (v5' : List TY7) => zl0 (la k [] [.r, .r, .l, .r, .b] j) g0 g1 v3' v4' v5') = l0 k g0 g1 j := by funext v3' v4' v5'; exact ih v3' v4' v5'
  have h : zl0 (la k [] [.r, .r, .l, .r, .b] (j + 1)) g0 g1 v3 v4 v5 = l0_b k g0 g1 ((fun (v3' : Int) (v4' : List TY7) (v5' : List TY7) => zl0 (la k [] [.r, .r, .l, .r, .b] j) g0 g1 v3' v4' v5')) v3 v4 v5 := by kernel_rfl
  exact h.trans (by rw [rs]; rfl)
noncomputable def top (k : Nat) (g0 : TY8 × TY5 × TY6) (g1 : Int × Int × TY0) (D_l0 : Int → TY5 → TY5 → O TY27) : O TY27 :=
 D_l0 (0 : Int) g0.2.1 []
noncomputable def S (k : Nat) (g0 : TY8 × TY5 × TY6) (g1 : Int × Int × TY0) : O TY27 := top k g0 g1 ((fun (v3 : Int) (v4 : List TY7) (v5 : List TY7) => l0 k g0 g1 k v3 v4 v5))
theorem eq (k : Nat) (g0 : TY8 × TY5 × TY6) (g1 : Int × Int × TY0) : evFn (T := TY2 × TY3 × TY2 × TY3) tab (calOf (cal k)) Go.Proofs.Tryz.f12 nt k 2 [.ptr 0 0] [] ⟨7, false, [(1, .cells 124 [.int .i64 g1.1, .int .i64 g1.2.1, .mp 6]), (6, .map 122 true true [.int .i64, .str] [.int .i64, .str, .int .i64, .int .i64] g1.2.2), (0, .cells 66 [.osl 3, .ptr 1 0, .osl 5, .int .i64 g0.2.2.1, .int .i64 g0.2.2.2.1, .int .i64 g0.2.2.2.2.1, .int .i64 g0.2.2.2.2.2.1, .int .i64 g0.2.2.2.2.2.2.1, .int .i64 g0.2.2.2.2.2.2.2]), (5, .tab true 78 [] 4 (.one (.box 129 (.cons (.row true 9 [.str]) (.cons (.leaf (.int .i64)) (.one (.leaf (.int .i64)) [])))) []) g0.2.1), (4, .ghost), (3, .tab false 58 [] 2 (.cons (.leaf (.int .i64)) (.one (.row false 3 [.int .i64]) [])) g0.1), (2, .ghost)]⟩ (fun v st => outK ct.ob (γ0 ct) ct.outs v st .ok) (fun e st => outP ct.ob (γ0 ct) ct.outs e st .ok) = S k g0 g1 := by
 have e0 : (fun (v3 : Int) (v4 : List TY7) (v5 : List TY7) => zl0 (la k [] [.r, .r, .l, .r, .b] k) g0 g1 v3 v4 v5) = (fun (v3 : Int) (v4 : List TY7) (v5 : List TY7) => l0 k g0 g1 k v3 v4 v5) := by funext v3 v4 v5; exact l0_eq k g0 g1 k v3 v4 v5
 have h : evFn (T := TY2 × TY3 × TY2 × TY3) tab (calOf (cal k)) Go.Proofs.Tryz.f12 nt k 2 [.ptr 0 0] [] ⟨7, false, [(1, .cells 124 [.int .i64 g1.1, .int .i64 g1.2.1, .mp 6]), (6, .map 122 true true [.int .i64, .str] [.int .i64, .str, .int .i64, .int .i64] g1.2.2), (0, .cells 66 [.osl 3, .ptr 1 0, .osl 5, .int .i64 g0.2.2.1, .int .i64 g0.2.2.2.1, .int .i64 g0.2.2.2.2.1, .int .i64 g0.2.2.2.2.2.1, .int .i64 g0.2.2.2.2.2.2.1, .int .i64 g0.2.2.2.2.2.2.2]), (5, .tab true 78 [] 4 (.one (.box 129 (.cons (.row true 9 [.str]) (.cons (.leaf (.int .i64)) (.one (.leaf (.int .i64)) [])))) []) g0.2.1), (4, .ghost), (3, .tab false 58 [] 2 (.cons (.leaf (.int .i64)) (.one (.row false 3 [.int .i64]) [])) g0.1), (2, .ghost)]⟩ (fun v st => outK ct.ob (γ0 ct) ct.outs v st .ok) (fun e st => outP ct.ob (γ0 ct) ct.outs e st .ok) = top k g0 g1 ((fun (v3 : Int) (v4 : List TY7) (v5 : List TY7) => zl0 (la k [] [.r, .r, .l, .r, .b] k) g0 g1 v3 v4 v5)) := by kernel_rfl
 exact h.trans (by rw [e0]; rfl)
theorem ok (k : Nat) : FnOkC Tryz.prog 12 ct (fun (_ : Unit) (g : TY2 × TY3) => S k g.1 g.2) :=
 FnOkC.of_ev (C := ct) tab_ok rfl (calOf_ok (cal_ok k)) mixed Tryz.func12 nt k (fun _ _ => rfl) (fun (_ : Unit) (g : TY2 × TY3) => eq k g.1 g.2)
theorem hd {T : Type} (k : Nat) : HdOk Tryz.prog 12 (pureC (T := T) ct [.arg 0 0, .fld 0 1] (fun (_ : Unit) (g : TY2 × TY3) => S k g.1 g.2)) :=
 pureC_ok rfl [.arg 0 0, .fld 0 1] (ok k) Tryz.call12
end F_bridge_Bridge_Clone
namespace F_aqueductlaw20_own
noncomputable def ct : Ct := ⟨.some (.one (.leaf (.int .i64)) []), [], [⟨.val (.leaf .str), [], []⟩]⟩
noncomputable def nt : Notes := ⟨[], [], [], [], []⟩
noncomputable def cal0 {T : Type} (k : Nat) : List (FuncId × Hd T) := []
theorem cal0_ok {T : Type} (k : Nat) : HdsOk Tryz.prog (cal0 (T := T) k) := trivial
noncomputable def cal {T : Type} (k : Nat) : List (FuncId × Hd T) := cal0 k
theorem cal_ok {T : Type} (k : Nat) : HdsOk Tryz.prog (cal (T := T) k) := cal0_ok k
noncomputable def S (k : Nat) (a0 : Int) : O ByteArray :=
  O.chk (decide (((ByteArray.size (⟨#[2, 0, 0, 0, 0]⟩ : ByteArray) + ByteArray.size (Go.Aq.strOf [(IntKind.u8.wrap a0)]) : Nat) : Int) ≤ 9223372036854775807)) (
   .ok ((⟨#[2, 0, 0, 0, 0]⟩ : ByteArray) ++ (Go.Aq.strOf [(IntKind.u8.wrap a0)])))
theorem eq (k : Nat) (a0 : Int) : evFn (T := ByteArray) tab (calOf (cal k)) Go.Proofs.Tryz.f40 nt k 0 [.int .i64 a0] [] ⟨0, false, []⟩ (fun v st => outK ct.ob (γ0 ct) ct.outs v st .ok) (fun e st => outP ct.ob (γ0 ct) ct.outs e st .ok) = S k a0 := by kernel_rfl
theorem ok (k : Nat) : FnOkC Tryz.prog 40 ct (fun (x : Int) (_ : Unit) => S k x) :=
 FnOkC.of_ev (C := ct) tab_ok rfl (calOf_ok (cal_ok k)) mixed Tryz.func40 nt k (fun _ _ => rfl) (fun (x : Int) (_ : Unit) => eq k x)
theorem hd {T : Type} (k : Nat) : HdOk Tryz.prog 40 (pureC (T := T) ct [] (fun (x : Int) (_ : Unit) => S k x)) :=
 pureC_ok rfl [] (ok k) Tryz.call40
end F_aqueductlaw20_own
namespace F_aqueductlaw20_from
noncomputable def ct : Ct := ⟨.some (.cons (.leaf (.int .i64)) (.one (.leaf (.int .i64)) [])), [], [⟨.val (.leaf .str), [], []⟩]⟩
noncomputable def nt : Notes := ⟨[], [], [], [], []⟩
noncomputable def cal0 {T : Type} (k : Nat) : List (FuncId × Hd T) := [(40, pureC F_aqueductlaw20_own.ct [] (fun (x : Int) (_ : Unit) => F_aqueductlaw20_own.S k x))]
theorem cal0_ok {T : Type} (k : Nat) : HdsOk Tryz.prog (cal0 (T := T) k) := ⟨F_aqueductlaw20_own.hd k, trivial⟩
noncomputable def cal {T : Type} (k : Nat) : List (FuncId × Hd T) := cal0 k
theorem cal_ok {T : Type} (k : Nat) : HdsOk Tryz.prog (cal (T := T) k) := cal0_ok k
noncomputable def S (k : Nat) (a0 : Int) (a1 : Int) : O ByteArray :=
  O.bind (F_aqueductlaw20_own.S k a1) fun r1 =>
  O.bind (F_aqueductlaw20_own.S k a0) fun r2 =>
  O.chk (decide (((ByteArray.size r1 + ByteArray.size r2 : Nat) : Int) ≤ 9223372036854775807)) (
   O.chk (decide (((ByteArray.size (r1 ++ r2) + ByteArray.size (⟨#[8, 0, 98, 111, 100, 121]⟩ : ByteArray) : Nat) : Int) ≤ 9223372036854775807)) (
    .ok ((r1 ++ r2) ++ (⟨#[8, 0, 98, 111, 100, 121]⟩ : ByteArray))))
theorem eq (k : Nat) (a0 : Int) (a1 : Int) : evFn (T := ByteArray) tab (calOf (cal k)) Go.Proofs.Tryz.f13 nt k 0 [.int .i64 a0, .int .i64 a1] [] ⟨0, false, []⟩ (fun v st => outK ct.ob (γ0 ct) ct.outs v st .ok) (fun e st => outP ct.ob (γ0 ct) ct.outs e st .ok) = S k a0 a1 := by kernel_rfl
theorem ok (k : Nat) : FnOkC Tryz.prog 13 ct (fun (x : Int × Int) (_ : Unit) => S k x.1 x.2) :=
 FnOkC.of_ev (C := ct) tab_ok rfl (calOf_ok (cal_ok k)) mixed Tryz.func13 nt k (fun _ _ => rfl) (fun (x : Int × Int) (_ : Unit) => eq k x.1 x.2)
theorem hd {T : Type} (k : Nat) : HdOk Tryz.prog 13 (pureC (T := T) ct [] (fun (x : Int × Int) (_ : Unit) => S k x.1 x.2)) :=
 pureC_ok rfl [] (ok k) Tryz.call13
end F_aqueductlaw20_from
namespace F_aqueductref18_Same
noncomputable def ct : Ct := ⟨.some (.cons (.row false 89 [.int .i64, .str, .int .i64, .int .i64]) (.one (.row false 89 [.int .i64, .str, .int .i64, .int .i64]) [])), [], [⟨.val (.leaf .bool), [], []⟩]⟩
noncomputable def nt : Notes := ⟨[(4, ⟨[0, 1, 5], []⟩)], [], [(6, [0, 1, 2, 3, 4, 5, 6, 7, 8])], [], []⟩
noncomputable def cal0 {T : Type} (k : Nat) : List (FuncId × Hd T) := []
theorem cal0_ok {T : Type} (k : Nat) : HdsOk Tryz.prog (cal0 (T := T) k) := trivial
noncomputable def cal {T : Type} (k : Nat) : List (FuncId × Hd T) := cal0 k
theorem cal_ok {T : Type} (k : Nat) : HdsOk Tryz.prog (cal (T := T) k) := cal0_ok k
noncomputable abbrev la (k : Nat) (Rs : List (Fr → St → O (Bool))) (ds : List Dir) (j : Nat) : Fr → St → O (Bool) := loopAt tab (calOf (cal k)) Go.Proofs.Tryz.f15.ntmps nt k Rs ds (bodyOf Go.Proofs.Tryz.f15) (finK tab Go.Proofs.Tryz.f15.results.toList (fun v st => outK ct.ob (γ0 ct) ct.outs v st .ok) (fun e st => outP ct.ob (γ0 ct) ct.outs e st .ok)) j
noncomputable abbrev zl0 {α : Type} (X : Fr → St → α) (a0 : List TY13) (a1 : List TY13) (v1 : Int) : α := X ⟨[(0, .osl 0), (1, .osl 1), (5, .int .i64 v1)], [], 0, []⟩ ⟨2, true, [(0, .row false 89 [.int .i64, .str, .int .i64, .int .i64] a0), (1, .row false 89 [.int .i64, .str, .int .i64, .int .i64] a1)]⟩
noncomputable def l0_b (k : Nat) (a0 : List TY13) (a1 : List TY13) (R_l0 : Int → O Bool) (v1 : Int) : O Bool :=
  O.cond (decide (v1 < (List.length a0 : Int))) (
   O.chk (decide (0 ≤ v1 ∧ v1 < (List.length a0 : Int) ∧ (List.length a0 : Int) ≤ (List.length a0 : Int))) (
    O.chk (decide (0 ≤ v1 ∧ v1 < (List.length a0 : Int))) (
     O.chk (decide (0 ≤ v1 ∧ v1 < (List.length a1 : Int) ∧ (List.length a1 : Int) ≤ (List.length a1 : Int))) (
      O.chk (decide (0 ≤ v1 ∧ v1 < (List.length a1 : Int))) (
       O.cond (!(decide ((gt ((0 : Int), ByteArray.empty, (0 : Int), (0 : Int)) a0 v1).1 = (gt ((0 : Int), ByteArray.empty, (0 : Int), (0 : Int)) a1 v1).1) && (decide ((gt ((0 : Int), ByteArray.empty, (0 : Int), (0 : Int)) a0 v1).2.1 = (gt ((0 : Int), ByteArray.empty, (0 : Int), (0 : Int)) a1 v1).2.1) && (decide ((gt ((0 : Int), ByteArray.empty, (0 : Int), (0 : Int)) a0 v1).2.2.1 = (gt ((0 : Int), ByteArray.empty, (0 : Int), (0 : Int)) a1 v1).2.2.1) && (decide ((gt ((0 : Int), ByteArray.empty, (0 : Int), (0 : Int)) a0 v1).2.2.2 = (gt ((0 : Int), ByteArray.empty, (0 : Int), (0 : Int)) a1 v1).2.2.2) && true))))) (
        .ok false) (
        R_l0 (IntKind.i64.wrap (v1 + (1 : Int))))))))) (
   .ok true)
noncomputable def l0 (k : Nat) (a0 : List TY13) (a1 : List TY13) : Nat → Int → O Bool
 | 0, _ => .no
 | j + 1, v1 => l0_b k a0 a1 (l0 k a0 a1 j) v1
theorem l0_eq (k : Nat) (a0 : List TY13) (a1 : List TY13) : ∀ (j : Nat) (v1 : Int), zl0 (la k [] [.r, .r, .l, .r, .b] j) a0 a1 v1 = l0 k a0 a1 j v1 := by
 intro j
 induction j with
 | zero => intro v1; rfl
 | succ j ih =>
  intro v1
  have rs : (fun (v1' : Int) => zl0 (la k [] [.r, .r, .l, .r, .b] j) a0 a1 v1') = l0 k a0 a1 j := by funext v1'; exact ih v1'
  have h : zl0 (la k [] [.r, .r, .l, .r, .b] (j + 1)) a0 a1 v1 = l0_b k a0 a1 ((fun (v1' : Int) => zl0 (la k [] [.r, .r, .l, .r, .b] j) a0 a1 v1')) v1 := by kernel_rfl
  exact h.trans (by rw [rs]; rfl)
noncomputable def top (k : Nat) (a0 : List TY13) (a1 : List TY13) (D_l0 : Int → O Bool) : O Bool :=
  O.cond (decide ((List.length a0 : Int) ≠ (List.length a1 : Int))) (
   .ok false) (
   D_l0 (0 : Int))
noncomputable def S (k : Nat) (a0 : List TY13) (a1 : List TY13) : O Bool := top k a0 a1 ((fun (v1 : Int) => l0 k a0 a1 k v1))
theorem eq (k : Nat) (a0 : List TY13) (a1 : List TY13) : evFn (T := Bool) tab (calOf (cal k)) Go.Proofs.Tryz.f15 nt k 0 [.osl 0, .osl 1] [] ⟨2, false, [(1, .row false 89 [.int .i64, .str, .int .i64, .int .i64] a1), (0, .row false 89 [.int .i64, .str, .int .i64, .int .i64] a0)]⟩ (fun v st => outK ct.ob (γ0 ct) ct.outs v st .ok) (fun e st => outP ct.ob (γ0 ct) ct.outs e st .ok) = S k a0 a1 := by
 have e0 : (fun (v1 : Int) => zl0 (la k [] [.r, .r, .l, .r, .b] k) a0 a1 v1) = (fun (v1 : Int) => l0 k a0 a1 k v1) := by funext v1; exact l0_eq k a0 a1 k v1
 have h : evFn (T := Bool) tab (calOf (cal k)) Go.Proofs.Tryz.f15 nt k 0 [.osl 0, .osl 1] [] ⟨2, false, [(1, .row false 89 [.int .i64, .str, .int .i64, .int .i64] a1), (0, .row false 89 [.int .i64, .str, .int .i64, .int .i64] a0)]⟩ (fun v st => outK ct.ob (γ0 ct) ct.outs v st .ok) (fun e st => outP ct.ob (γ0 ct) ct.outs e st .ok) = top k a0 a1 ((fun (v1 : Int) => zl0 (la k [] [.r, .r, .l, .r, .b] k) a0 a1 v1)) := by kernel_rfl
 exact h.trans (by rw [e0]; rfl)
theorem ok (k : Nat) : FnOkC Tryz.prog 15 ct (fun (x : TY12 × TY12) (_ : Unit) => S k x.1 x.2) :=
 FnOkC.of_ev (C := ct) tab_ok rfl (calOf_ok (cal_ok k)) mixed Tryz.func15 nt k (fun _ _ => rfl) (fun (x : TY12 × TY12) (_ : Unit) => eq k x.1 x.2)
theorem hd {T : Type} (k : Nat) : HdOk Tryz.prog 15 (pureC (T := T) ct [] (fun (x : TY12 × TY12) (_ : Unit) => S k x.1 x.2)) :=
 pureC_ok rfl [] (ok k) Tryz.call15
end F_aqueductref18_Same
namespace F_aqueductlaw20_waits
noncomputable def ct : Ct := ⟨.some (.pins [.ref 0, .ref 2]), [(66, .cons (.tab false 58 (.cons (.leaf (.int .i64)) (.one (.row false 3 [.int .i64]) []))) (.pin (.ref 1) (.cons (.tab true 78 (.one (.box 129 (.cons (.row true 9 [.str]) (.cons (.leaf (.int .i64)) (.one (.leaf (.int .i64)) [])))) [])) (.one (.agg (.cons (.leaf (.int .i64)) (.cons (.leaf (.int .i64)) (.cons (.leaf (.int .i64)) (.cons (.leaf (.int .i64)) (.cons (.leaf (.int .i64)) (.one (.leaf (.int .i64)) []))))))) [])))), (124, .cons (.leaf (.int .i64)) (.cons (.leaf (.int .i64)) (.one (.map 122 true true [.int .i64, .str] [.int .i64, .str, .int .i64, .int .i64]) []))), (45, .cons (.tab false 58 (.cons (.leaf (.int .i64)) (.one (.row false 3 [.int .i64]) []))) (.pin (.ref 3) (.cons (.tab true 86 (.one (.box 95 (.cons (.row true 9 [.str]) (.cons (.leaf (.int .i64)) (.one (.leaf (.int .i64)) [])))) [])) (.one (.agg (.cons (.leaf (.int .i64)) (.cons (.leaf (.int .i64)) (.cons (.leaf (.int .i64)) (.cons (.leaf (.int .i64)) (.cons (.leaf (.int .i64)) (.one (.leaf (.int .i64)) []))))))) [])))), (53, .cons (.leaf (.int .i64)) (.cons (.leaf (.int .i64)) (.one (.row true 89 [.int .i64, .str, .int .i64, .int .i64]) [])))], [⟨.val (.leaf .bool), [], []⟩]⟩
noncomputable def nt : Notes := ⟨[(2, ⟨[0, 1, 5], []⟩)], [], [], [], []⟩
noncomputable def cal0 {T : Type} (k : Nat) : List (FuncId × Hd T) := []
theorem cal0_ok {T : Type} (k : Nat) : HdsOk Tryz.prog (cal0 (T := T) k) := trivial
noncomputable def nt72 : Notes := ⟨[], [], [], [], []⟩
noncomputable def cal1 {T : Type} (k : Nat) : List (FuncId × Hd T) := (72, inlH tab (calOf (cal0 k)) Go.Proofs.Tryz.f72 nt72 k) :: cal0 k
theorem cal1_ok {T : Type} (k : Nat) : HdsOk Tryz.prog (cal1 (T := T) k) := ⟨inlH_ok tab_ok (calOf_ok (cal0_ok k)) mixed Tryz.func72 nt72 k Tryz.call72, cal0_ok k⟩
noncomputable def nt42 : Notes := ⟨[], [], [], [], []⟩
noncomputable def cal2 {T : Type} (k : Nat) : List (FuncId × Hd T) := (42, inlH tab (calOf (cal1 k)) Go.Proofs.Tryz.f42 nt42 k) :: cal1 k
theorem cal2_ok {T : Type} (k : Nat) : HdsOk Tryz.prog (cal2 (T := T) k) := ⟨inlH_ok tab_ok (calOf_ok (cal1_ok k)) mixed Tryz.func42 nt42 k Tryz.call42, cal1_ok k⟩
noncomputable def cal {T : Type} (k : Nat) : List (FuncId × Hd T) := cal2 k
theorem cal_ok {T : Type} (k : Nat) : HdsOk Tryz.prog (cal (T := T) k) := cal2_ok k
noncomputable abbrev la (k : Nat) (Rs : List (Fr → St → O TY14)) (ds : List Dir) (j : Nat) : Fr → St → O TY14 := loopAt tab (calOf (cal k)) Go.Proofs.Tryz.f17.ntmps nt k Rs ds (bodyOf Go.Proofs.Tryz.f17) (finK tab Go.Proofs.Tryz.f17.results.toList (fun v st => outK ct.ob (γ0 ct) ct.outs v st .ok) (fun e st => outP ct.ob (γ0 ct) ct.outs e st .ok)) j
noncomputable abbrev zl0 {α : Type} (X : Fr → St → α) (g0 : TY8 × TY5 × TY6) (g1 : Int × Int × TY0) (v1 : Int) (g2 : TY8 × TY5 × TY6) (v2 : List TY7) (v3 : List TY7) (g3 : Int × Int × TY12) : α := X ⟨[(0, .ptr 0 0), (1, .ptr 2 0), (5, .int .i64 v1)], [], 4, []⟩ ⟨14, true, [(4, .tab false 58 [] 10 (.cons (.leaf (.int .i64)) (.one (.row false 3 [.int .i64]) [])) g0.1), (5, .tab true 78 [] 11 (.one (.box 129 (.cons (.row true 9 [.str]) (.cons (.leaf (.int .i64)) (.one (.leaf (.int .i64)) [])))) []) v3), (6, .map 122 true true [.int .i64, .str] [.int .i64, .str, .int .i64, .int .i64] g1.2.2), (7, .tab false 58 [] 12 (.cons (.leaf (.int .i64)) (.one (.row false 3 [.int .i64]) [])) g2.1), (8, .tab true 86 [] 13 (.one (.box 95 (.cons (.row true 9 [.str]) (.cons (.leaf (.int .i64)) (.one (.leaf (.int .i64)) [])))) []) v2), (9, .row true 89 [.int .i64, .str, .int .i64, .int .i64] g3.2.2), (10, .ghost), (11, .ghost), (12, .ghost), (13, .ghost), (0, .cells 66 [.osl 4, .ptr 1 0, .osl 5, .int .i64 g0.2.2.1, .int .i64 g0.2.2.2.1, .int .i64 g0.2.2.2.2.1, .int .i64 g0.2.2.2.2.2.1, .int .i64 g0.2.2.2.2.2.2.1, .int .i64 g0.2.2.2.2.2.2.2]), (1, .cells 124 [.int .i64 g1.1, .int .i64 g1.2.1, .mp 6]), (2, .cells 45 [.osl 7, .ptr 3 0, .osl 8, .int .i64 g2.2.2.1, .int .i64 g2.2.2.2.1, .int .i64 g2.2.2.2.2.1, .int .i64 g2.2.2.2.2.2.1, .int .i64 g2.2.2.2.2.2.2.1, .int .i64 g2.2.2.2.2.2.2.2]), (3, .cells 53 [.int .i64 g3.1, .int .i64 g3.2.1, .osl 9])]⟩
noncomputable def l0_b (k : Nat) (g0 : TY8 × TY5 × TY6) (g1 : Int × Int × TY0) (g2 : TY8 × TY5 × TY6) (g3 : Int × Int × TY12) (R_l0 : Int → TY5 → TY5 → O TY14) (v1 : Int) (v3 : List TY7) (v2 : List TY7) : O TY14 :=
  O.cond (decide (v1 ≤ (List.length g2.1 : Int))) (
   O.cond (decide (v1 ≥ (0 : Int))) (
    O.cond (decide (v1 < (List.length g2.1 : Int))) (
     O.chk (decide (0 ≤ v1 ∧ v1 < (List.length v2 : Int))) (
      O.chk (decide (0 ≤ v1 ∧ v1 < (List.length v2 : Int))) (
       O.cond (decide (v1 < (0 : Int))) (
        O.cond (decide ((0 : Int) ≠ (List.length ((gt ([], (0 : Int), (0 : Int)) v2 v1).1) : Int))) (
         .ok (false, ((g0.1, v3, g0.2.2), g1, (g2.1, (su v2 v1 (gt ([], (0 : Int), (0 : Int)) v2 v1)), g2.2.2), g3))) (
         R_l0 (IntKind.i64.wrap (v1 + (1 : Int))) v3 (su v2 v1 (gt ([], (0 : Int), (0 : Int)) v2 v1)))) (
        O.cond (decide (v1 ≥ (List.length g0.1 : Int))) (
         O.cond (decide ((0 : Int) ≠ (List.length ((gt ([], (0 : Int), (0 : Int)) v2 v1).1) : Int))) (
          .ok (false, ((g0.1, v3, g0.2.2), g1, (g2.1, (su v2 v1 (gt ([], (0 : Int), (0 : Int)) v2 v1)), g2.2.2), g3))) (
          R_l0 (IntKind.i64.wrap (v1 + (1 : Int))) v3 (su v2 v1 (gt ([], (0 : Int), (0 : Int)) v2 v1)))) (
         O.chk (decide (0 ≤ v1 ∧ v1 < (List.length v3 : Int))) (
          O.chk (decide (0 ≤ v1 ∧ v1 < (List.length v3 : Int))) (
           O.cond (decide ((List.length ((gt ([], (0 : Int), (0 : Int)) v3 v1).1) : Int) ≠ (List.length ((gt ([], (0 : Int), (0 : Int)) v2 v1).1) : Int))) (
            .ok (false, ((g0.1, (su v3 v1 (gt ([], (0 : Int), (0 : Int)) v3 v1)), g0.2.2), g1, (g2.1, (su v2 v1 (gt ([], (0 : Int), (0 : Int)) v2 v1)), g2.2.2), g3))) (
            R_l0 (IntKind.i64.wrap (v1 + (1 : Int))) (su v3 v1 (gt ([], (0 : Int), (0 : Int)) v3 v1)) (su v2 v1 (gt ([], (0 : Int), (0 : Int)) v2 v1)))))))))) (
     O.cond (decide (v1 < (0 : Int))) (
      O.cond false (
       .ok (false, ((g0.1, v3, g0.2.2), g1, (g2.1, v2, g2.2.2), g3))) (
       R_l0 (IntKind.i64.wrap (v1 + (1 : Int))) v3 v2)) (
      O.cond (decide (v1 ≥ (List.length g0.1 : Int))) (
       O.cond false (
        .ok (false, ((g0.1, v3, g0.2.2), g1, (g2.1, v2, g2.2.2), g3))) (
        R_l0 (IntKind.i64.wrap (v1 + (1 : Int))) v3 v2)) (
       O.chk (decide (0 ≤ v1 ∧ v1 < (List.length v3 : Int))) (
        O.chk (decide (0 ≤ v1 ∧ v1 < (List.length v3 : Int))) (
         O.cond (decide ((List.length ((gt ([], (0 : Int), (0 : Int)) v3 v1).1) : Int) ≠ (0 : Int))) (
          .ok (false, ((g0.1, (su v3 v1 (gt ([], (0 : Int), (0 : Int)) v3 v1)), g0.2.2), g1, (g2.1, v2, g2.2.2), g3))) (
          R_l0 (IntKind.i64.wrap (v1 + (1 : Int))) (su v3 v1 (gt ([], (0 : Int), (0 : Int)) v3 v1)) v2))))))) (
    O.cond (decide (v1 < (0 : Int))) (
     O.cond false (
      .ok (false, ((g0.1, v3, g0.2.2), g1, (g2.1, v2, g2.2.2), g3))) (
      R_l0 (IntKind.i64.wrap (v1 + (1 : Int))) v3 v2)) (
     O.cond (decide (v1 ≥ (List.length g0.1 : Int))) (
      O.cond false (
       .ok (false, ((g0.1, v3, g0.2.2), g1, (g2.1, v2, g2.2.2), g3))) (
       R_l0 (IntKind.i64.wrap (v1 + (1 : Int))) v3 v2)) (
      O.chk (decide (0 ≤ v1 ∧ v1 < (List.length v3 : Int))) (
       O.chk (decide (0 ≤ v1 ∧ v1 < (List.length v3 : Int))) (
        O.cond (decide ((List.length ((gt ([], (0 : Int), (0 : Int)) v3 v1).1) : Int) ≠ (0 : Int))) (
         .ok (false, ((g0.1, (su v3 v1 (gt ([], (0 : Int), (0 : Int)) v3 v1)), g0.2.2), g1, (g2.1, v2, g2.2.2), g3))) (
         R_l0 (IntKind.i64.wrap (v1 + (1 : Int))) (su v3 v1 (gt ([], (0 : Int), (0 : Int)) v3 v1)) v2))))))) (
   .ok (true, ((g0.1, v3, g0.2.2), g1, (g2.1, v2, g2.2.2), g3)))
noncomputable def l0 (k : Nat) (g0 : TY8 × TY5 × TY6) (g1 : Int × Int × TY0) (g2 : TY8 × TY5 × TY6) (g3 : Int × Int × TY12) : Nat → Int → TY5 → TY5 → O TY14
 | 0, _, _, _ => .no
 | j + 1, v1, v3, v2 => l0_b k g0 g1 g2 g3 (l0 k g0 g1 g2 g3 j) v1 v3 v2
theorem l0_eq (k : Nat) (g0 : TY8 × TY5 × TY6) (g1 : Int × Int × TY0) (g2 : TY8 × TY5 × TY6) (g3 : Int × Int × TY12) : ∀ (j : Nat) (v1 : Int) (v3 : List TY7) (v2 : List TY7), zl0 (la k [] [.r, .l, .r, .b] j) g0 g1 v1 g2 v2 v3 g3 = l0 k g0 g1 g2 g3 j v1 v3 v2 := by
 intro j
 induction j with
 | zero => intro v1 v3 v2; rfl
 | succ j ih =>
  intro v1 v3 v2
  have rs : (fun (v1' : Int) (v3' : List TY7) (v2' : List TY7) => zl0 (la k [] [.r, .l, .r, .b] j) g0 g1 v1' g2 v2' v3' g3) = l0 k g0 g1 g2 g3 j := by funext v1' v3' v2'; exact ih v1' v3' v2'
  have h : zl0 (la k [] [.r, .l, .r, .b] (j + 1)) g0 g1 v1 g2 v2 v3 g3 = l0_b k g0 g1 g2 g3 ((fun (v1' : Int) (v3' : List TY7) (v2' : List TY7) => zl0 (la k [] [.r, .l, .r, .b] j) g0 g1 v1' g2 v2' v3' g3)) v1 v3 v2 := by kernel_rfl
  exact h.trans (by rw [rs]; rfl)
noncomputable def top (k : Nat) (g0 : TY8 × TY5 × TY6) (g1 : Int × Int × TY0) (g2 : TY8 × TY5 × TY6) (g3 : Int × Int × TY12) (D_l0 : Int → TY5 → TY5 → O TY14) : O TY14 :=
 D_l0 (-1 : Int) g0.2.1 g2.2.1
noncomputable def S (k : Nat) (g0 : TY8 × TY5 × TY6) (g1 : Int × Int × TY0) (g2 : TY8 × TY5 × TY6) (g3 : Int × Int × TY12) : O TY14 := top k g0 g1 g2 g3 ((fun (v1 : Int) (v3 : List TY7) (v2 : List TY7) => l0 k g0 g1 g2 g3 k v1 v3 v2))
theorem eq (k : Nat) (g0 : TY8 × TY5 × TY6) (g1 : Int × Int × TY0) (g2 : TY8 × TY5 × TY6) (g3 : Int × Int × TY12) : evFn (T := Bool × TY2 × TY3 × TY2 × TY11) tab (calOf (cal k)) Go.Proofs.Tryz.f17 nt k 4 [.ptr 0 0, .ptr 2 0] [] ⟨14, false, [(3, .cells 53 [.int .i64 g3.1, .int .i64 g3.2.1, .osl 13]), (13, .row true 89 [.int .i64, .str, .int .i64, .int .i64] g3.2.2), (2, .cells 45 [.osl 10, .ptr 3 0, .osl 12, .int .i64 g2.2.2.1, .int .i64 g2.2.2.2.1, .int .i64 g2.2.2.2.2.1, .int .i64 g2.2.2.2.2.2.1, .int .i64 g2.2.2.2.2.2.2.1, .int .i64 g2.2.2.2.2.2.2.2]), (12, .tab true 86 [] 11 (.one (.box 95 (.cons (.row true 9 [.str]) (.cons (.leaf (.int .i64)) (.one (.leaf (.int .i64)) [])))) []) g2.2.1), (11, .ghost), (10, .tab false 58 [] 9 (.cons (.leaf (.int .i64)) (.one (.row false 3 [.int .i64]) [])) g2.1), (9, .ghost), (1, .cells 124 [.int .i64 g1.1, .int .i64 g1.2.1, .mp 8]), (8, .map 122 true true [.int .i64, .str] [.int .i64, .str, .int .i64, .int .i64] g1.2.2), (0, .cells 66 [.osl 5, .ptr 1 0, .osl 7, .int .i64 g0.2.2.1, .int .i64 g0.2.2.2.1, .int .i64 g0.2.2.2.2.1, .int .i64 g0.2.2.2.2.2.1, .int .i64 g0.2.2.2.2.2.2.1, .int .i64 g0.2.2.2.2.2.2.2]), (7, .tab true 78 [] 6 (.one (.box 129 (.cons (.row true 9 [.str]) (.cons (.leaf (.int .i64)) (.one (.leaf (.int .i64)) [])))) []) g0.2.1), (6, .ghost), (5, .tab false 58 [] 4 (.cons (.leaf (.int .i64)) (.one (.row false 3 [.int .i64]) [])) g0.1), (4, .ghost)]⟩ (fun v st => outK ct.ob (γ0 ct) ct.outs v st .ok) (fun e st => outP ct.ob (γ0 ct) ct.outs e st .ok) = S k g0 g1 g2 g3 := by
 have e0 : (fun (v1 : Int) (v3 : List TY7) (v2 : List TY7) => zl0 (la k [] [.r, .l, .r, .b] k) g0 g1 v1 g2 v2 v3 g3) = (fun (v1 : Int) (v3 : List TY7) (v2 : List TY7) => l0 k g0 g1 g2 g3 k v1 v3 v2) := by funext v1 v3 v2; exact l0_eq k g0 g1 g2 g3 k v1 v3 v2
 have h : evFn (T := Bool × TY2 × TY3 × TY2 × TY11) tab (calOf (cal k)) Go.Proofs.Tryz.f17 nt k 4 [.ptr 0 0, .ptr 2 0] [] ⟨14, false, [(3, .cells 53 [.int .i64 g3.1, .int .i64 g3.2.1, .osl 13]), (13, .row true 89 [.int .i64, .str, .int .i64, .int .i64] g3.2.2), (2, .cells 45 [.osl 10, .ptr 3 0, .osl 12, .int .i64 g2.2.2.1, .int .i64 g2.2.2.2.1, .int .i64 g2.2.2.2.2.1, .int .i64 g2.2.2.2.2.2.1, .int .i64 g2.2.2.2.2.2.2.1, .int .i64 g2.2.2.2.2.2.2.2]), (12, .tab true 86 [] 11 (.one (.box 95 (.cons (.row true 9 [.str]) (.cons (.leaf (.int .i64)) (.one (.leaf (.int .i64)) [])))) []) g2.2.1), (11, .ghost), (10, .tab false 58 [] 9 (.cons (.leaf (.int .i64)) (.one (.row false 3 [.int .i64]) [])) g2.1), (9, .ghost), (1, .cells 124 [.int .i64 g1.1, .int .i64 g1.2.1, .mp 8]), (8, .map 122 true true [.int .i64, .str] [.int .i64, .str, .int .i64, .int .i64] g1.2.2), (0, .cells 66 [.osl 5, .ptr 1 0, .osl 7, .int .i64 g0.2.2.1, .int .i64 g0.2.2.2.1, .int .i64 g0.2.2.2.2.1, .int .i64 g0.2.2.2.2.2.1, .int .i64 g0.2.2.2.2.2.2.1, .int .i64 g0.2.2.2.2.2.2.2]), (7, .tab true 78 [] 6 (.one (.box 129 (.cons (.row true 9 [.str]) (.cons (.leaf (.int .i64)) (.one (.leaf (.int .i64)) [])))) []) g0.2.1), (6, .ghost), (5, .tab false 58 [] 4 (.cons (.leaf (.int .i64)) (.one (.row false 3 [.int .i64]) [])) g0.1), (4, .ghost)]⟩ (fun v st => outK ct.ob (γ0 ct) ct.outs v st .ok) (fun e st => outP ct.ob (γ0 ct) ct.outs e st .ok) = top k g0 g1 g2 g3 ((fun (v1 : Int) (v3 : List TY7) (v2 : List TY7) => zl0 (la k [] [.r, .l, .r, .b] k) g0 g1 v1 g2 v2 v3 g3)) := by kernel_rfl
 exact h.trans (by rw [e0]; rfl)
theorem ok (k : Nat) : FnOkC Tryz.prog 17 ct (fun (_ : Unit) (g : TY2 × TY3 × TY2 × TY11) => S k g.1 g.2.1 g.2.2.1 g.2.2.2) :=
 FnOkC.of_ev (C := ct) tab_ok rfl (calOf_ok (cal_ok k)) mixed Tryz.func17 nt k (fun _ _ => rfl) (fun (_ : Unit) (g : TY2 × TY3 × TY2 × TY11) => eq k g.1 g.2.1 g.2.2.1 g.2.2.2)
theorem hd {T : Type} (k : Nat) : HdOk Tryz.prog 17 (pureC (T := T) ct [.arg 0 0, .fld 0 1, .arg 1 0, .fld 2 1] (fun (_ : Unit) (g : TY2 × TY3 × TY2 × TY11) => S k g.1 g.2.1 g.2.2.1 g.2.2.2)) :=
 pureC_ok rfl [.arg 0 0, .fld 0 1, .arg 1 0, .fld 2 1] (ok k) Tryz.call17
end F_aqueductlaw20_waits
namespace F_aqueductlaw20_fixed
noncomputable def ct : Ct := ⟨.none, [], [⟨.val (.leaf .bool), [], []⟩]⟩
noncomputable def nt : Notes := ⟨[], [], [], [], []⟩
noncomputable def cal0 {T : Type} (k : Nat) : List (FuncId × Hd T) := [(5, pureC F_bridge_Bridge_In.ct [.arg 0 0, .fld 0 1] (fun (x : Int × ByteArray) (g : TY2 × TY3) => F_bridge_Bridge_In.S k x.1 x.2 g.1 g.2)), (7, pureC F_aqueductref11_Same.ct [] (fun (x : List Int × List Int) (_ : Unit) => F_aqueductref11_Same.S k x.1 x.2)), (8, pureC F_bridge_Bridge_Out.ct [.arg 0 0, .fld 0 1] (fun (x : Int) (g : TY2 × TY3) => F_bridge_Bridge_Out.S k x g.1 g.2)), (13, pureC F_aqueductlaw20_from.ct [] (fun (x : Int × Int) (_ : Unit) => F_aqueductlaw20_from.S k x.1 x.2)), (19, pureC F_bridge_New.ct [] (fun (x : TY8 × Int × Int × Int) (_ : Unit) => F_bridge_New.S k x.1 x.2.1 x.2.2.1 x.2.2.2)), (41, pureC F_fdb_Table_Rows.ct [.arg 0 0] (fun (_ : Unit) (g : Int × Int × TY0) => F_fdb_Table_Rows.S k g))]
theorem cal0_ok {T : Type} (k : Nat) : HdsOk Tryz.prog (cal0 (T := T) k) := ⟨F_bridge_Bridge_In.hd k, F_aqueductref11_Same.hd k, F_bridge_Bridge_Out.hd k, F_aqueductlaw20_from.hd k, F_bridge_New.hd k, F_fdb_Table_Rows.hd k, trivial⟩
noncomputable def nt14 : Notes := ⟨[], [], [], [], []⟩
noncomputable def cal1 {T : Type} (k : Nat) : List (FuncId × Hd T) := (14, inlH tab (calOf (cal0 k)) Go.Proofs.Tryz.f14 nt14 k) :: cal0 k
theorem cal1_ok {T : Type} (k : Nat) : HdsOk Tryz.prog (cal1 (T := T) k) := ⟨inlH_ok tab_ok (calOf_ok (cal0_ok k)) mixed Tryz.func14 nt14 k Tryz.call14, cal0_ok k⟩
noncomputable def nt16 : Notes := ⟨[], [], [], [], []⟩
noncomputable def cal2 {T : Type} (k : Nat) : List (FuncId × Hd T) := (16, inlH tab (calOf (cal1 k)) Go.Proofs.Tryz.f16 nt16 k) :: cal1 k
theorem cal2_ok {T : Type} (k : Nat) : HdsOk Tryz.prog (cal2 (T := T) k) := ⟨inlH_ok tab_ok (calOf_ok (cal1_ok k)) mixed Tryz.func16 nt16 k Tryz.call16, cal1_ok k⟩
noncomputable def nt72 : Notes := ⟨[], [], [], [], []⟩
noncomputable def cal3 {T : Type} (k : Nat) : List (FuncId × Hd T) := (72, inlH tab (calOf (cal2 k)) Go.Proofs.Tryz.f72 nt72 k) :: cal2 k
theorem cal3_ok {T : Type} (k : Nat) : HdsOk Tryz.prog (cal3 (T := T) k) := ⟨inlH_ok tab_ok (calOf_ok (cal2_ok k)) mixed Tryz.func72 nt72 k Tryz.call72, cal2_ok k⟩
noncomputable def nt42 : Notes := ⟨[], [], [], [], []⟩
noncomputable def cal4 {T : Type} (k : Nat) : List (FuncId × Hd T) := (42, inlH tab (calOf (cal3 k)) Go.Proofs.Tryz.f42 nt42 k) :: cal3 k
theorem cal4_ok {T : Type} (k : Nat) : HdsOk Tryz.prog (cal4 (T := T) k) := ⟨inlH_ok tab_ok (calOf_ok (cal3_ok k)) mixed Tryz.func42 nt42 k Tryz.call42, cal3_ok k⟩
noncomputable def cal {T : Type} (k : Nat) : List (FuncId × Hd T) := cal4 k
theorem cal_ok {T : Type} (k : Nat) : HdsOk Tryz.prog (cal (T := T) k) := cal4_ok k
noncomputable def S (k : Nat) : O Bool :=
  O.chk (decide (0 ≤ (3 : Int) ∧ (3 : Int) = (3 : Int) ∧ (3 : Int) ≤ 1073741824)) (
   O.sum (F_bridge_New.S k (List.replicate (3 : Int).toNat ((0 : Int), [])) (9 : Int) (9 : Int) (2 : Int)) (fun r3 =>
    O.sum (F_bridge_New.S k [] (9 : Int) (9 : Int) (2 : Int)) (fun r5 =>
     O.chk (decide (0 ≤ (3 : Int) ∧ (3 : Int) = (3 : Int) ∧ (3 : Int) ≤ 1073741824)) (
      O.sum (F_bridge_New.S k (List.replicate (3 : Int).toNat ((0 : Int), [])) (0 : Int) (9 : Int) (2 : Int)) (fun r7 =>
       O.chk (decide (0 ≤ (3 : Int) ∧ (3 : Int) = (3 : Int) ∧ (3 : Int) ≤ 1073741824)) (
        O.sum (F_bridge_New.S k (List.replicate (3 : Int).toNat ((0 : Int), [])) (9 : Int) (9 : Int) (0 : Int)) (fun r9 =>
         .ok false) fun r10 =>
        .ok false)) fun r8 =>
      O.chk (decide (0 ≤ (3 : Int) ∧ (3 : Int) = (3 : Int) ∧ (3 : Int) ≤ 1073741824)) (
       O.sum (F_bridge_New.S k (List.replicate (3 : Int).toNat ((0 : Int), [])) (9 : Int) (9 : Int) (0 : Int)) (fun r11 =>
        .ok false) fun r12 =>
       .ok false))) fun r6 =>
    O.chk (decide (0 ≤ (3 : Int) ∧ (3 : Int) = (3 : Int) ∧ (3 : Int) ≤ 1073741824)) (
     O.sum (F_bridge_New.S k (List.replicate (3 : Int).toNat ((0 : Int), [])) (0 : Int) (9 : Int) (2 : Int)) (fun r13 =>
      O.chk (decide (0 ≤ (3 : Int) ∧ (3 : Int) = (3 : Int) ∧ (3 : Int) ≤ 1073741824)) (
       O.sum (F_bridge_New.S k (List.replicate (3 : Int).toNat ((0 : Int), [])) (9 : Int) (9 : Int) (0 : Int)) (fun r15 =>
        .ok false) fun r16 =>
       .ok false)) fun r14 =>
     O.chk (decide (0 ≤ (3 : Int) ∧ (3 : Int) = (3 : Int) ∧ (3 : Int) ≤ 1073741824)) (
      O.sum (F_bridge_New.S k (List.replicate (3 : Int).toNat ((0 : Int), [])) (9 : Int) (9 : Int) (0 : Int)) (fun r17 =>
       .ok false) fun r18 =>
      .ok false))) fun r4 =>
   O.sum (F_bridge_New.S k [] (9 : Int) (9 : Int) (2 : Int)) (fun r19 =>
    O.chk (decide (0 ≤ (3 : Int) ∧ (3 : Int) = (3 : Int) ∧ (3 : Int) ≤ 1073741824)) (
     O.sum (F_bridge_New.S k (List.replicate (3 : Int).toNat ((0 : Int), [])) (0 : Int) (9 : Int) (2 : Int)) (fun r21 =>
      O.chk (decide (0 ≤ (3 : Int) ∧ (3 : Int) = (3 : Int) ∧ (3 : Int) ≤ 1073741824)) (
       O.sum (F_bridge_New.S k (List.replicate (3 : Int).toNat ((0 : Int), [])) (9 : Int) (9 : Int) (0 : Int)) (fun r23 =>
        O.cond (decide (r4.1 ≠ (0 : Int))) (
         .ok false) (
         O.bind (F_aqueductlaw20_from.S k (1 : Int) (2 : Int)) fun r27 =>
         O.bind (F_bridge_Bridge_In.S k (0 : Int) r27 r4.2.1 r4.2.2) fun r28 =>
         O.bind (F_aqueductlaw20_from.S k (2 : Int) (1 : Int)) fun r31 =>
         O.bind (F_bridge_Bridge_In.S k (1 : Int) r31 r28.2.1 r28.2.2) fun r32 =>
         O.bind (F_aqueductlaw20_from.S k (3 : Int) (1 : Int)) fun r35 =>
         O.bind (F_bridge_Bridge_In.S k (0 : Int) r35 r32.2.1 r32.2.2) fun r36 =>
         O.bind (F_aqueductlaw20_from.S k (3 : Int) (1 : Int)) fun r39 =>
         O.bind (F_bridge_Bridge_In.S k (3 : Int) r39 r36.2.1 r36.2.2) fun r40 =>
         O.bind (F_bridge_Bridge_Out.S k (2 : Int) r40.2.1 r40.2.2) fun r42 =>
         O.bind (F_bridge_Bridge_Out.S k (2 : Int) r42.2.1 r42.2.2) fun r44 =>
         O.cond (decide (r19 = (200 : Int))) (
          O.cond (decide (r21 = (180 : Int))) (
           O.cond (decide (r23 = (190 : Int))) (
            O.bind (F_aqueductref11_Same.S k r28.1.1 [(1 : Int), (2 : Int)]) fun r45 =>
            O.cond r45 (
             O.cond (decide (r28.1.2 = (0 : Int))) (
              O.bind (F_aqueductref11_Same.S k r32.1.1 [(0 : Int)]) fun r46 =>
              O.cond r46 (
               O.cond (decide (r32.1.2 = (0 : Int))) (
                O.cond (decide ((List.length r36.1.1 : Int) = (0 : Int))) (
                 O.cond (decide (r36.1.2 = (0 : Int))) (
                  O.cond (decide (r40.1.2 = (1 : Int))) (
                   O.bind (F_aqueductlaw20_from.S k (1 : Int) (2 : Int)) fun r47 =>
                   O.cond (decide (r42.1.1 = r47)) (
                    O.cond r42.1.2 (
                     O.cond (decide (r44.1.1 = (⟨#[]⟩ : ByteArray))) (
                      O.cond (!r44.1.2) (
                       O.cond (decide (r44.2.1.2.2.1 = (3 : Int)) && (decide (r44.2.1.2.2.2.1 = (0 : Int)) && (decide (r44.2.1.2.2.2.2.1 = (0 : Int)) && (decide (r44.2.1.2.2.2.2.2.1 = (1 : Int)) && (decide (r44.2.1.2.2.2.2.2.2.1 = (3 : Int)) && (decide (r44.2.1.2.2.2.2.2.2.2 = (0 : Int)) && true)))))) (
                        O.cond (decide ((1 : Int) ≥ (List.length r44.2.1.1 : Int))) (
                         O.cond false (
                          O.bind (F_fdb_Table_Rows.S k r44.2.2) fun r48 =>
                          .ok (decide ((List.length r48.1 : Int) = (3 : Int)))) (
                          .ok false)) (
                         O.chk (decide (0 ≤ (1 : Int) ∧ (1 : Int) < (List.length r44.2.1.2.1 : Int))) (
                          O.chk (decide (0 ≤ (1 : Int) ∧ (1 : Int) < (List.length r44.2.1.2.1 : Int))) (
                           O.cond (decide ((List.length ((gt ([], (0 : Int), (0 : Int)) r44.2.1.2.1 (1 : Int)).1) : Int) = (1 : Int))) (
                            O.bind (F_fdb_Table_Rows.S k r44.2.2) fun r49 =>
                            .ok (decide ((List.length r49.1 : Int) = (3 : Int)))) (
                            .ok false))))) (
                        .ok false)) (
                       .ok false)) (
                      .ok false)) (
                     .ok false)) (
                    .ok false)) (
                   .ok false)) (
                  .ok false)) (
                 .ok false)) (
                .ok false)) (
               .ok false)) (
              .ok false)) (
             .ok false)) (
            .ok false)) (
           .ok false)) (
          .ok false))) fun r24 =>
       O.cond (decide (r4.1 ≠ (0 : Int))) (
        .ok false) (
        O.bind (F_aqueductlaw20_from.S k (1 : Int) (2 : Int)) fun r50 =>
        O.bind (F_bridge_Bridge_In.S k (0 : Int) r50 r4.2.1 r4.2.2) fun r51 =>
        O.bind (F_aqueductlaw20_from.S k (2 : Int) (1 : Int)) fun r52 =>
        O.bind (F_bridge_Bridge_In.S k (1 : Int) r52 r51.2.1 r51.2.2) fun r53 =>
        O.bind (F_aqueductlaw20_from.S k (3 : Int) (1 : Int)) fun r54 =>
        O.bind (F_bridge_Bridge_In.S k (0 : Int) r54 r53.2.1 r53.2.2) fun r55 =>
        O.bind (F_aqueductlaw20_from.S k (3 : Int) (1 : Int)) fun r56 =>
        O.bind (F_bridge_Bridge_In.S k (3 : Int) r56 r55.2.1 r55.2.2) fun r57 =>
        O.bind (F_bridge_Bridge_Out.S k (2 : Int) r57.2.1 r57.2.2) fun r58 =>
        O.bind (F_bridge_Bridge_Out.S k (2 : Int) r58.2.1 r58.2.2) fun r59 =>
        O.cond (decide (r19 = (200 : Int))) (
         O.cond (decide (r21 = (180 : Int))) (
          O.cond (decide (r24.1 = (190 : Int))) (
           O.bind (F_aqueductref11_Same.S k r51.1.1 [(1 : Int), (2 : Int)]) fun r60 =>
           O.cond r60 (
            O.cond (decide (r51.1.2 = (0 : Int))) (
             O.bind (F_aqueductref11_Same.S k r53.1.1 [(0 : Int)]) fun r61 =>
             O.cond r61 (
              O.cond (decide (r53.1.2 = (0 : Int))) (
               O.cond (decide ((List.length r55.1.1 : Int) = (0 : Int))) (
                O.cond (decide (r55.1.2 = (0 : Int))) (
                 O.cond (decide (r57.1.2 = (1 : Int))) (
                  O.bind (F_aqueductlaw20_from.S k (1 : Int) (2 : Int)) fun r62 =>
                  O.cond (decide (r58.1.1 = r62)) (
                   O.cond r58.1.2 (
                    O.cond (decide (r59.1.1 = (⟨#[]⟩ : ByteArray))) (
                     O.cond (!r59.1.2) (
                      O.cond (decide (r59.2.1.2.2.1 = (3 : Int)) && (decide (r59.2.1.2.2.2.1 = (0 : Int)) && (decide (r59.2.1.2.2.2.2.1 = (0 : Int)) && (decide (r59.2.1.2.2.2.2.2.1 = (1 : Int)) && (decide (r59.2.1.2.2.2.2.2.2.1 = (3 : Int)) && (decide (r59.2.1.2.2.2.2.2.2.2 = (0 : Int)) && true)))))) (
                       O.cond (decide ((1 : Int) ≥ (List.length r59.2.1.1 : Int))) (
                        O.cond false (
                         O.bind (F_fdb_Table_Rows.S k r59.2.2) fun r63 =>
                         .ok (decide ((List.length r63.1 : Int) = (3 : Int)))) (
                         .ok false)) (
                        O.chk (decide (0 ≤ (1 : Int) ∧ (1 : Int) < (List.length r59.2.1.2.1 : Int))) (
                         O.chk (decide (0 ≤ (1 : Int) ∧ (1 : Int) < (List.length r59.2.1.2.1 : Int))) (
                          O.cond (decide ((List.length ((gt ([], (0 : Int), (0 : Int)) r59.2.1.2.1 (1 : Int)).1) : Int) = (1 : Int))) (
                           O.bind (F_fdb_Table_Rows.S k r59.2.2) fun r64 =>
                           .ok (decide ((List.length r64.1 : Int) = (3 : Int)))) (
                           .ok false))))) (
                       .ok false)) (
                      .ok false)) (
                     .ok false)) (
                    .ok false)) (
                   .ok false)) (
                  .ok false)) (
                 .ok false)) (
                .ok false)) (
               .ok false)) (
              .ok false)) (
             .ok false)) (
            .ok false)) (
           .ok false)) (
          .ok false)) (
         .ok false)))) fun r22 =>
     O.chk (decide (0 ≤ (3 : Int) ∧ (3 : Int) = (3 : Int) ∧ (3 : Int) ≤ 1073741824)) (
      O.sum (F_bridge_New.S k (List.replicate (3 : Int).toNat ((0 : Int), [])) (9 : Int) (9 : Int) (0 : Int)) (fun r65 =>
       O.cond (decide (r4.1 ≠ (0 : Int))) (
        .ok false) (
        O.bind (F_aqueductlaw20_from.S k (1 : Int) (2 : Int)) fun r67 =>
        O.bind (F_bridge_Bridge_In.S k (0 : Int) r67 r4.2.1 r4.2.2) fun r68 =>
        O.bind (F_aqueductlaw20_from.S k (2 : Int) (1 : Int)) fun r69 =>
        O.bind (F_bridge_Bridge_In.S k (1 : Int) r69 r68.2.1 r68.2.2) fun r70 =>
        O.bind (F_aqueductlaw20_from.S k (3 : Int) (1 : Int)) fun r71 =>
        O.bind (F_bridge_Bridge_In.S k (0 : Int) r71 r70.2.1 r70.2.2) fun r72 =>
        O.bind (F_aqueductlaw20_from.S k (3 : Int) (1 : Int)) fun r73 =>
        O.bind (F_bridge_Bridge_In.S k (3 : Int) r73 r72.2.1 r72.2.2) fun r74 =>
        O.bind (F_bridge_Bridge_Out.S k (2 : Int) r74.2.1 r74.2.2) fun r75 =>
        O.bind (F_bridge_Bridge_Out.S k (2 : Int) r75.2.1 r75.2.2) fun r76 =>
        O.cond (decide (r19 = (200 : Int))) (
         O.cond (decide (r22.1 = (180 : Int))) (
          O.cond (decide (r65 = (190 : Int))) (
           O.bind (F_aqueductref11_Same.S k r68.1.1 [(1 : Int), (2 : Int)]) fun r77 =>
           O.cond r77 (
            O.cond (decide (r68.1.2 = (0 : Int))) (
             O.bind (F_aqueductref11_Same.S k r70.1.1 [(0 : Int)]) fun r78 =>
             O.cond r78 (
              O.cond (decide (r70.1.2 = (0 : Int))) (
               O.cond (decide ((List.length r72.1.1 : Int) = (0 : Int))) (
                O.cond (decide (r72.1.2 = (0 : Int))) (
                 O.cond (decide (r74.1.2 = (1 : Int))) (
                  O.bind (F_aqueductlaw20_from.S k (1 : Int) (2 : Int)) fun r79 =>
                  O.cond (decide (r75.1.1 = r79)) (
                   O.cond r75.1.2 (
                    O.cond (decide (r76.1.1 = (⟨#[]⟩ : ByteArray))) (
                     O.cond (!r76.1.2) (
                      O.cond (decide (r76.2.1.2.2.1 = (3 : Int)) && (decide (r76.2.1.2.2.2.1 = (0 : Int)) && (decide (r76.2.1.2.2.2.2.1 = (0 : Int)) && (decide (r76.2.1.2.2.2.2.2.1 = (1 : Int)) && (decide (r76.2.1.2.2.2.2.2.2.1 = (3 : Int)) && (decide (r76.2.1.2.2.2.2.2.2.2 = (0 : Int)) && true)))))) (
                       O.cond (decide ((1 : Int) ≥ (List.length r76.2.1.1 : Int))) (
                        O.cond false (
                         O.bind (F_fdb_Table_Rows.S k r76.2.2) fun r80 =>
                         .ok (decide ((List.length r80.1 : Int) = (3 : Int)))) (
                         .ok false)) (
                        O.chk (decide (0 ≤ (1 : Int) ∧ (1 : Int) < (List.length r76.2.1.2.1 : Int))) (
                         O.chk (decide (0 ≤ (1 : Int) ∧ (1 : Int) < (List.length r76.2.1.2.1 : Int))) (
                          O.cond (decide ((List.length ((gt ([], (0 : Int), (0 : Int)) r76.2.1.2.1 (1 : Int)).1) : Int) = (1 : Int))) (
                           O.bind (F_fdb_Table_Rows.S k r76.2.2) fun r81 =>
                           .ok (decide ((List.length r81.1 : Int) = (3 : Int)))) (
                           .ok false))))) (
                       .ok false)) (
                      .ok false)) (
                     .ok false)) (
                    .ok false)) (
                   .ok false)) (
                  .ok false)) (
                 .ok false)) (
                .ok false)) (
               .ok false)) (
              .ok false)) (
             .ok false)) (
            .ok false)) (
           .ok false)) (
          .ok false)) (
         .ok false))) fun r66 =>
      O.cond (decide (r4.1 ≠ (0 : Int))) (
       .ok false) (
       O.bind (F_aqueductlaw20_from.S k (1 : Int) (2 : Int)) fun r82 =>
       O.bind (F_bridge_Bridge_In.S k (0 : Int) r82 r4.2.1 r4.2.2) fun r83 =>
       O.bind (F_aqueductlaw20_from.S k (2 : Int) (1 : Int)) fun r84 =>
       O.bind (F_bridge_Bridge_In.S k (1 : Int) r84 r83.2.1 r83.2.2) fun r85 =>
       O.bind (F_aqueductlaw20_from.S k (3 : Int) (1 : Int)) fun r86 =>
       O.bind (F_bridge_Bridge_In.S k (0 : Int) r86 r85.2.1 r85.2.2) fun r87 =>
       O.bind (F_aqueductlaw20_from.S k (3 : Int) (1 : Int)) fun r88 =>
       O.bind (F_bridge_Bridge_In.S k (3 : Int) r88 r87.2.1 r87.2.2) fun r89 =>
       O.bind (F_bridge_Bridge_Out.S k (2 : Int) r89.2.1 r89.2.2) fun r90 =>
       O.bind (F_bridge_Bridge_Out.S k (2 : Int) r90.2.1 r90.2.2) fun r91 =>
       O.cond (decide (r19 = (200 : Int))) (
        O.cond (decide (r22.1 = (180 : Int))) (
         O.cond (decide (r66.1 = (190 : Int))) (
          O.bind (F_aqueductref11_Same.S k r83.1.1 [(1 : Int), (2 : Int)]) fun r92 =>
          O.cond r92 (
           O.cond (decide (r83.1.2 = (0 : Int))) (
            O.bind (F_aqueductref11_Same.S k r85.1.1 [(0 : Int)]) fun r93 =>
            O.cond r93 (
             O.cond (decide (r85.1.2 = (0 : Int))) (
              O.cond (decide ((List.length r87.1.1 : Int) = (0 : Int))) (
               O.cond (decide (r87.1.2 = (0 : Int))) (
                O.cond (decide (r89.1.2 = (1 : Int))) (
                 O.bind (F_aqueductlaw20_from.S k (1 : Int) (2 : Int)) fun r94 =>
                 O.cond (decide (r90.1.1 = r94)) (
                  O.cond r90.1.2 (
                   O.cond (decide (r91.1.1 = (⟨#[]⟩ : ByteArray))) (
                    O.cond (!r91.1.2) (
                     O.cond (decide (r91.2.1.2.2.1 = (3 : Int)) && (decide (r91.2.1.2.2.2.1 = (0 : Int)) && (decide (r91.2.1.2.2.2.2.1 = (0 : Int)) && (decide (r91.2.1.2.2.2.2.2.1 = (1 : Int)) && (decide (r91.2.1.2.2.2.2.2.2.1 = (3 : Int)) && (decide (r91.2.1.2.2.2.2.2.2.2 = (0 : Int)) && true)))))) (
                      O.cond (decide ((1 : Int) ≥ (List.length r91.2.1.1 : Int))) (
                       O.cond false (
                        O.bind (F_fdb_Table_Rows.S k r91.2.2) fun r95 =>
                        .ok (decide ((List.length r95.1 : Int) = (3 : Int)))) (
                        .ok false)) (
                       O.chk (decide (0 ≤ (1 : Int) ∧ (1 : Int) < (List.length r91.2.1.2.1 : Int))) (
                        O.chk (decide (0 ≤ (1 : Int) ∧ (1 : Int) < (List.length r91.2.1.2.1 : Int))) (
                         O.cond (decide ((List.length ((gt ([], (0 : Int), (0 : Int)) r91.2.1.2.1 (1 : Int)).1) : Int) = (1 : Int))) (
                          O.bind (F_fdb_Table_Rows.S k r91.2.2) fun r96 =>
                          .ok (decide ((List.length r96.1 : Int) = (3 : Int)))) (
                          .ok false))))) (
                      .ok false)) (
                     .ok false)) (
                    .ok false)) (
                   .ok false)) (
                  .ok false)) (
                 .ok false)) (
                .ok false)) (
               .ok false)) (
              .ok false)) (
             .ok false)) (
            .ok false)) (
           .ok false)) (
          .ok false)) (
         .ok false)) (
        .ok false))))) fun r20 =>
   O.chk (decide (0 ≤ (3 : Int) ∧ (3 : Int) = (3 : Int) ∧ (3 : Int) ≤ 1073741824)) (
    O.sum (F_bridge_New.S k (List.replicate (3 : Int).toNat ((0 : Int), [])) (0 : Int) (9 : Int) (2 : Int)) (fun r97 =>
     O.chk (decide (0 ≤ (3 : Int) ∧ (3 : Int) = (3 : Int) ∧ (3 : Int) ≤ 1073741824)) (
      O.sum (F_bridge_New.S k (List.replicate (3 : Int).toNat ((0 : Int), [])) (9 : Int) (9 : Int) (0 : Int)) (fun r99 =>
       O.cond (decide (r4.1 ≠ (0 : Int))) (
        .ok false) (
        O.bind (F_aqueductlaw20_from.S k (1 : Int) (2 : Int)) fun r101 =>
        O.bind (F_bridge_Bridge_In.S k (0 : Int) r101 r4.2.1 r4.2.2) fun r102 =>
        O.bind (F_aqueductlaw20_from.S k (2 : Int) (1 : Int)) fun r103 =>
        O.bind (F_bridge_Bridge_In.S k (1 : Int) r103 r102.2.1 r102.2.2) fun r104 =>
        O.bind (F_aqueductlaw20_from.S k (3 : Int) (1 : Int)) fun r105 =>
        O.bind (F_bridge_Bridge_In.S k (0 : Int) r105 r104.2.1 r104.2.2) fun r106 =>
        O.bind (F_aqueductlaw20_from.S k (3 : Int) (1 : Int)) fun r107 =>
        O.bind (F_bridge_Bridge_In.S k (3 : Int) r107 r106.2.1 r106.2.2) fun r108 =>
        O.bind (F_bridge_Bridge_Out.S k (2 : Int) r108.2.1 r108.2.2) fun r109 =>
        O.bind (F_bridge_Bridge_Out.S k (2 : Int) r109.2.1 r109.2.2) fun r110 =>
        O.cond (decide (r20.1 = (200 : Int))) (
         O.cond (decide (r97 = (180 : Int))) (
          O.cond (decide (r99 = (190 : Int))) (
           O.bind (F_aqueductref11_Same.S k r102.1.1 [(1 : Int), (2 : Int)]) fun r111 =>
           O.cond r111 (
            O.cond (decide (r102.1.2 = (0 : Int))) (
             O.bind (F_aqueductref11_Same.S k r104.1.1 [(0 : Int)]) fun r112 =>
             O.cond r112 (
              O.cond (decide (r104.1.2 = (0 : Int))) (
               O.cond (decide ((List.length r106.1.1 : Int) = (0 : Int))) (
                O.cond (decide (r106.1.2 = (0 : Int))) (
                 O.cond (decide (r108.1.2 = (1 : Int))) (
                  O.bind (F_aqueductlaw20_from.S k (1 : Int) (2 : Int)) fun r113 =>
                  O.cond (decide (r109.1.1 = r113)) (
                   O.cond r109.1.2 (
                    O.cond (decide (r110.1.1 = (⟨#[]⟩ : ByteArray))) (
                     O.cond (!r110.1.2) (
                      O.cond (decide (r110.2.1.2.2.1 = (3 : Int)) && (decide (r110.2.1.2.2.2.1 = (0 : Int)) && (decide (r110.2.1.2.2.2.2.1 = (0 : Int)) && (decide (r110.2.1.2.2.2.2.2.1 = (1 : Int)) && (decide (r110.2.1.2.2.2.2.2.2.1 = (3 : Int)) && (decide (r110.2.1.2.2.2.2.2.2.2 = (0 : Int)) && true)))))) (
                       O.cond (decide ((1 : Int) ≥ (List.length r110.2.1.1 : Int))) (
                        O.cond false (
                         O.bind (F_fdb_Table_Rows.S k r110.2.2) fun r114 =>
                         .ok (decide ((List.length r114.1 : Int) = (3 : Int)))) (
                         .ok false)) (
                        O.chk (decide (0 ≤ (1 : Int) ∧ (1 : Int) < (List.length r110.2.1.2.1 : Int))) (
                         O.chk (decide (0 ≤ (1 : Int) ∧ (1 : Int) < (List.length r110.2.1.2.1 : Int))) (
                          O.cond (decide ((List.length ((gt ([], (0 : Int), (0 : Int)) r110.2.1.2.1 (1 : Int)).1) : Int) = (1 : Int))) (
                           O.bind (F_fdb_Table_Rows.S k r110.2.2) fun r115 =>
                           .ok (decide ((List.length r115.1 : Int) = (3 : Int)))) (
                           .ok false))))) (
                       .ok false)) (
                      .ok false)) (
                     .ok false)) (
                    .ok false)) (
                   .ok false)) (
                  .ok false)) (
                 .ok false)) (
                .ok false)) (
               .ok false)) (
              .ok false)) (
             .ok false)) (
            .ok false)) (
           .ok false)) (
          .ok false)) (
         .ok false))) fun r100 =>
      O.cond (decide (r4.1 ≠ (0 : Int))) (
       .ok false) (
       O.bind (F_aqueductlaw20_from.S k (1 : Int) (2 : Int)) fun r116 =>
       O.bind (F_bridge_Bridge_In.S k (0 : Int) r116 r4.2.1 r4.2.2) fun r117 =>
       O.bind (F_aqueductlaw20_from.S k (2 : Int) (1 : Int)) fun r118 =>
       O.bind (F_bridge_Bridge_In.S k (1 : Int) r118 r117.2.1 r117.2.2) fun r119 =>
       O.bind (F_aqueductlaw20_from.S k (3 : Int) (1 : Int)) fun r120 =>
       O.bind (F_bridge_Bridge_In.S k (0 : Int) r120 r119.2.1 r119.2.2) fun r121 =>
       O.bind (F_aqueductlaw20_from.S k (3 : Int) (1 : Int)) fun r122 =>
       O.bind (F_bridge_Bridge_In.S k (3 : Int) r122 r121.2.1 r121.2.2) fun r123 =>
       O.bind (F_bridge_Bridge_Out.S k (2 : Int) r123.2.1 r123.2.2) fun r124 =>
       O.bind (F_bridge_Bridge_Out.S k (2 : Int) r124.2.1 r124.2.2) fun r125 =>
       O.cond (decide (r20.1 = (200 : Int))) (
        O.cond (decide (r97 = (180 : Int))) (
         O.cond (decide (r100.1 = (190 : Int))) (
          O.bind (F_aqueductref11_Same.S k r117.1.1 [(1 : Int), (2 : Int)]) fun r126 =>
          O.cond r126 (
           O.cond (decide (r117.1.2 = (0 : Int))) (
            O.bind (F_aqueductref11_Same.S k r119.1.1 [(0 : Int)]) fun r127 =>
            O.cond r127 (
             O.cond (decide (r119.1.2 = (0 : Int))) (
              O.cond (decide ((List.length r121.1.1 : Int) = (0 : Int))) (
               O.cond (decide (r121.1.2 = (0 : Int))) (
                O.cond (decide (r123.1.2 = (1 : Int))) (
                 O.bind (F_aqueductlaw20_from.S k (1 : Int) (2 : Int)) fun r128 =>
                 O.cond (decide (r124.1.1 = r128)) (
                  O.cond r124.1.2 (
                   O.cond (decide (r125.1.1 = (⟨#[]⟩ : ByteArray))) (
                    O.cond (!r125.1.2) (
                     O.cond (decide (r125.2.1.2.2.1 = (3 : Int)) && (decide (r125.2.1.2.2.2.1 = (0 : Int)) && (decide (r125.2.1.2.2.2.2.1 = (0 : Int)) && (decide (r125.2.1.2.2.2.2.2.1 = (1 : Int)) && (decide (r125.2.1.2.2.2.2.2.2.1 = (3 : Int)) && (decide (r125.2.1.2.2.2.2.2.2.2 = (0 : Int)) && true)))))) (
                      O.cond (decide ((1 : Int) ≥ (List.length r125.2.1.1 : Int))) (
                       O.cond false (
                        O.bind (F_fdb_Table_Rows.S k r125.2.2) fun r129 =>
                        .ok (decide ((List.length r129.1 : Int) = (3 : Int)))) (
                        .ok false)) (
                       O.chk (decide (0 ≤ (1 : Int) ∧ (1 : Int) < (List.length r125.2.1.2.1 : Int))) (
                        O.chk (decide (0 ≤ (1 : Int) ∧ (1 : Int) < (List.length r125.2.1.2.1 : Int))) (
                         O.cond (decide ((List.length ((gt ([], (0 : Int), (0 : Int)) r125.2.1.2.1 (1 : Int)).1) : Int) = (1 : Int))) (
                          O.bind (F_fdb_Table_Rows.S k r125.2.2) fun r130 =>
                          .ok (decide ((List.length r130.1 : Int) = (3 : Int)))) (
                          .ok false))))) (
                      .ok false)) (
                     .ok false)) (
                    .ok false)) (
                   .ok false)) (
                  .ok false)) (
                 .ok false)) (
                .ok false)) (
               .ok false)) (
              .ok false)) (
             .ok false)) (
            .ok false)) (
           .ok false)) (
          .ok false)) (
         .ok false)) (
        .ok false)))) fun r98 =>
    O.chk (decide (0 ≤ (3 : Int) ∧ (3 : Int) = (3 : Int) ∧ (3 : Int) ≤ 1073741824)) (
     O.sum (F_bridge_New.S k (List.replicate (3 : Int).toNat ((0 : Int), [])) (9 : Int) (9 : Int) (0 : Int)) (fun r131 =>
      O.cond (decide (r4.1 ≠ (0 : Int))) (
       .ok false) (
       O.bind (F_aqueductlaw20_from.S k (1 : Int) (2 : Int)) fun r133 =>
       O.bind (F_bridge_Bridge_In.S k (0 : Int) r133 r4.2.1 r4.2.2) fun r134 =>
       O.bind (F_aqueductlaw20_from.S k (2 : Int) (1 : Int)) fun r135 =>
       O.bind (F_bridge_Bridge_In.S k (1 : Int) r135 r134.2.1 r134.2.2) fun r136 =>
       O.bind (F_aqueductlaw20_from.S k (3 : Int) (1 : Int)) fun r137 =>
       O.bind (F_bridge_Bridge_In.S k (0 : Int) r137 r136.2.1 r136.2.2) fun r138 =>
       O.bind (F_aqueductlaw20_from.S k (3 : Int) (1 : Int)) fun r139 =>
       O.bind (F_bridge_Bridge_In.S k (3 : Int) r139 r138.2.1 r138.2.2) fun r140 =>
       O.bind (F_bridge_Bridge_Out.S k (2 : Int) r140.2.1 r140.2.2) fun r141 =>
       O.bind (F_bridge_Bridge_Out.S k (2 : Int) r141.2.1 r141.2.2) fun r142 =>
       O.cond (decide (r20.1 = (200 : Int))) (
        O.cond (decide (r98.1 = (180 : Int))) (
         O.cond (decide (r131 = (190 : Int))) (
          O.bind (F_aqueductref11_Same.S k r134.1.1 [(1 : Int), (2 : Int)]) fun r143 =>
          O.cond r143 (
           O.cond (decide (r134.1.2 = (0 : Int))) (
            O.bind (F_aqueductref11_Same.S k r136.1.1 [(0 : Int)]) fun r144 =>
            O.cond r144 (
             O.cond (decide (r136.1.2 = (0 : Int))) (
              O.cond (decide ((List.length r138.1.1 : Int) = (0 : Int))) (
               O.cond (decide (r138.1.2 = (0 : Int))) (
                O.cond (decide (r140.1.2 = (1 : Int))) (
                 O.bind (F_aqueductlaw20_from.S k (1 : Int) (2 : Int)) fun r145 =>
                 O.cond (decide (r141.1.1 = r145)) (
                  O.cond r141.1.2 (
                   O.cond (decide (r142.1.1 = (⟨#[]⟩ : ByteArray))) (
                    O.cond (!r142.1.2) (
                     O.cond (decide (r142.2.1.2.2.1 = (3 : Int)) && (decide (r142.2.1.2.2.2.1 = (0 : Int)) && (decide (r142.2.1.2.2.2.2.1 = (0 : Int)) && (decide (r142.2.1.2.2.2.2.2.1 = (1 : Int)) && (decide (r142.2.1.2.2.2.2.2.2.1 = (3 : Int)) && (decide (r142.2.1.2.2.2.2.2.2.2 = (0 : Int)) && true)))))) (
                      O.cond (decide ((1 : Int) ≥ (List.length r142.2.1.1 : Int))) (
                       O.cond false (
                        O.bind (F_fdb_Table_Rows.S k r142.2.2) fun r146 =>
                        .ok (decide ((List.length r146.1 : Int) = (3 : Int)))) (
                        .ok false)) (
                       O.chk (decide (0 ≤ (1 : Int) ∧ (1 : Int) < (List.length r142.2.1.2.1 : Int))) (
                        O.chk (decide (0 ≤ (1 : Int) ∧ (1 : Int) < (List.length r142.2.1.2.1 : Int))) (
                         O.cond (decide ((List.length ((gt ([], (0 : Int), (0 : Int)) r142.2.1.2.1 (1 : Int)).1) : Int) = (1 : Int))) (
                          O.bind (F_fdb_Table_Rows.S k r142.2.2) fun r147 =>
                          .ok (decide ((List.length r147.1 : Int) = (3 : Int)))) (
                          .ok false))))) (
                      .ok false)) (
                     .ok false)) (
                    .ok false)) (
                   .ok false)) (
                  .ok false)) (
                 .ok false)) (
                .ok false)) (
               .ok false)) (
              .ok false)) (
             .ok false)) (
            .ok false)) (
           .ok false)) (
          .ok false)) (
         .ok false)) (
        .ok false))) fun r132 =>
     O.cond (decide (r4.1 ≠ (0 : Int))) (
      .ok false) (
      O.bind (F_aqueductlaw20_from.S k (1 : Int) (2 : Int)) fun r148 =>
      O.bind (F_bridge_Bridge_In.S k (0 : Int) r148 r4.2.1 r4.2.2) fun r149 =>
      O.bind (F_aqueductlaw20_from.S k (2 : Int) (1 : Int)) fun r150 =>
      O.bind (F_bridge_Bridge_In.S k (1 : Int) r150 r149.2.1 r149.2.2) fun r151 =>
      O.bind (F_aqueductlaw20_from.S k (3 : Int) (1 : Int)) fun r152 =>
      O.bind (F_bridge_Bridge_In.S k (0 : Int) r152 r151.2.1 r151.2.2) fun r153 =>
      O.bind (F_aqueductlaw20_from.S k (3 : Int) (1 : Int)) fun r154 =>
      O.bind (F_bridge_Bridge_In.S k (3 : Int) r154 r153.2.1 r153.2.2) fun r155 =>
      O.bind (F_bridge_Bridge_Out.S k (2 : Int) r155.2.1 r155.2.2) fun r156 =>
      O.bind (F_bridge_Bridge_Out.S k (2 : Int) r156.2.1 r156.2.2) fun r157 =>
      O.cond (decide (r20.1 = (200 : Int))) (
       O.cond (decide (r98.1 = (180 : Int))) (
        O.cond (decide (r132.1 = (190 : Int))) (
         O.bind (F_aqueductref11_Same.S k r149.1.1 [(1 : Int), (2 : Int)]) fun r158 =>
         O.cond r158 (
          O.cond (decide (r149.1.2 = (0 : Int))) (
           O.bind (F_aqueductref11_Same.S k r151.1.1 [(0 : Int)]) fun r159 =>
           O.cond r159 (
            O.cond (decide (r151.1.2 = (0 : Int))) (
             O.cond (decide ((List.length r153.1.1 : Int) = (0 : Int))) (
              O.cond (decide (r153.1.2 = (0 : Int))) (
               O.cond (decide (r155.1.2 = (1 : Int))) (
                O.bind (F_aqueductlaw20_from.S k (1 : Int) (2 : Int)) fun r160 =>
                O.cond (decide (r156.1.1 = r160)) (
                 O.cond r156.1.2 (
                  O.cond (decide (r157.1.1 = (⟨#[]⟩ : ByteArray))) (
                   O.cond (!r157.1.2) (
                    O.cond (decide (r157.2.1.2.2.1 = (3 : Int)) && (decide (r157.2.1.2.2.2.1 = (0 : Int)) && (decide (r157.2.1.2.2.2.2.1 = (0 : Int)) && (decide (r157.2.1.2.2.2.2.2.1 = (1 : Int)) && (decide (r157.2.1.2.2.2.2.2.2.1 = (3 : Int)) && (decide (r157.2.1.2.2.2.2.2.2.2 = (0 : Int)) && true)))))) (
                     O.cond (decide ((1 : Int) ≥ (List.length r157.2.1.1 : Int))) (
                      O.cond false (
                       O.bind (F_fdb_Table_Rows.S k r157.2.2) fun r161 =>
                       .ok (decide ((List.length r161.1 : Int) = (3 : Int)))) (
                       .ok false)) (
                      O.chk (decide (0 ≤ (1 : Int) ∧ (1 : Int) < (List.length r157.2.1.2.1 : Int))) (
                       O.chk (decide (0 ≤ (1 : Int) ∧ (1 : Int) < (List.length r157.2.1.2.1 : Int))) (
                        O.cond (decide ((List.length ((gt ([], (0 : Int), (0 : Int)) r157.2.1.2.1 (1 : Int)).1) : Int) = (1 : Int))) (
                         O.bind (F_fdb_Table_Rows.S k r157.2.2) fun r162 =>
                         .ok (decide ((List.length r162.1 : Int) = (3 : Int)))) (
                         .ok false))))) (
                     .ok false)) (
                    .ok false)) (
                   .ok false)) (
                  .ok false)) (
                 .ok false)) (
                .ok false)) (
               .ok false)) (
              .ok false)) (
             .ok false)) (
            .ok false)) (
           .ok false)) (
          .ok false)) (
         .ok false)) (
        .ok false)) (
       .ok false)))))
theorem eq (k : Nat) : evFn (T := Bool) tab (calOf (cal k)) Go.Proofs.Tryz.f18 nt k 0 [] [] ⟨0, false, []⟩ (fun v st => outK ct.ob (γ0 ct) ct.outs v st .ok) (fun e st => outP ct.ob (γ0 ct) ct.outs e st .ok) = S k := by kernel_rfl
theorem ok (k : Nat) : FnOkC Tryz.prog 18 ct (fun (_ : Unit) (_ : Unit) => S k) :=
 FnOkC.of_ev (C := ct) tab_ok rfl (calOf_ok (cal_ok k)) mixed Tryz.func18 nt k (fun _ _ => rfl) (fun (_ : Unit) (_ : Unit) => eq k)
theorem hd {T : Type} (k : Nat) : HdOk Tryz.prog 18 (pureC (T := T) ct [] (fun (_ : Unit) (_ : Unit) => S k)) :=
 pureC_ok rfl [] (ok k) Tryz.call18
end F_aqueductlaw20_fixed
end Go.Proofs.YtkihcmcaignmkaaGreat
end
section
namespace Go.Proofs.YtkihcmcaignmkaaGreat
open Go.Aq
set_option linter.unusedVariables false
set_option maxRecDepth 100000
namespace F_aqueductlaw20_BridgeDoes
noncomputable def ct : Ct := ⟨.some (.one (.agg (.cons (.tab false 58 (.cons (.leaf (.int .i64)) (.one (.row false 3 [.int .i64]) []))) (.cons (.leaf (.int .i64)) (.cons (.leaf (.int .i64)) (.cons (.leaf (.int .i64)) (.one (.row false 31 [.int .i64, .int .i64, .str]) [])))))) []), [], [⟨.val (.leaf .bool), [], []⟩]⟩
noncomputable def nt : Notes := ⟨[(5, ⟨[1, 3, 4, 6], []⟩), (5, ⟨[1, 3, 4, 6], []⟩), (5, ⟨[1, 3, 4, 6], []⟩), (5, ⟨[1, 3, 4, 6], []⟩), (16, ⟨[1, 3, 4, 6, 9, 13], []⟩)], [], [(25, [0, 2, 3, 4, 1, 5, 6, 7]), (35, [0, 2, 3, 4, 1, 5, 6, 7, 8, 10, 11, 12, 9, 13, 14, 15, 16, 17, 18, 19, 20, 21, 22, 23, 24, 25])], [], [(25, [], [], [127]), (35, [], [], [149, 157, 160])]⟩
noncomputable def cal0 {T : Type} (k : Nat) : List (FuncId × Hd T) := [(4, pureC F_aqueductlaw20_laid.ct [] (fun (x : TY8 × Int × Int × Int × TY17) (_ : Unit) => F_aqueductlaw20_laid.S k x)), (5, pureC F_bridge_Bridge_In.ct [.arg 0 0, .fld 0 1] (fun (x : Int × ByteArray) (g : TY2 × TY3) => F_bridge_Bridge_In.S k x.1 x.2 g.1 g.2)), (6, pureC F_aqueductref20_Bridge_In.ct [.arg 0 0, .fld 0 1] (fun (x : Int × ByteArray) (g : TY2 × TY11) => F_aqueductref20_Bridge_In.S k x.1 x.2 g.1 g.2)), (7, pureC F_aqueductref11_Same.ct [] (fun (x : List Int × List Int) (_ : Unit) => F_aqueductref11_Same.S k x.1 x.2)), (8, pureC F_bridge_Bridge_Out.ct [.arg 0 0, .fld 0 1] (fun (x : Int) (g : TY2 × TY3) => F_bridge_Bridge_Out.S k x g.1 g.2)), (9, pureC F_aqueductref20_Bridge_Out.ct [.arg 0 0, .fld 0 1] (fun (x : Int) (g : TY2 × TY11) => F_aqueductref20_Bridge_Out.S k x g.1 g.2)), (11, pureC F_aqueductref18_Table_Tick.ct [.arg 0 0] (fun (_ : Unit) (g : Int × Int × TY12) => F_aqueductref18_Table_Tick.S k g)), (12, pureC F_bridge_Bridge_Clone.ct [.arg 0 0, .fld 0 1] (fun (_ : Unit) (g : TY2 × TY3) => F_bridge_Bridge_Clone.S k g.1 g.2)), (13, pureC F_aqueductlaw20_from.ct [] (fun (x : Int × Int) (_ : Unit) => F_aqueductlaw20_from.S k x.1 x.2)), (15, pureC F_aqueductref18_Same.ct [] (fun (x : TY12 × TY12) (_ : Unit) => F_aqueductref18_Same.S k x.1 x.2)), (17, pureC F_aqueductlaw20_waits.ct [.arg 0 0, .fld 0 1, .arg 1 0, .fld 2 1] (fun (_ : Unit) (g : TY2 × TY3 × TY2 × TY11) => F_aqueductlaw20_waits.S k g.1 g.2.1 g.2.2.1 g.2.2.2)), (18, pureC F_aqueductlaw20_fixed.ct [] (fun (_ : Unit) (_ : Unit) => F_aqueductlaw20_fixed.S k)), (37, pureC F_fdb_Table_Tick.ct [.arg 0 0] (fun (_ : Unit) (g : Int × Int × TY0) => F_fdb_Table_Tick.S k g)), (41, pureC F_fdb_Table_Rows.ct [.arg 0 0] (fun (_ : Unit) (g : Int × Int × TY0) => F_fdb_Table_Rows.S k g))]
theorem cal0_ok {T : Type} (k : Nat) : HdsOk Tryz.prog (cal0 (T := T) k) := ⟨F_aqueductlaw20_laid.hd k, F_bridge_Bridge_In.hd k, F_aqueductref20_Bridge_In.hd k, F_aqueductref11_Same.hd k, F_bridge_Bridge_Out.hd k, F_aqueductref20_Bridge_Out.hd k, F_aqueductref18_Table_Tick.hd k, F_bridge_Bridge_Clone.hd k, F_aqueductlaw20_from.hd k, F_aqueductref18_Same.hd k, F_aqueductlaw20_waits.hd k, F_aqueductlaw20_fixed.hd k, F_fdb_Table_Tick.hd k, F_fdb_Table_Rows.hd k, trivial⟩
noncomputable def nt10 : Notes := ⟨[], [], [], [], []⟩
noncomputable def cal1 {T : Type} (k : Nat) : List (FuncId × Hd T) := (10, inlH tab (calOf (cal0 k)) Go.Proofs.Tryz.f10 nt10 k) :: cal0 k
theorem cal1_ok {T : Type} (k : Nat) : HdsOk Tryz.prog (cal1 (T := T) k) := ⟨inlH_ok tab_ok (calOf_ok (cal0_ok k)) mixed Tryz.func10 nt10 k Tryz.call10, cal0_ok k⟩
noncomputable def nt14 : Notes := ⟨[], [], [], [], []⟩
noncomputable def cal2 {T : Type} (k : Nat) : List (FuncId × Hd T) := (14, inlH tab (calOf (cal1 k)) Go.Proofs.Tryz.f14 nt14 k) :: cal1 k
theorem cal2_ok {T : Type} (k : Nat) : HdsOk Tryz.prog (cal2 (T := T) k) := ⟨inlH_ok tab_ok (calOf_ok (cal1_ok k)) mixed Tryz.func14 nt14 k Tryz.call14, cal1_ok k⟩
noncomputable def nt16 : Notes := ⟨[], [], [], [], []⟩
noncomputable def cal3 {T : Type} (k : Nat) : List (FuncId × Hd T) := (16, inlH tab (calOf (cal2 k)) Go.Proofs.Tryz.f16 nt16 k) :: cal2 k
theorem cal3_ok {T : Type} (k : Nat) : HdsOk Tryz.prog (cal3 (T := T) k) := ⟨inlH_ok tab_ok (calOf_ok (cal2_ok k)) mixed Tryz.func16 nt16 k Tryz.call16, cal2_ok k⟩
noncomputable def cal {T : Type} (k : Nat) : List (FuncId × Hd T) := cal3 k
theorem cal_ok {T : Type} (k : Nat) : HdsOk Tryz.prog (cal (T := T) k) := cal3_ok k
noncomputable abbrev la (k : Nat) (Rs : List (Fr → St → O (Bool))) (ds : List Dir) (j : Nat) : Fr → St → O (Bool) := loopAt tab (calOf (cal k)) Go.Proofs.Tryz.f3.ntmps nt k Rs ds (bodyOf Go.Proofs.Tryz.f3) (finK tab Go.Proofs.Tryz.f3.results.toList (fun v st => outK ct.ob (γ0 ct) ct.outs v st .ok) (fun e st => outP ct.ob (γ0 ct) ct.outs e st .ok)) j
noncomputable abbrev zl0 {α : Type} (X : Fr → St → α) (a0 : TY8 × Int × Int × Int × TY17) : α := X ⟨[(1, .ptr 0 0), (3, .nilp), (4, .nilp), (6, .int .i64 (0 : Int))], [], 0, []⟩ ⟨4, true, [(0, .cells 25 [.osl 1, .int .i64 a0.2.1, .int .i64 a0.2.2.1, .int .i64 a0.2.2.2.1, .osl 2]), (1, .tab false 58 [] 3 (.cons (.leaf (.int .i64)) (.one (.row false 3 [.int .i64]) [])) a0.1), (2, .row false 31 [.int .i64, .int .i64, .str] a0.2.2.2.2), (3, .ghost)]⟩
noncomputable abbrev zl1 {α : Type} (X : Fr → St → α) (a0 : TY8 × Int × Int × Int × TY17) (r8 : Bool × TY2 × TY11) : α := X ⟨[(1, .ptr 0 0), (3, .nilp), (4, .ptr 1 0), (6, .int .i64 (0 : Int))], [], 0, []⟩ ⟨11, true, [(0, .cells 25 [.osl 2, .int .i64 a0.2.1, .int .i64 a0.2.2.1, .int .i64 a0.2.2.2.1, .osl 3]), (1, .cells 45 [.osl 4, .ptr 5 0, .osl 6, .int .i64 r8.2.1.2.2.1, .int .i64 r8.2.1.2.2.2.1, .int .i64 r8.2.1.2.2.2.2.1, .int .i64 r8.2.1.2.2.2.2.2.1, .int .i64 r8.2.1.2.2.2.2.2.2.1, .int .i64 r8.2.1.2.2.2.2.2.2.2]), (2, .tab false 58 [] 7 (.cons (.leaf (.int .i64)) (.one (.row false 3 [.int .i64]) [])) a0.1), (3, .row false 31 [.int .i64, .int .i64, .str] a0.2.2.2.2), (4, .tab false 58 [] 8 (.cons (.leaf (.int .i64)) (.one (.row false 3 [.int .i64]) [])) r8.2.1.1), (5, .cells 53 [.int .i64 r8.2.2.1, .int .i64 r8.2.2.2.1, .osl 9]), (6, .tab true 86 [] 10 (.one (.box 95 (.cons (.row true 9 [.str]) (.cons (.leaf (.int .i64)) (.one (.leaf (.int .i64)) [])))) []) r8.2.1.2.1), (7, .ghost), (8, .ghost), (9, .row true 89 [.int .i64, .str, .int .i64, .int .i64] r8.2.2.2.2), (10, .ghost)]⟩
noncomputable abbrev zl2 {α : Type} (X : Fr → St → α) (a0 : TY8 × Int × Int × Int × TY17) (r9 : Bool × TY2 × TY3) : α := X ⟨[(1, .ptr 0 0), (3, .ptr 1 0), (4, .nilp), (6, .int .i64 (0 : Int))], [], 0, []⟩ ⟨11, true, [(0, .cells 25 [.osl 2, .int .i64 a0.2.1, .int .i64 a0.2.2.1, .int .i64 a0.2.2.2.1, .osl 3]), (1, .cells 66 [.osl 4, .ptr 5 0, .osl 6, .int .i64 r9.2.1.2.2.1, .int .i64 r9.2.1.2.2.2.1, .int .i64 r9.2.1.2.2.2.2.1, .int .i64 r9.2.1.2.2.2.2.2.1, .int .i64 r9.2.1.2.2.2.2.2.2.1, .int .i64 r9.2.1.2.2.2.2.2.2.2]), (2, .tab false 58 [] 7 (.cons (.leaf (.int .i64)) (.one (.row false 3 [.int .i64]) [])) a0.1), (3, .row false 31 [.int .i64, .int .i64, .str] a0.2.2.2.2), (4, .tab false 58 [] 8 (.cons (.leaf (.int .i64)) (.one (.row false 3 [.int .i64]) [])) r9.2.1.1), (5, .cells 124 [.int .i64 r9.2.2.1, .int .i64 r9.2.2.2.1, .mp 9]), (6, .tab true 78 [] 10 (.one (.box 129 (.cons (.row true 9 [.str]) (.cons (.leaf (.int .i64)) (.one (.leaf (.int .i64)) [])))) []) r9.2.1.2.1), (7, .ghost), (8, .ghost), (9, .map 122 true true [.int .i64, .str] [.int .i64, .str, .int .i64, .int .i64] r9.2.2.2.2), (10, .ghost)]⟩
noncomputable abbrev zl3 {α : Type} (X : Fr → St → α) (a0 : TY8 × Int × Int × Int × TY17) (v140 : Int) (v141 : Int) (v142 : Int) (v143 : Int) (v144 : Int) (v145 : Int) (v146 : Int) (v147 : Int) (v148 : Int) (v149 : Int) (v150 : Int) (v151 : Int) (v152 : Int) (v153 : List (Int × List Int)) (v154 : Int) (v155 : Int) (v156 : List TY7) (v157 : List (Int × List Int)) (v158 : Int) (v159 : Int) (v160 : List TY7) (v161 : List TY1) (v162 : List TY13) : α := X ⟨[(1, .ptr 0 0), (3, .ptr 1 0), (4, .ptr 2 0), (6, .int .i64 v140)], [], 0, []⟩ ⟨18, true, [(0, .cells 25 [.osl 3, .int .i64 a0.2.1, .int .i64 a0.2.2.1, .int .i64 a0.2.2.2.1, .osl 4]), (1, .cells 66 [.osl 5, .ptr 6 0, .osl 7, .int .i64 v141, .int .i64 v142, .int .i64 v143, .int .i64 v144, .int .i64 v145, .int .i64 v146]), (2, .cells 45 [.osl 8, .ptr 9 0, .osl 10, .int .i64 v147, .int .i64 v148, .int .i64 v149, .int .i64 v150, .int .i64 v151, .int .i64 v152]), (3, .tab false 58 [] 11 (.cons (.leaf (.int .i64)) (.one (.row false 3 [.int .i64]) [])) a0.1), (4, .row false 31 [.int .i64, .int .i64, .str] a0.2.2.2.2), (5, .tab false 58 [] 12 (.cons (.leaf (.int .i64)) (.one (.row false 3 [.int .i64]) [])) v153), (6, .cells 124 [.int .i64 v154, .int .i64 v155, .mp 13]), (7, .tab true 78 [] 14 (.one (.box 129 (.cons (.row true 9 [.str]) (.cons (.leaf (.int .i64)) (.one (.leaf (.int .i64)) [])))) []) v156), (8, .tab false 58 [] 15 (.cons (.leaf (.int .i64)) (.one (.row false 3 [.int .i64]) [])) v157), (9, .cells 53 [.int .i64 v158, .int .i64 v159, .osl 16]), (10, .tab true 86 [] 17 (.one (.box 95 (.cons (.row true 9 [.str]) (.cons (.leaf (.int .i64)) (.one (.leaf (.int .i64)) [])))) []) v160), (11, .ghost), (12, .ghost), (13, .map 122 true true [.int .i64, .str] [.int .i64, .str, .int .i64, .int .i64] v161), (14, .ghost), (15, .ghost), (16, .row true 89 [.int .i64, .str, .int .i64, .int .i64] v162), (17, .ghost)]⟩
noncomputable abbrev zl4 {α : Type} (X : Fr → St → α) (a0 : TY8 × Int × Int × Int × TY17) (v140 : Int) (r288 : (List Int × Int) × TY2 × TY3) (r290 : (List Int × Int) × TY2 × TY11) (v293 : Int) (v294 : List Int) : α := X ⟨[(1, .ptr 0 0), (3, .ptr 1 0), (4, .ptr 2 0), (6, .int .i64 v140), (9, .osl 3), (13, .int .i64 v293)], [], 0, []⟩ ⟨19, true, [(0, .cells 25 [.osl 4, .int .i64 a0.2.1, .int .i64 a0.2.2.1, .int .i64 a0.2.2.2.1, .osl 5]), (1, .cells 66 [.osl 6, .ptr 7 0, .osl 8, .int .i64 r288.2.1.2.2.1, .int .i64 r288.2.1.2.2.2.1, .int .i64 r288.2.1.2.2.2.2.1, .int .i64 r288.2.1.2.2.2.2.2.1, .int .i64 r288.2.1.2.2.2.2.2.2.1, .int .i64 r288.2.1.2.2.2.2.2.2.2]), (2, .cells 45 [.osl 9, .ptr 10 0, .osl 11, .int .i64 r290.2.1.2.2.1, .int .i64 r290.2.1.2.2.2.1, .int .i64 r290.2.1.2.2.2.2.1, .int .i64 r290.2.1.2.2.2.2.2.1, .int .i64 r290.2.1.2.2.2.2.2.2.1, .int .i64 r290.2.1.2.2.2.2.2.2.2]), (3, .row true 3 [.int .i64] v294), (4, .tab false 58 [] 12 (.cons (.leaf (.int .i64)) (.one (.row false 3 [.int .i64]) [])) a0.1), (5, .row false 31 [.int .i64, .int .i64, .str] a0.2.2.2.2), (6, .tab false 58 [] 13 (.cons (.leaf (.int .i64)) (.one (.row false 3 [.int .i64]) [])) r288.2.1.1), (7, .cells 124 [.int .i64 r288.2.2.1, .int .i64 r288.2.2.2.1, .mp 14]), (8, .tab true 78 [] 15 (.one (.box 129 (.cons (.row true 9 [.str]) (.cons (.leaf (.int .i64)) (.one (.leaf (.int .i64)) [])))) []) r288.2.1.2.1), (9, .tab false 58 [] 16 (.cons (.leaf (.int .i64)) (.one (.row false 3 [.int .i64]) [])) r290.2.1.1), (10, .cells 53 [.int .i64 r290.2.2.1, .int .i64 r290.2.2.2.1, .osl 17]), (11, .tab true 86 [] 18 (.one (.box 95 (.cons (.row true 9 [.str]) (.cons (.leaf (.int .i64)) (.one (.leaf (.int .i64)) [])))) []) r290.2.1.2.1), (12, .ghost), (13, .ghost), (14, .map 122 true true [.int .i64, .str] [.int .i64, .str, .int .i64, .int .i64] r288.2.2.2.2), (15, .ghost), (16, .ghost), (17, .row true 89 [.int .i64, .str, .int .i64, .int .i64] r290.2.2.2.2), (18, .ghost)]⟩
noncomputable def l0_b (k : Nat) (a0 : TY8 × Int × Int × Int × TY17) (R_l0 : O Bool) : O Bool :=
 O.bind (F_aqueductlaw20_fixed.S k) fun r12 =>
 .ok r12
noncomputable def l0 (k : Nat) (a0 : TY8 × Int × Int × Int × TY17) : Nat → O Bool
 | 0 => .no
 | j + 1 => l0_b k a0 (l0 k a0 j)
theorem l0_eq (k : Nat) (a0 : TY8 × Int × Int × Int × TY17) : ∀ (j : Nat), zl0 (la k [] [.r, .r, .r, .l, .r, .b] j) a0 = l0 k a0 j := by
 intro j
 induction j with
 | zero => rfl
 | succ j ih =>
  have rs : zl0 (la k [] [.r, .r, .r, .l, .r, .b] j) a0 = l0 k a0 j := by exact ih
  have h : zl0 (la k [] [.r, .r, .r, .l, .r, .b] (j + 1)) a0 = l0_b k a0 (zl0 (la k [] [.r, .r, .r, .l, .r, .b] j) a0) := by kernel_rfl
  exact h.trans (by rw [rs]; rfl)
noncomputable def l1_b (k : Nat) (a0 : TY8 × Int × Int × Int × TY17) (r8 : Bool × TY2 × TY11) (R_l1 : O Bool) : O Bool :=
 O.bind (F_aqueductlaw20_fixed.S k) fun r14 =>
 .ok r14
noncomputable def l1 (k : Nat) (a0 : TY8 × Int × Int × Int × TY17) (r8 : Bool × TY2 × TY11) : Nat → O Bool
 | 0 => .no
 | j + 1 => l1_b k a0 r8 (l1 k a0 r8 j)
theorem l1_eq (k : Nat) (a0 : TY8 × Int × Int × Int × TY17) (r8 : Bool × TY2 × TY11) : ∀ (j : Nat), zl1 (la k [] [.r, .r, .r, .l, .r, .b] j) a0 r8 = l1 k a0 r8 j := by
 intro j
 induction j with
 | zero => rfl
 | succ j ih =>
  have rs : zl1 (la k [] [.r, .r, .r, .l, .r, .b] j) a0 r8 = l1 k a0 r8 j := by exact ih
  have h : zl1 (la k [] [.r, .r, .r, .l, .r, .b] (j + 1)) a0 r8 = l1_b k a0 r8 (zl1 (la k [] [.r, .r, .r, .l, .r, .b] j) a0 r8) := by kernel_rfl
  exact h.trans (by rw [rs]; rfl)
noncomputable def l2_b (k : Nat) (a0 : TY8 × Int × Int × Int × TY17) (r9 : Bool × TY2 × TY3) (R_l2 : O Bool) : O Bool :=
 O.bind (F_aqueductlaw20_fixed.S k) fun r15 =>
 .ok r15
noncomputable def l2 (k : Nat) (a0 : TY8 × Int × Int × Int × TY17) (r9 : Bool × TY2 × TY3) : Nat → O Bool
 | 0 => .no
 | j + 1 => l2_b k a0 r9 (l2 k a0 r9 j)
theorem l2_eq (k : Nat) (a0 : TY8 × Int × Int × Int × TY17) (r9 : Bool × TY2 × TY3) : ∀ (j : Nat), zl2 (la k [] [.r, .r, .r, .l, .r, .b] j) a0 r9 = l2 k a0 r9 j := by
 intro j
 induction j with
 | zero => rfl
 | succ j ih =>
  have rs : zl2 (la k [] [.r, .r, .r, .l, .r, .b] j) a0 r9 = l2 k a0 r9 j := by exact ih
  have h : zl2 (la k [] [.r, .r, .r, .l, .r, .b] (j + 1)) a0 r9 = l2_b k a0 r9 (zl2 (la k [] [.r, .r, .r, .l, .r, .b] j) a0 r9) := by kernel_rfl
  exact h.trans (by rw [rs]; rfl)
noncomputable def l4_b (k : Nat) (a0 : TY8 × Int × Int × Int × TY17) (v140 : Int) (r288 : (List Int × Int) × TY2 × TY3) (r290 : (List Int × Int) × TY2 × TY11) (R_l3 : Int → Int → Int → Int → Int → Int → Int → Int → Int → Int → Int → Int → Int → TY8 → Int → Int → TY5 → TY8 → Int → Int → TY5 → TY0 → TY12 → O Bool) (R_l4 : Int → (List Int) → O Bool) (v293 : Int) (v294 : List Int) : O Bool :=
  O.cond (decide (v293 < (List.length v294 : Int))) (
   O.chk (decide (0 ≤ v293 ∧ v293 < (List.length v294 : Int) ∧ (List.length v294 : Int) ≤ (List.length v294 : Int))) (
    O.chk (decide (0 ≤ v293 ∧ v293 < (List.length v294 : Int))) (
     R_l4 (IntKind.i64.wrap (v293 + (1 : Int))) (su v294 v293 (-1 : Int))))) (
   O.twice (
    O.cond (!(decide (r288.2.1.2.2.1 = r290.2.1.2.2.1) && (decide (r288.2.1.2.2.2.1 = r290.2.1.2.2.2.1) && (decide (r288.2.1.2.2.2.2.1 = r290.2.1.2.2.2.2.1) && (decide (r288.2.1.2.2.2.2.2.1 = r290.2.1.2.2.2.2.2.1) && (decide (r288.2.1.2.2.2.2.2.2.1 = r290.2.1.2.2.2.2.2.2.1) && (decide (r288.2.1.2.2.2.2.2.2.2 = r290.2.1.2.2.2.2.2.2.2) && true))))))) (
     O.same (
      .ok false) (
      O.twice (
       .ok false))) (
     O.same (
      O.bind (F_fdb_Table_Rows.S k r288.2.2) fun r295 =>
      O.bind (F_aqueductref18_Same.S k r295.1 r290.2.2.2.2) fun r296 =>
      O.cond (!r296) (
       .ok false) (
       O.bind (F_aqueductlaw20_waits.S k r288.2.1 r295.2 r290.2.1 r290.2.2) fun r297 =>
       O.cond (!r297.1) (
        .ok false) (
        R_l3 (IntKind.i64.wrap (v140 + (1 : Int))) r297.2.1.2.2.1 r297.2.1.2.2.2.1 r297.2.1.2.2.2.2.1 r297.2.1.2.2.2.2.2.1 r297.2.1.2.2.2.2.2.2.1 r297.2.1.2.2.2.2.2.2.2 r297.2.2.2.1.2.2.1 r297.2.2.2.1.2.2.2.1 r297.2.2.2.1.2.2.2.2.1 r297.2.2.2.1.2.2.2.2.2.1 r297.2.2.2.1.2.2.2.2.2.2.1 r297.2.2.2.1.2.2.2.2.2.2.2 r297.2.1.1 r297.2.2.1.1 r297.2.2.1.2.1 r297.2.1.2.1 r297.2.2.2.1.1 r297.2.2.2.2.1 r297.2.2.2.2.2.1 r297.2.2.2.1.2.1 r297.2.2.1.2.2 r297.2.2.2.2.2.2))) (
      O.twice (
       O.bind (F_fdb_Table_Rows.S k r288.2.2) fun r298 =>
       O.bind (F_aqueductref18_Same.S k r298.1 r290.2.2.2.2) fun r299 =>
       O.cond (!r299) (
        .ok false) (
        O.bind (F_aqueductlaw20_waits.S k r288.2.1 r298.2 r290.2.1 r290.2.2) fun r300 =>
        O.cond (!r300.1) (
         .ok false) (
         R_l3 (IntKind.i64.wrap (v140 + (1 : Int))) r300.2.1.2.2.1 r300.2.1.2.2.2.1 r300.2.1.2.2.2.2.1 r300.2.1.2.2.2.2.2.1 r300.2.1.2.2.2.2.2.2.1 r300.2.1.2.2.2.2.2.2.2 r300.2.2.2.1.2.2.1 r300.2.2.2.1.2.2.2.1 r300.2.2.2.1.2.2.2.2.1 r300.2.2.2.1.2.2.2.2.2.1 r300.2.2.2.1.2.2.2.2.2.2.1 r300.2.2.2.1.2.2.2.2.2.2.2 r300.2.1.1 r300.2.2.1.1 r300.2.2.1.2.1 r300.2.1.2.1 r300.2.2.2.1.1 r300.2.2.2.2.1 r300.2.2.2.2.2.1 r300.2.2.2.1.2.1 r300.2.2.1.2.2 r300.2.2.2.2.2.2)))))))
noncomputable def l4 (k : Nat) (a0 : TY8 × Int × Int × Int × TY17) (v140 : Int) (r288 : (List Int × Int) × TY2 × TY3) (r290 : (List Int × Int) × TY2 × TY11) (R_l3 : Int → Int → Int → Int → Int → Int → Int → Int → Int → Int → Int → Int → Int → TY8 → Int → Int → TY5 → TY8 → Int → Int → TY5 → TY0 → TY12 → O Bool) : Nat → Int → (List Int) → O Bool
 | 0, _, _ => .no
 | j + 1, v293, v294 => l4_b k a0 v140 r288 r290 R_l3 (l4 k a0 v140 r288 r290 R_l3 j) v293 v294
theorem l4_eq (k : Nat) (a0 : TY8 × Int × Int × Int × TY17) (v140 : Int) (r288 : (List Int × Int) × TY2 × TY3) (r290 : (List Int × Int) × TY2 × TY11) (RR_l3 : Fr → St → O Bool) (R_l3 : Int → Int → Int → Int → Int → Int → Int → Int → Int → Int → Int → Int → Int → TY8 → Int → Int → TY5 → TY8 → Int → Int → TY5 → TY0 → TY12 → O Bool) (hR_l3 : ∀ (v140' : Int) (v141' : Int) (v142' : Int) (v143' : Int) (v144' : Int) (v145' : Int) (v146' : Int) (v147' : Int) (v148' : Int) (v149' : Int) (v150' : Int) (v151' : Int) (v152' : Int) (v153' : List (Int × List Int)) (v154' : Int) (v155' : Int) (v156' : List TY7) (v157' : List (Int × List Int)) (v158' : Int) (v159' : Int) (v160' : List TY7) (v161' : List TY1) (v162' : List TY13), zl3 RR_l3 a0 v140' v141' v142' v143' v144' v145' v146' v147' v148' v149' v150' v151' v152' v153' v154' v155' v156' v157' v158' v159' v160' v161' v162' = R_l3 v140' v141' v142' v143' v144' v145' v146' v147' v148' v149' v150' v151' v152' v153' v154' v155' v156' v157' v158' v159' v160' v161' v162') : ∀ (j : Nat) (v293 : Int) (v294 : List Int), zl4 (la k [RR_l3] [.r, .r, .r, .l, .r, .b, .p, .r, .l, .b, .r, .r, .l, .r, .b, .r, .t, .r, .r, .r, .r, .b] j) a0 v140 r288 r290 v293 v294 = l4 k a0 v140 r288 r290 R_l3 j v293 v294 := by
 intro j
 induction j with
 | zero => intro v293 v294; rfl
 | succ j ih =>
  intro v293 v294
  have rs : (fun (v293' : Int) (v294' : List Int) => zl4 (la k [RR_l3] [.r, .r, .r, .l, .r, .b, .p, .r, .l, .b, .r, .r, .l, .r, .b, .r, .t, .r, .r, .r, .r, .b] j) a0 v140 r288 r290 v293' v294') = l4 k a0 v140 r288 r290 R_l3 j := by funext v293' v294'; exact ih v293' v294'
  have r0 : (fun (v140' : Int) (v141' : Int) (v142' : Int) (v143' : Int) (v144' : Int) (v145' : Int) (v146' : Int) (v147' : Int) (v148' : Int) (v149' : Int) (v150' : Int) (v151' : Int) (v152' : Int) (v153' : List (Int × List Int)) (v154' : Int) (v155' : Int) (v156' : List TY7) (v157' : List (Int × List Int)) (v158' : Int) (v159' : Int) (v160' : List TY7) (v161' : List TY1) (v162' : List TY13) => zl3 RR_l3 a0 v140' v141' v142' v143' v144' v145' v146' v147' v148' v149' v150' v151' v152' v153' v154' v155' v156' v157' v158' v159' v160' v161' v162') = R_l3 := by funext v140' v141' v142' v143' v144' v145' v146' v147' v148' v149' v150' v151' v152' v153' v154' v155' v156' v157' v158' v159' v160' v161' v162'; exact hR_l3 v140' v141' v142' v143' v144' v145' v146' v147' v148' v149' v150' v151' v152' v153' v154' v155' v156' v157' v158' v159' v160' v161' v162'
  have h : zl4 (la k [RR_l3] [.r, .r, .r, .l, .r, .b, .p, .r, .l, .b, .r, .r, .l, .r, .b, .r, .t, .r, .r, .r, .r, .b] (j + 1)) a0 v140 r288 r290 v293 v294 = l4_b k a0 v140 r288 r290 ((fun (v140' : Int) (v141' : Int) (v142' : Int) (v143' : Int) (v144' : Int) (v145' : Int) (v146' : Int) (v147' : Int) (v148' : Int) (v149' : Int) (v150' : Int) (v151' : Int) (v152' : Int) (v153' : List (Int × List Int)) (v154' : Int) (v155' : Int) (v156' : List TY7) (v157' : List (Int × List Int)) (v158' : Int) (v159' : Int) (v160' : List TY7) (v161' : List TY1) (v162' : List TY13) => zl3 RR_l3 a0 v140' v141' v142' v143' v144' v145' v146' v147' v148' v149' v150' v151' v152' v153' v154' v155' v156' v157' v158' v159' v160' v161' v162')) ((fun (v293' : Int) (v294' : List Int) => zl4 (la k [RR_l3] [.r, .r, .r, .l, .r, .b, .p, .r, .l, .b, .r, .r, .l, .r, .b, .r, .t, .r, .r, .r, .r, .b] j) a0 v140 r288 r290 v293' v294')) v293 v294 := by kernel_rfl
  exact h.trans (by rw [rs, r0]; rfl)
noncomputable def l3_b (k : Nat) (a0 : TY8 × Int × Int × Int × TY17) (R_l3 : Int → Int → Int → Int → Int → Int → Int → Int → Int → Int → Int → Int → Int → TY8 → Int → Int → TY5 → TY8 → Int → Int → TY5 → TY0 → TY12 → O Bool) (D_l4 : Int → TY19 → TY26 → Int → (List Int) → O Bool) (v140 : Int) (v141 : Int) (v142 : Int) (v143 : Int) (v144 : Int) (v145 : Int) (v146 : Int) (v147 : Int) (v148 : Int) (v149 : Int) (v150 : Int) (v151 : Int) (v152 : Int) (v153 : List (Int × List Int)) (v154 : Int) (v155 : Int) (v156 : List TY7) (v157 : List (Int × List Int)) (v158 : Int) (v159 : Int) (v160 : List TY7) (v161 : List TY1) (v162 : List TY13) : O Bool :=
  O.cond (decide (v140 < (List.length a0.2.2.2.2 : Int))) (
   O.cond (decide (v140 < (60 : Int))) (
    O.chk (decide (0 ≤ v140 ∧ v140 < (List.length a0.2.2.2.2 : Int) ∧ (List.length a0.2.2.2.2 : Int) ≤ (List.length a0.2.2.2.2 : Int))) (
     O.chk (decide (0 ≤ v140 ∧ v140 < (List.length a0.2.2.2.2 : Int))) (
      O.chk (decide (0 ≤ (min (ByteArray.size ((gt ((0 : Int), (0 : Int), ByteArray.empty) a0.2.2.2.2 v140).2.2) : Int) (1600 : Int)) ∧ (min (ByteArray.size ((gt ((0 : Int), (0 : Int), ByteArray.empty) a0.2.2.2.2 v140).2.2) : Int) (1600 : Int)) ≤ (ByteArray.size ((gt ((0 : Int), (0 : Int), ByteArray.empty) a0.2.2.2.2 v140).2.2) : Int))) (
       O.cond (decide ((gt ((0 : Int), (0 : Int), ByteArray.empty) a0.2.2.2.2 v140).1 = (0 : Int))) (
        O.bind (F_bridge_Bridge_In.S k ((gt ((0 : Int), (0 : Int), ByteArray.empty) a0.2.2.2.2 v140).2.1) (ByteArray.extract ((gt ((0 : Int), (0 : Int), ByteArray.empty) a0.2.2.2.2 v140).2.2) 0 (min (ByteArray.size ((gt ((0 : Int), (0 : Int), ByteArray.empty) a0.2.2.2.2 v140).2.2) : Int) (1600 : Int)).toNat) (v153, v156, (v141, v142, v143, v144, v145, v146)) (v154, v155, v161)) fun r288 =>
        O.bind (F_aqueductref20_Bridge_In.S k ((gt ((0 : Int), (0 : Int), ByteArray.empty) a0.2.2.2.2 v140).2.1) (ByteArray.extract ((gt ((0 : Int), (0 : Int), ByteArray.empty) a0.2.2.2.2 v140).2.2) 0 (min (ByteArray.size ((gt ((0 : Int), (0 : Int), ByteArray.empty) a0.2.2.2.2 v140).2.2) : Int) (1600 : Int)).toNat) (v157, v160, (v147, v148, v149, v150, v151, v152)) (v158, v159, v162)) fun r290 =>
        O.bind (F_aqueductref11_Same.S k r288.1.1 r290.1.1) fun r292 =>
        O.cond (!r292) (
         .ok false) (
         O.cond (decide (r288.1.2 ≠ r290.1.2)) (
          .ok false) (
          D_l4 v140 r288 r290 (0 : Int) r288.1.1))) (
        O.cond (decide ((gt ((0 : Int), (0 : Int), ByteArray.empty) a0.2.2.2.2 v140).1 = (1 : Int))) (
         O.bind (F_bridge_Bridge_Out.S k ((gt ((0 : Int), (0 : Int), ByteArray.empty) a0.2.2.2.2 v140).2.1) (v153, v156, (v141, v142, v143, v144, v145, v146)) (v154, v155, v161)) fun r313 =>
         O.bind (F_aqueductref20_Bridge_Out.S k ((gt ((0 : Int), (0 : Int), ByteArray.empty) a0.2.2.2.2 v140).2.1) (v157, v160, (v147, v148, v149, v150, v151, v152)) (v158, v159, v162)) fun r314 =>
         O.cond (decide (r313.1.1 ≠ r314.1.1)) (
          .ok false) (
          O.cond (decide (r313.1.2 ≠ r314.1.2)) (
           .ok false) (
           O.twice (
            O.cond (!(decide (r313.2.1.2.2.1 = r314.2.1.2.2.1) && (decide (r313.2.1.2.2.2.1 = r314.2.1.2.2.2.1) && (decide (r313.2.1.2.2.2.2.1 = r314.2.1.2.2.2.2.1) && (decide (r313.2.1.2.2.2.2.2.1 = r314.2.1.2.2.2.2.2.1) && (decide (r313.2.1.2.2.2.2.2.2.1 = r314.2.1.2.2.2.2.2.2.1) && (decide (r313.2.1.2.2.2.2.2.2.2 = r314.2.1.2.2.2.2.2.2.2) && true))))))) (
             O.same (
              .ok false) (
              O.twice (
               .ok false))) (
             O.same (
              O.bind (F_fdb_Table_Rows.S k r313.2.2) fun r315 =>
              O.bind (F_aqueductref18_Same.S k r315.1 r314.2.2.2.2) fun r316 =>
              O.cond (!r316) (
               .ok false) (
               O.bind (F_aqueductlaw20_waits.S k r313.2.1 r315.2 r314.2.1 r314.2.2) fun r317 =>
               O.cond (!r317.1) (
                .ok false) (
                R_l3 (IntKind.i64.wrap (v140 + (1 : Int))) r317.2.1.2.2.1 r317.2.1.2.2.2.1 r317.2.1.2.2.2.2.1 r317.2.1.2.2.2.2.2.1 r317.2.1.2.2.2.2.2.2.1 r317.2.1.2.2.2.2.2.2.2 r317.2.2.2.1.2.2.1 r317.2.2.2.1.2.2.2.1 r317.2.2.2.1.2.2.2.2.1 r317.2.2.2.1.2.2.2.2.2.1 r317.2.2.2.1.2.2.2.2.2.2.1 r317.2.2.2.1.2.2.2.2.2.2.2 r317.2.1.1 r317.2.2.1.1 r317.2.2.1.2.1 r317.2.1.2.1 r317.2.2.2.1.1 r317.2.2.2.2.1 r317.2.2.2.2.2.1 r317.2.2.2.1.2.1 r317.2.2.1.2.2 r317.2.2.2.2.2.2))) (
              O.twice (
               O.bind (F_fdb_Table_Rows.S k r313.2.2) fun r318 =>
               O.bind (F_aqueductref18_Same.S k r318.1 r314.2.2.2.2) fun r319 =>
               O.cond (!r319) (
                .ok false) (
                O.bind (F_aqueductlaw20_waits.S k r313.2.1 r318.2 r314.2.1 r314.2.2) fun r320 =>
                O.cond (!r320.1) (
                 .ok false) (
                 R_l3 (IntKind.i64.wrap (v140 + (1 : Int))) r320.2.1.2.2.1 r320.2.1.2.2.2.1 r320.2.1.2.2.2.2.1 r320.2.1.2.2.2.2.2.1 r320.2.1.2.2.2.2.2.2.1 r320.2.1.2.2.2.2.2.2.2 r320.2.2.2.1.2.2.1 r320.2.2.2.1.2.2.2.1 r320.2.2.2.1.2.2.2.2.1 r320.2.2.2.1.2.2.2.2.2.1 r320.2.2.2.1.2.2.2.2.2.2.1 r320.2.2.2.1.2.2.2.2.2.2.2 r320.2.1.1 r320.2.2.1.1 r320.2.2.1.2.1 r320.2.1.2.1 r320.2.2.2.1.1 r320.2.2.2.2.1 r320.2.2.2.2.2.1 r320.2.2.2.1.2.1 r320.2.2.1.2.2 r320.2.2.2.2.2.2))))))))) (
         O.cond (decide ((gt ((0 : Int), (0 : Int), ByteArray.empty) a0.2.2.2.2 v140).1 = (2 : Int))) (
          O.twice (
           O.bind (F_fdb_Table_Tick.S k (v154, v155, v161)) fun r333 =>
           O.bind (F_aqueductref18_Table_Tick.S k (v158, v159, v162)) fun r334 =>
           O.cond (decide (r333.1 ≠ r334.1)) (
            .ok false) (
            O.twice (
             O.cond (!(decide (v141 = v147) && (decide (v142 = v148) && (decide (v143 = v149) && (decide (v144 = v150) && (decide (v145 = v151) && (decide (v146 = v152) && true))))))) (
              O.same (
               .ok false) (
               O.twice (
                .ok false))) (
              O.same (
               O.bind (F_fdb_Table_Rows.S k r333.2) fun r335 =>
               O.bind (F_aqueductref18_Same.S k r335.1 r334.2.2.2) fun r336 =>
               O.cond (!r336) (
                .ok false) (
                O.bind (F_aqueductlaw20_waits.S k (v153, v156, (v141, v142, v143, v144, v145, v146)) r335.2 (v157, v160, (v147, v148, v149, v150, v151, v152)) r334.2) fun r337 =>
                O.cond (!r337.1) (
                 .ok false) (
                 R_l3 (IntKind.i64.wrap (v140 + (1 : Int))) r337.2.1.2.2.1 r337.2.1.2.2.2.1 r337.2.1.2.2.2.2.1 r337.2.1.2.2.2.2.2.1 r337.2.1.2.2.2.2.2.2.1 r337.2.1.2.2.2.2.2.2.2 r337.2.2.2.1.2.2.1 r337.2.2.2.1.2.2.2.1 r337.2.2.2.1.2.2.2.2.1 r337.2.2.2.1.2.2.2.2.2.1 r337.2.2.2.1.2.2.2.2.2.2.1 r337.2.2.2.1.2.2.2.2.2.2.2 r337.2.1.1 r337.2.2.1.1 r337.2.2.1.2.1 r337.2.1.2.1 r337.2.2.2.1.1 r337.2.2.2.2.1 r337.2.2.2.2.2.1 r337.2.2.2.1.2.1 r337.2.2.1.2.2 r337.2.2.2.2.2.2))) (
               O.twice (
                O.bind (F_fdb_Table_Rows.S k r333.2) fun r338 =>
                O.bind (F_aqueductref18_Same.S k r338.1 r334.2.2.2) fun r339 =>
                O.cond (!r339) (
                 .ok false) (
                 O.bind (F_aqueductlaw20_waits.S k (v153, v156, (v141, v142, v143, v144, v145, v146)) r338.2 (v157, v160, (v147, v148, v149, v150, v151, v152)) r334.2) fun r340 =>
                 O.cond (!r340.1) (
                  .ok false) (
                  R_l3 (IntKind.i64.wrap (v140 + (1 : Int))) r340.2.1.2.2.1 r340.2.1.2.2.2.1 r340.2.1.2.2.2.2.1 r340.2.1.2.2.2.2.2.1 r340.2.1.2.2.2.2.2.2.1 r340.2.1.2.2.2.2.2.2.2 r340.2.2.2.1.2.2.1 r340.2.2.2.1.2.2.2.1 r340.2.2.2.1.2.2.2.2.1 r340.2.2.2.1.2.2.2.2.2.1 r340.2.2.2.1.2.2.2.2.2.2.1 r340.2.2.2.1.2.2.2.2.2.2.2 r340.2.1.1 r340.2.2.1.1 r340.2.2.1.2.1 r340.2.1.2.1 r340.2.2.2.1.1 r340.2.2.2.2.1 r340.2.2.2.2.2.1 r340.2.2.2.1.2.1 r340.2.2.1.2.2 r340.2.2.2.2.2.2))))))))) (
          O.cond (decide ((gt ((0 : Int), (0 : Int), ByteArray.empty) a0.2.2.2.2 v140).1 = (3 : Int))) (
           O.bind (F_bridge_Bridge_Clone.S k (v153, v156, (v141, v142, v143, v144, v145, v146)) (v154, v155, v161)) fun r373 =>
           O.bind (F_aqueductlaw20_from.S k (9 : Int) (8 : Int)) fun r374 =>
           O.bind (F_bridge_Bridge_In.S k (0 : Int) r374 r373.1 r373.2.1) fun r375 =>
           O.bind (F_bridge_Bridge_Out.S k (0 : Int) r375.2.1 r375.2.2) fun r376 =>
           O.bind (F_fdb_Table_Tick.S k r376.2.2) fun r377 =>
           O.twice (
            O.cond (!(decide (r373.2.2.1.2.2.1 = v147) && (decide (r373.2.2.1.2.2.2.1 = v148) && (decide (r373.2.2.1.2.2.2.2.1 = v149) && (decide (r373.2.2.1.2.2.2.2.2.1 = v150) && (decide (r373.2.2.1.2.2.2.2.2.2.1 = v151) && (decide (r373.2.2.1.2.2.2.2.2.2.2 = v152) && true))))))) (
             O.same (
              .ok false) (
              O.twice (
               .ok false))) (
             O.same (
              O.bind (F_fdb_Table_Rows.S k r373.2.2.2) fun r378 =>
              O.bind (F_aqueductref18_Same.S k r378.1 v162) fun r379 =>
              O.cond (!r379) (
               .ok false) (
               O.bind (F_aqueductlaw20_waits.S k r373.2.2.1 r378.2 (v157, v160, (v147, v148, v149, v150, v151, v152)) (v158, v159, v162)) fun r380 =>
               O.cond (!r380.1) (
                .ok false) (
                R_l3 (IntKind.i64.wrap (v140 + (1 : Int))) r380.2.1.2.2.1 r380.2.1.2.2.2.1 r380.2.1.2.2.2.2.1 r380.2.1.2.2.2.2.2.1 r380.2.1.2.2.2.2.2.2.1 r380.2.1.2.2.2.2.2.2.2 r380.2.2.2.1.2.2.1 r380.2.2.2.1.2.2.2.1 r380.2.2.2.1.2.2.2.2.1 r380.2.2.2.1.2.2.2.2.2.1 r380.2.2.2.1.2.2.2.2.2.2.1 r380.2.2.2.1.2.2.2.2.2.2.2 r380.2.1.1 r380.2.2.1.1 r380.2.2.1.2.1 r380.2.1.2.1 r380.2.2.2.1.1 r380.2.2.2.2.1 r380.2.2.2.2.2.1 r380.2.2.2.1.2.1 r380.2.2.1.2.2 r380.2.2.2.2.2.2))) (
              O.twice (
               O.bind (F_fdb_Table_Rows.S k r373.2.2.2) fun r381 =>
               O.bind (F_aqueductref18_Same.S k r381.1 v162) fun r382 =>
               O.cond (!r382) (
                .ok false) (
                O.bind (F_aqueductlaw20_waits.S k r373.2.2.1 r381.2 (v157, v160, (v147, v148, v149, v150, v151, v152)) (v158, v159, v162)) fun r383 =>
                O.cond (!r383.1) (
                 .ok false) (
                 R_l3 (IntKind.i64.wrap (v140 + (1 : Int))) r383.2.1.2.2.1 r383.2.1.2.2.2.1 r383.2.1.2.2.2.2.1 r383.2.1.2.2.2.2.2.1 r383.2.1.2.2.2.2.2.2.1 r383.2.1.2.2.2.2.2.2.2 r383.2.2.2.1.2.2.1 r383.2.2.2.1.2.2.2.1 r383.2.2.2.1.2.2.2.2.1 r383.2.2.2.1.2.2.2.2.2.1 r383.2.2.2.1.2.2.2.2.2.2.1 r383.2.2.2.1.2.2.2.2.2.2.2 r383.2.1.1 r383.2.2.1.1 r383.2.2.1.2.1 r383.2.1.2.1 r383.2.2.2.1.1 r383.2.2.2.2.1 r383.2.2.2.2.2.1 r383.2.2.2.1.2.1 r383.2.2.1.2.2 r383.2.2.2.2.2.2))))))) (
           O.twice (
            O.cond (!(decide (v141 = v147) && (decide (v142 = v148) && (decide (v143 = v149) && (decide (v144 = v150) && (decide (v145 = v151) && (decide (v146 = v152) && true))))))) (
             O.same (
              .ok false) (
              O.twice (
               .ok false))) (
             O.same (
              O.bind (F_fdb_Table_Rows.S k (v154, v155, v161)) fun r396 =>
              O.bind (F_aqueductref18_Same.S k r396.1 v162) fun r397 =>
              O.cond (!r397) (
               .ok false) (
               O.bind (F_aqueductlaw20_waits.S k (v153, v156, (v141, v142, v143, v144, v145, v146)) r396.2 (v157, v160, (v147, v148, v149, v150, v151, v152)) (v158, v159, v162)) fun r398 =>
               O.cond (!r398.1) (
                .ok false) (
                R_l3 (IntKind.i64.wrap (v140 + (1 : Int))) r398.2.1.2.2.1 r398.2.1.2.2.2.1 r398.2.1.2.2.2.2.1 r398.2.1.2.2.2.2.2.1 r398.2.1.2.2.2.2.2.2.1 r398.2.1.2.2.2.2.2.2.2 r398.2.2.2.1.2.2.1 r398.2.2.2.1.2.2.2.1 r398.2.2.2.1.2.2.2.2.1 r398.2.2.2.1.2.2.2.2.2.1 r398.2.2.2.1.2.2.2.2.2.2.1 r398.2.2.2.1.2.2.2.2.2.2.2 r398.2.1.1 r398.2.2.1.1 r398.2.2.1.2.1 r398.2.1.2.1 r398.2.2.2.1.1 r398.2.2.2.2.1 r398.2.2.2.2.2.1 r398.2.2.2.1.2.1 r398.2.2.1.2.2 r398.2.2.2.2.2.2))) (
              O.twice (
               O.bind (F_fdb_Table_Rows.S k (v154, v155, v161)) fun r399 =>
               O.bind (F_aqueductref18_Same.S k r399.1 v162) fun r400 =>
               O.cond (!r400) (
                .ok false) (
                O.bind (F_aqueductlaw20_waits.S k (v153, v156, (v141, v142, v143, v144, v145, v146)) r399.2 (v157, v160, (v147, v148, v149, v150, v151, v152)) (v158, v159, v162)) fun r401 =>
                O.cond (!r401.1) (
                 .ok false) (
                 R_l3 (IntKind.i64.wrap (v140 + (1 : Int))) r401.2.1.2.2.1 r401.2.1.2.2.2.1 r401.2.1.2.2.2.2.1 r401.2.1.2.2.2.2.2.1 r401.2.1.2.2.2.2.2.2.1 r401.2.1.2.2.2.2.2.2.2 r401.2.2.2.1.2.2.1 r401.2.2.2.1.2.2.2.1 r401.2.2.2.1.2.2.2.2.1 r401.2.2.2.1.2.2.2.2.2.1 r401.2.2.2.1.2.2.2.2.2.2.1 r401.2.2.2.1.2.2.2.2.2.2.2 r401.2.1.1 r401.2.2.1.1 r401.2.2.1.2.1 r401.2.1.2.1 r401.2.2.2.1.1 r401.2.2.2.2.1 r401.2.2.2.2.2.1 r401.2.2.2.1.2.1 r401.2.2.1.2.2 r401.2.2.2.2.2.2)))))))))))))) (
    O.bind (F_aqueductlaw20_fixed.S k) fun r414 =>
    .ok r414)) (
   O.bind (F_aqueductlaw20_fixed.S k) fun r415 =>
   .ok r415)
noncomputable def l3 (k : Nat) (a0 : TY8 × Int × Int × Int × TY17) : Nat → Int → Int → Int → Int → Int → Int → Int → Int → Int → Int → Int → Int → Int → TY8 → Int → Int → TY5 → TY8 → Int → Int → TY5 → TY0 → TY12 → O Bool
 | 0, _, _, _, _, _, _, _, _, _, _, _, _, _, _, _, _, _, _, _, _, _, _, _ => .no
 | j + 1, v140, v141, v142, v143, v144, v145, v146, v147, v148, v149, v150, v151, v152, v153, v154, v155, v156, v157, v158, v159, v160, v161, v162 => l3_b k a0 (l3 k a0 j) ((fun (v140 : Int) (r288 : (List Int × Int) × TY2 × TY3) (r290 : (List Int × Int) × TY2 × TY11) (v293 : Int) (v294 : List Int) => l4 k a0 v140 r288 r290 (l3 k a0 j) k v293 v294)) v140 v141 v142 v143 v144 v145 v146 v147 v148 v149 v150 v151 v152 v153 v154 v155 v156 v157 v158 v159 v160 v161 v162
theorem l3_eq (k : Nat) (a0 : TY8 × Int × Int × Int × TY17) : ∀ (j : Nat) (v140 : Int) (v141 : Int) (v142 : Int) (v143 : Int) (v144 : Int) (v145 : Int) (v146 : Int) (v147 : Int) (v148 : Int) (v149 : Int) (v150 : Int) (v151 : Int) (v152 : Int) (v153 : List (Int × List Int)) (v154 : Int) (v155 : Int) (v156 : List TY7) (v157 : List (Int × List Int)) (v158 : Int) (v159 : Int) (v160 : List TY7) (v161 : List TY1) (v162 : List TY13), zl3 (la k [] [.r, .r, .r, .l, .r, .b] j) a0 v140 v141 v142 v143 v144 v145 v146 v147 v148 v149 v150 v151 v152 v153 v154 v155 v156 v157 v158 v159 v160 v161 v162 = l3 k a0 j v140 v141 v142 v143 v144 v145 v146 v147 v148 v149 v150 v151 v152 v153 v154 v155 v156 v157 v158 v159 v160 v161 v162 := by
 intro j
 induction j with
 | zero => intro v140 v141 v142 v143 v144 v145 v146 v147 v148 v149 v150 v151 v152 v153 v154 v155 v156 v157 v158 v159 v160 v161 v162; rfl
 | succ j ih =>
  intro v140 v141 v142 v143 v144 v145 v146 v147 v148 v149 v150 v151 v152 v153 v154 v155 v156 v157 v158 v159 v160 v161 v162
  have rs : (fun (v140' : Int) (v141' : Int) (v142' : Int) (v143' : Int) (v144' : Int) (v145' : Int) (v146' : Int) (v147' : Int) (v148' : Int) (v149' : Int) (v150' : Int) (v151' : Int) (v152' : Int) (v153' : List (Int × List Int)) (v154' : Int) (v155' : Int) (v156' : List TY7) (v157' : List (Int × List Int)) (v158' : Int) (v159' : Int) (v160' : List TY7) (v161' : List TY1) (v162' : List TY13) => zl3 (la k [] [.r, .r, .r, .l, .r, .b] j) a0 v140' v141' v142' v143' v144' v145' v146' v147' v148' v149' v150' v151' v152' v153' v154' v155' v156' v157' v158' v159' v160' v161' v162') = l3 k a0 j := by funext v140' v141' v142' v143' v144' v145' v146' v147' v148' v149' v150' v151' v152' v153' v154' v155' v156' v157' v158' v159' v160' v161' v162'; exact ih v140' v141' v142' v143' v144' v145' v146' v147' v148' v149' v150' v151' v152' v153' v154' v155' v156' v157' v158' v159' v160' v161' v162'
  have e0 : (fun (v140 : Int) (r288 : (List Int × Int) × TY2 × TY3) (r290 : (List Int × Int) × TY2 × TY11) (v293 : Int) (v294 : List Int) => zl4 (la k [(la k [] [.r, .r, .r, .l, .r, .b] j)] [.r, .r, .r, .l, .r, .b, .p, .r, .l, .b, .r, .r, .l, .r, .b, .r, .t, .r, .r, .r, .r, .b] k) a0 v140 r288 r290 v293 v294) = (fun (v140 : Int) (r288 : (List Int × Int) × TY2 × TY3) (r290 : (List Int × Int) × TY2 × TY11) (v293 : Int) (v294 : List Int) => l4 k a0 v140 r288 r290 (l3 k a0 j) k v293 v294) := by funext v140 r288 r290 v293 v294; exact l4_eq k a0 v140 r288 r290 (la k [] [.r, .r, .r, .l, .r, .b] j) (l3 k a0 j) (fun v140 v141 v142 v143 v144 v145 v146 v147 v148 v149 v150 v151 v152 v153 v154 v155 v156 v157 v158 v159 v160 v161 v162 => ih v140 v141 v142 v143 v144 v145 v146 v147 v148 v149 v150 v151 v152 v153 v154 v155 v156 v157 v158 v159 v160 v161 v162) k v293 v294
  have h : zl3 (la k [] [.r, .r, .r, .l, .r, .b] (j + 1)) a0 v140 v141 v142 v143 v144 v145 v146 v147 v148 v149 v150 v151 v152 v153 v154 v155 v156 v157 v158 v159 v160 v161 v162 = l3_b k a0 ((fun (v140' : Int) (v141' : Int) (v142' : Int) (v143' : Int) (v144' : Int) (v145' : Int) (v146' : Int) (v147' : Int) (v148' : Int) (v149' : Int) (v150' : Int) (v151' : Int) (v152' : Int) (v153' : List (Int × List Int)) (v154' : Int) (v155' : Int) (v156' : List TY7) (v157' : List (Int × List Int)) (v158' : Int) (v159' : Int) (v160' : List TY7) (v161' : List TY1) (v162' : List TY13) => zl3 (la k [] [.r, .r, .r, .l, .r, .b] j) a0 v140' v141' v142' v143' v144' v145' v146' v147' v148' v149' v150' v151' v152' v153' v154' v155' v156' v157' v158' v159' v160' v161' v162')) ((fun (v140 : Int) (r288 : (List Int × Int) × TY2 × TY3) (r290 : (List Int × Int) × TY2 × TY11) (v293 : Int) (v294 : List Int) => zl4 (la k [(la k [] [.r, .r, .r, .l, .r, .b] j)] [.r, .r, .r, .l, .r, .b, .p, .r, .l, .b, .r, .r, .l, .r, .b, .r, .t, .r, .r, .r, .r, .b] k) a0 v140 r288 r290 v293 v294)) v140 v141 v142 v143 v144 v145 v146 v147 v148 v149 v150 v151 v152 v153 v154 v155 v156 v157 v158 v159 v160 v161 v162 := by kernel_rfl
  exact h.trans (by rw [rs, e0]; rfl)
noncomputable def top (k : Nat) (a0 : TY8 × Int × Int × Int × TY17) (D_l0 : O Bool) (D_l1 : TY16 → O Bool) (D_l2 : TY15 → O Bool) (D_l3 : Int → Int → Int → Int → Int → Int → Int → Int → Int → Int → Int → Int → Int → TY8 → Int → Int → TY5 → TY8 → Int → Int → TY5 → TY0 → TY12 → O Bool) : O Bool :=
  O.sum (F_aqueductlaw20_laid.S k a0) (fun r7 =>
   O.cond (!r7) (
    .ok false) (
    D_l0)) fun z11 =>
  O.sum (.ok z11) (fun r8 =>
   O.cond (!r8.1) (
    .ok false) (
    D_l1 r8)) fun z13 =>
  O.sum (.ok z13) (fun r9 =>
   O.cond (!r9.1) (
    .ok false) (
    D_l2 r9)) fun r10 =>
  O.cond (!r10.1) (
   .ok false) (
   D_l3 (0 : Int) r10.2.1.2.2.1 r10.2.1.2.2.2.1 r10.2.1.2.2.2.2.1 r10.2.1.2.2.2.2.2.1 r10.2.1.2.2.2.2.2.2.1 r10.2.1.2.2.2.2.2.2.2 r10.2.2.2.1.2.2.1 r10.2.2.2.1.2.2.2.1 r10.2.2.2.1.2.2.2.2.1 r10.2.2.2.1.2.2.2.2.2.1 r10.2.2.2.1.2.2.2.2.2.2.1 r10.2.2.2.1.2.2.2.2.2.2.2 r10.2.1.1 r10.2.2.1.1 r10.2.2.1.2.1 r10.2.1.2.1 r10.2.2.2.1.1 r10.2.2.2.2.1 r10.2.2.2.2.2.1 r10.2.2.2.1.2.1 r10.2.2.1.2.2 r10.2.2.2.2.2.2)
noncomputable def S (k : Nat) (a0 : TY8 × Int × Int × Int × TY17) : O Bool := top k a0 (l0 k a0 k) ((fun (r8 : Bool × TY2 × TY11) => l1 k a0 r8 k)) ((fun (r9 : Bool × TY2 × TY3) => l2 k a0 r9 k)) ((fun (v140 : Int) (v141 : Int) (v142 : Int) (v143 : Int) (v144 : Int) (v145 : Int) (v146 : Int) (v147 : Int) (v148 : Int) (v149 : Int) (v150 : Int) (v151 : Int) (v152 : Int) (v153 : List (Int × List Int)) (v154 : Int) (v155 : Int) (v156 : List TY7) (v157 : List (Int × List Int)) (v158 : Int) (v159 : Int) (v160 : List TY7) (v161 : List TY1) (v162 : List TY13) => l3 k a0 k v140 v141 v142 v143 v144 v145 v146 v147 v148 v149 v150 v151 v152 v153 v154 v155 v156 v157 v158 v159 v160 v161 v162))
theorem eq (k : Nat) (a0 : TY8 × Int × Int × Int × TY17) : evFn (T := Bool) tab (calOf (cal k)) Go.Proofs.Tryz.f3 nt k 0 [.agg [.osl 1, .int .i64 a0.2.1, .int .i64 a0.2.2.1, .int .i64 a0.2.2.2.1, .osl 2]] [] ⟨3, false, [(2, .row false 31 [.int .i64, .int .i64, .str] a0.2.2.2.2), (1, .tab false 58 [] 0 (.cons (.leaf (.int .i64)) (.one (.row false 3 [.int .i64]) [])) a0.1), (0, .ghost)]⟩ (fun v st => outK ct.ob (γ0 ct) ct.outs v st .ok) (fun e st => outP ct.ob (γ0 ct) ct.outs e st .ok) = S k a0 := by
 have e0 : zl0 (la k [] [.r, .r, .r, .l, .r, .b] k) a0 = l0 k a0 k := by exact l0_eq k a0 k
 have e1 : (fun (r8 : Bool × TY2 × TY11) => zl1 (la k [] [.r, .r, .r, .l, .r, .b] k) a0 r8) = (fun (r8 : Bool × TY2 × TY11) => l1 k a0 r8 k) := by funext r8; exact l1_eq k a0 r8 k
 have e2 : (fun (r9 : Bool × TY2 × TY3) => zl2 (la k [] [.r, .r, .r, .l, .r, .b] k) a0 r9) = (fun (r9 : Bool × TY2 × TY3) => l2 k a0 r9 k) := by funext r9; exact l2_eq k a0 r9 k
 have e3 : (fun (v140 : Int) (v141 : Int) (v142 : Int) (v143 : Int) (v144 : Int) (v145 : Int) (v146 : Int) (v147 : Int) (v148 : Int) (v149 : Int) (v150 : Int) (v151 : Int) (v152 : Int) (v153 : List (Int × List Int)) (v154 : Int) (v155 : Int) (v156 : List TY7) (v157 : List (Int × List Int)) (v158 : Int) (v159 : Int) (v160 : List TY7) (v161 : List TY1) (v162 : List TY13) => zl3 (la k [] [.r, .r, .r, .l, .r, .b] k) a0 v140 v141 v142 v143 v144 v145 v146 v147 v148 v149 v150 v151 v152 v153 v154 v155 v156 v157 v158 v159 v160 v161 v162) = (fun (v140 : Int) (v141 : Int) (v142 : Int) (v143 : Int) (v144 : Int) (v145 : Int) (v146 : Int) (v147 : Int) (v148 : Int) (v149 : Int) (v150 : Int) (v151 : Int) (v152 : Int) (v153 : List (Int × List Int)) (v154 : Int) (v155 : Int) (v156 : List TY7) (v157 : List (Int × List Int)) (v158 : Int) (v159 : Int) (v160 : List TY7) (v161 : List TY1) (v162 : List TY13) => l3 k a0 k v140 v141 v142 v143 v144 v145 v146 v147 v148 v149 v150 v151 v152 v153 v154 v155 v156 v157 v158 v159 v160 v161 v162) := by funext v140 v141 v142 v143 v144 v145 v146 v147 v148 v149 v150 v151 v152 v153 v154 v155 v156 v157 v158 v159 v160 v161 v162; exact l3_eq k a0 k v140 v141 v142 v143 v144 v145 v146 v147 v148 v149 v150 v151 v152 v153 v154 v155 v156 v157 v158 v159 v160 v161 v162
 have h : evFn (T := Bool) tab (calOf (cal k)) Go.Proofs.Tryz.f3 nt k 0 [.agg [.osl 1, .int .i64 a0.2.1, .int .i64 a0.2.2.1, .int .i64 a0.2.2.2.1, .osl 2]] [] ⟨3, false, [(2, .row false 31 [.int .i64, .int .i64, .str] a0.2.2.2.2), (1, .tab false 58 [] 0 (.cons (.leaf (.int .i64)) (.one (.row false 3 [.int .i64]) [])) a0.1), (0, .ghost)]⟩ (fun v st => outK ct.ob (γ0 ct) ct.outs v st .ok) (fun e st => outP ct.ob (γ0 ct) ct.outs e st .ok) = top k a0 (zl0 (la k [] [.r, .r, .r, .l, .r, .b] k) a0) ((fun (r8 : Bool × TY2 × TY11) => zl1 (la k [] [.r, .r, .r, .l, .r, .b] k) a0 r8)) ((fun (r9 : Bool × TY2 × TY3) => zl2 (la k [] [.r, .r, .r, .l, .r, .b] k) a0 r9)) ((fun (v140 : Int) (v141 : Int) (v142 : Int) (v143 : Int) (v144 : Int) (v145 : Int) (v146 : Int) (v147 : Int) (v148 : Int) (v149 : Int) (v150 : Int) (v151 : Int) (v152 : Int) (v153 : List (Int × List Int)) (v154 : Int) (v155 : Int) (v156 : List TY7) (v157 : List (Int × List Int)) (v158 : Int) (v159 : Int) (v160 : List TY7) (v161 : List TY1) (v162 : List TY13) => zl3 (la k [] [.r, .r, .r, .l, .r, .b] k) a0 v140 v141 v142 v143 v144 v145 v146 v147 v148 v149 v150 v151 v152 v153 v154 v155 v156 v157 v158 v159 v160 v161 v162)) := by kernel_rfl
 exact h.trans (by rw [e0, e1, e2, e3]; rfl)
theorem ok (k : Nat) : FnOkC Tryz.prog 3 ct (fun (x : TY8 × Int × Int × Int × TY17) (_ : Unit) => S k x) :=
 FnOkC.of_ev (C := ct) tab_ok rfl (calOf_ok (cal_ok k)) mixed Tryz.func3 nt k (fun _ _ => rfl) (fun (x : TY8 × Int × Int × Int × TY17) (_ : Unit) => eq k x)
theorem hd {T : Type} (k : Nat) : HdOk Tryz.prog 3 (pureC (T := T) ct [] (fun (x : TY8 × Int × Int × Int × TY17) (_ : Unit) => S k x)) :=
 pureC_ok rfl [] (ok k) Tryz.call3
end F_aqueductlaw20_BridgeDoes
end Go.Proofs.YtkihcmcaignmkaaGreat
end
