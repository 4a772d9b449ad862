/- Texts of this proof, joined (1 of them): DS1.
   Conditions: none but those that stand at each theorem. -/
import Derived.Test.YtkihcmcaignmkaaGreatDM2
section
namespace Go.Proofs.YtkihcmcaignmkaaGreat
open Go.Aq
set_option linter.unusedVariables false
set_option maxRecDepth 100000
namespace F_slices_Index_int_int
noncomputable def ct : Ct := ⟨.some (.cons (.row false 3 [.int .i64]) (.one (.leaf (.int .i64)) [])), [], [⟨.val (.leaf (.int .i64)), [], []⟩]⟩
noncomputable def nt : Notes := ⟨[(2, ⟨[0, 1, 7, 8], []⟩)], [], [], [], []⟩
noncomputable def cal0 {T : Type} (k : Nat) : List (FuncId × Hd T) := []
theorem cal0_ok {T : Type} (k : Nat) : HdsOk Tryz.prog (cal0 (T := T) k) := trivial
noncomputable def cal {T : Type} (k : Nat) : List (FuncId × Hd T) := cal0 k
theorem cal_ok {T : Type} (k : Nat) : HdsOk Tryz.prog (cal (T := T) k) := cal0_ok k
noncomputable abbrev la (k : Nat) (Rs : List (Fr → St → O (Int))) (ds : List Dir) (j : Nat) : Fr → St → O (Int) := loopAt tab (calOf (cal k)) Go.Proofs.Tryz.f76.ntmps nt k Rs ds (bodyOf Go.Proofs.Tryz.f76) (finK tab Go.Proofs.Tryz.f76.results.toList (fun v st => outK ct.ob (γ0 ct) ct.outs v st .ok) (fun e st => outP ct.ob (γ0 ct) ct.outs e st .ok)) j
noncomputable abbrev zl0 {α : Type} (X : Fr → St → α) (a0 : List Int) (a1 : Int) (v1 : Int) : α := X ⟨[(0, .osl 0), (1, .int .i64 a1), (7, .int .i64 (List.length a0 : Int)), (8, .int .i64 v1)], [], 0, []⟩ ⟨1, true, [(0, .row false 3 [.int .i64] a0)]⟩
noncomputable def l0_b (k : Nat) (a0 : List Int) (a1 : Int) (R_l0 : Int → O Int) (v1 : Int) : O Int :=
  O.cond (decide (v1 < (List.length a0 : Int))) (
   O.chk (decide (0 ≤ v1 ∧ v1 < (List.length a0 : Int) ∧ (List.length a0 : Int) ≤ (List.length a0 : Int))) (
    O.chk (decide (0 ≤ v1 ∧ v1 < (List.length a0 : Int))) (
     O.cond (decide (a1 = (gt (0 : Int) a0 v1))) (
      .ok v1) (
      R_l0 (IntKind.i64.wrap (v1 + (1 : Int))))))) (
   .ok (-1 : Int))
noncomputable def l0 (k : Nat) (a0 : List Int) (a1 : Int) : Nat → Int → O Int
 | 0, _ => .no
 | j + 1, v1 => l0_b k a0 a1 (l0 k a0 a1 j) v1
theorem l0_eq (k : Nat) (a0 : List Int) (a1 : Int) : ∀ (j : Nat) (v1 : Int), zl0 (la k [] [.r, .l, .r, .b] j) a0 a1 v1 = l0 k a0 a1 j v1 := by
 intro j
 induction j with
 | zero => intro v1; rfl
 | succ j ih =>
  intro v1
  have rs : (fun (v1' : Int) => zl0 (la k [] [.r, .l, .r, .b] j) a0 a1 v1') = l0 k a0 a1 j := by funext v1'; exact ih v1'
  have h : zl0 (la k [] [.r, .l, .r, .b] (j + 1)) a0 a1 v1 = l0_b k a0 a1 ((fun (v1' : Int) => zl0 (la k [] [.r, .l, .r, .b] j) a0 a1 v1')) v1 := by kernel_rfl
  exact h.trans (by rw [rs]; rfl)
noncomputable def top (k : Nat) (a0 : List Int) (a1 : Int) (D_l0 : Int → O Int) : O Int :=
 D_l0 (0 : Int)
noncomputable def S (k : Nat) (a0 : List Int) (a1 : Int) : O Int := top k a0 a1 ((fun (v1 : Int) => l0 k a0 a1 k v1))
theorem eq (k : Nat) (a0 : List Int) (a1 : Int) : evFn (T := Int) tab (calOf (cal k)) Go.Proofs.Tryz.f76 nt k 0 [.osl 0, .int .i64 a1] [] ⟨1, false, [(0, .row false 3 [.int .i64] a0)]⟩ (fun v st => outK ct.ob (γ0 ct) ct.outs v st .ok) (fun e st => outP ct.ob (γ0 ct) ct.outs e st .ok) = S k a0 a1 := by
 have e0 : (fun (v1 : Int) => zl0 (la k [] [.r, .l, .r, .b] k) a0 a1 v1) = (fun (v1 : Int) => l0 k a0 a1 k v1) := by funext v1; exact l0_eq k a0 a1 k v1
 have h : evFn (T := Int) tab (calOf (cal k)) Go.Proofs.Tryz.f76 nt k 0 [.osl 0, .int .i64 a1] [] ⟨1, false, [(0, .row false 3 [.int .i64] a0)]⟩ (fun v st => outK ct.ob (γ0 ct) ct.outs v st .ok) (fun e st => outP ct.ob (γ0 ct) ct.outs e st .ok) = top k a0 a1 ((fun (v1 : Int) => zl0 (la k [] [.r, .l, .r, .b] k) a0 a1 v1)) := by kernel_rfl
 exact h.trans (by rw [e0]; rfl)
theorem ok (k : Nat) : FnOkC Tryz.prog 76 ct (fun (x : List Int × Int) (_ : Unit) => S k x.1 x.2) :=
 FnOkC.of_ev (C := ct) tab_ok rfl (calOf_ok (cal_ok k)) mixed Tryz.func76 nt k (fun _ _ => rfl) (fun (x : List Int × Int) (_ : Unit) => eq k x.1 x.2)
theorem hd {T : Type} (k : Nat) : HdOk Tryz.prog 76 (pureC (T := T) ct [] (fun (x : List Int × Int) (_ : Unit) => S k x.1 x.2)) :=
 pureC_ok rfl [] (ok k) Tryz.call76
end F_slices_Index_int_int
namespace F_slices_Contains_int_int
noncomputable def ct : Ct := ⟨.some (.cons (.row false 3 [.int .i64]) (.one (.leaf (.int .i64)) [])), [], [⟨.val (.leaf .bool), [], []⟩]⟩
noncomputable def nt : Notes := ⟨[], [], [], [], []⟩
noncomputable def cal0 {T : Type} (k : Nat) : List (FuncId × Hd T) := [(76, pureC F_slices_Index_int_int.ct [] (fun (x : List Int × Int) (_ : Unit) => F_slices_Index_int_int.S k x.1 x.2))]
theorem cal0_ok {T : Type} (k : Nat) : HdsOk Tryz.prog (cal0 (T := T) k) := ⟨F_slices_Index_int_int.hd k, trivial⟩
noncomputable def cal {T : Type} (k : Nat) : List (FuncId × Hd T) := cal0 k
theorem cal_ok {T : Type} (k : Nat) : HdsOk Tryz.prog (cal (T := T) k) := cal0_ok k
noncomputable def S (k : Nat) (a0 : List Int) (a1 : Int) : O Bool :=
 O.bind (F_slices_Index_int_int.S k a0 a1) fun r1 =>
 .ok (decide (r1 ≥ (0 : Int)))
theorem eq (k : Nat) (a0 : List Int) (a1 : Int) : evFn (T := Bool) tab (calOf (cal k)) Go.Proofs.Tryz.f55 nt k 0 [.osl 0, .int .i64 a1] [] ⟨1, false, [(0, .row false 3 [.int .i64] a0)]⟩ (fun v st => outK ct.ob (γ0 ct) ct.outs v st .ok) (fun e st => outP ct.ob (γ0 ct) ct.outs e st .ok) = S k a0 a1 := by kernel_rfl
theorem ok (k : Nat) : FnOkC Tryz.prog 55 ct (fun (x : List Int × Int) (_ : Unit) => S k x.1 x.2) :=
 FnOkC.of_ev (C := ct) tab_ok rfl (calOf_ok (cal_ok k)) mixed Tryz.func55 nt k (fun _ _ => rfl) (fun (x : List Int × Int) (_ : Unit) => eq k x.1 x.2)
theorem hd {T : Type} (k : Nat) : HdOk Tryz.prog 55 (pureC (T := T) ct [] (fun (x : List Int × Int) (_ : Unit) => S k x.1 x.2)) :=
 pureC_ok rfl [] (ok k) Tryz.call55
end F_slices_Contains_int_int
namespace F_bridge_Bridge_has
noncomputable def ct : Ct := ⟨.some (.pin (.ref 0) (.cons (.leaf (.int .i64)) (.one (.leaf (.int .i64)) []))), [(66, .cons (.tab false 58 (.cons (.leaf (.int .i64)) (.one (.row false 3 [.int .i64]) []))) (.pin (.ref 1) (.cons (.tab true 78 (.one (.box 129 (.cons (.row true 9 [.str]) (.cons (.leaf (.int .i64)) (.one (.leaf (.int .i64)) [])))) [])) (.one (.agg (.cons (.leaf (.int .i64)) (.cons (.leaf (.int .i64)) (.cons (.leaf (.int .i64)) (.cons (.leaf (.int .i64)) (.cons (.leaf (.int .i64)) (.one (.leaf (.int .i64)) []))))))) [])))), (124, .cons (.leaf (.int .i64)) (.cons (.leaf (.int .i64)) (.one (.map 122 true true [.int .i64, .str] [.int .i64, .str, .int .i64, .int .i64]) [])))], [⟨.val (.leaf .bool), [], []⟩]⟩
noncomputable def nt : Notes := ⟨[], [], [], [], []⟩
noncomputable def cal0 {T : Type} (k : Nat) : List (FuncId × Hd T) := [(55, pureC F_slices_Contains_int_int.ct [] (fun (x : List Int × Int) (_ : Unit) => F_slices_Contains_int_int.S k x.1 x.2))]
theorem cal0_ok {T : Type} (k : Nat) : HdsOk Tryz.prog (cal0 (T := T) k) := ⟨F_slices_Contains_int_int.hd k, trivial⟩
noncomputable def cal {T : Type} (k : Nat) : List (FuncId × Hd T) := cal0 k
theorem cal_ok {T : Type} (k : Nat) : HdsOk Tryz.prog (cal (T := T) k) := cal0_ok k
noncomputable def S (k : Nat) (a1 : Int) (a2 : Int) (g0 : (List (Int × List Int)) × (List (List ByteArray × Int × Int)) × (Int × Int × Int × Int × Int × Int)) (g1 : Int × Int × TY0) : O (Bool × TY2 × TY3) :=
  O.chk (decide (0 ≤ a1 ∧ a1 < (List.length g0.1 : Int))) (
   O.chk (decide (0 ≤ a1 ∧ a1 < (List.length g0.1 : Int))) (
    O.cond (decide ((gt ((0 : Int), []) g0.1 a1).1 = a2)) (
     .ok (true, (g0, g1))) (
     O.bind (F_slices_Contains_int_int.S k ((gt ((0 : Int), []) g0.1 a1).2) a2) fun r1 =>
     .ok (r1, (g0, g1)))))
theorem eq (k : Nat) (a1 : Int) (a2 : Int) (g0 : (List (Int × List Int)) × (List (List ByteArray × Int × Int)) × (Int × Int × Int × Int × Int × Int)) (g1 : Int × Int × TY0) : evFn (T := Bool × TY2 × TY3) tab (calOf (cal k)) Go.Proofs.Tryz.f24 nt k 2 [.ptr 0 0, .int .i64 a1, .int .i64 a2] [] ⟨7, false, [(1, .cells 124 [.int .i64 g1.1, .int .i64 g1.2.1, .mp 6]), (6, .map 122 true true [.int .i64, .str] [.int .i64, .str, .int .i64, .int .i64] g1.2.2), (0, .cells 66 [.osl 3, .ptr 1 0, .osl 5, .int .i64 g0.2.2.1, .int .i64 g0.2.2.2.1, .int .i64 g0.2.2.2.2.1, .int .i64 g0.2.2.2.2.2.1, .int .i64 g0.2.2.2.2.2.2.1, .int .i64 g0.2.2.2.2.2.2.2]), (5, .tab true 78 [] 4 (.one (.box 129 (.cons (.row true 9 [.str]) (.cons (.leaf (.int .i64)) (.one (.leaf (.int .i64)) [])))) []) g0.2.1), (4, .ghost), (3, .tab false 58 [] 2 (.cons (.leaf (.int .i64)) (.one (.row false 3 [.int .i64]) [])) g0.1), (2, .ghost)]⟩ (fun v st => outK ct.ob (γ0 ct) ct.outs v st .ok) (fun e st => outP ct.ob (γ0 ct) ct.outs e st .ok) = S k a1 a2 g0 g1 := by kernel_rfl
theorem ok (k : Nat) : FnOkC Tryz.prog 24 ct (fun (x : Int × Int) (g : TY2 × TY3) => S k x.1 x.2 g.1 g.2) :=
 FnOkC.of_ev (C := ct) tab_ok rfl (calOf_ok (cal_ok k)) mixed Tryz.func24 nt k (fun _ _ => rfl) (fun (x : Int × Int) (g : TY2 × TY3) => eq k x.1 x.2 g.1 g.2)
theorem hd {T : Type} (k : Nat) : HdOk Tryz.prog 24 (pureC (T := T) ct [.arg 0 0, .fld 0 1] (fun (x : Int × Int) (g : TY2 × TY3) => S k x.1 x.2 g.1 g.2)) :=
 pureC_ok rfl [.arg 0 0, .fld 0 1] (ok k) Tryz.call24
end F_bridge_Bridge_has
namespace F_words_Turn
noncomputable def ct : Ct := ⟨.some (.one (.leaf .str) []), [], [⟨.val (.leaf .str), [], []⟩]⟩
noncomputable def nt : Notes := ⟨[(3, ⟨[0, 3, 9, 10], []⟩)], [], [], [], []⟩
noncomputable def cal0 {T : Type} (k : Nat) : List (FuncId × Hd T) := []
theorem cal0_ok {T : Type} (k : Nat) : HdsOk Tryz.prog (cal0 (T := T) k) := trivial
noncomputable def cal {T : Type} (k : Nat) : List (FuncId × Hd T) := cal0 k
theorem cal_ok {T : Type} (k : Nat) : HdsOk Tryz.prog (cal (T := T) k) := cal0_ok k
noncomputable abbrev la (k : Nat) (Rs : List (Fr → St → O (ByteArray))) (ds : List Dir) (j : Nat) : Fr → St → O (ByteArray) := loopAt tab (calOf (cal k)) Go.Proofs.Tryz.f87.ntmps nt k Rs ds (bodyOf Go.Proofs.Tryz.f87) (finK tab Go.Proofs.Tryz.f87.results.toList (fun v st => outK ct.ob (γ0 ct) ct.outs v st .ok) (fun e st => outP ct.ob (γ0 ct) ct.outs e st .ok)) j
noncomputable abbrev zl0 {α : Type} (X : Fr → St → α) (a0 : ByteArray) (v1 : Int) (v2 : List Int) : α := X ⟨[(0, .str a0), (3, .osl 0), (9, .int .i64 (ByteArray.size a0 : Int)), (10, .int .i64 v1)], [], 0, []⟩ ⟨1, true, [(0, .row true 5 [.int .u8] v2)]⟩
noncomputable def l0_b (k : Nat) (a0 : ByteArray) (R_l0 : Int → (List Int) → O ByteArray) (v1 : Int) (v2 : List Int) : O ByteArray :=
  O.cond (decide (v1 < (ByteArray.size a0 : Int))) (
   O.chk (decide (0 ≤ v1 ∧ v1 < (ByteArray.size a0 : Int))) (
    O.chk (decide (0 ≤ (IntKind.i64.wrap ((IntKind.i64.wrap ((ByteArray.size a0 : Int) - (1 : Int))) - v1)) ∧ (IntKind.i64.wrap ((IntKind.i64.wrap ((ByteArray.size a0 : Int) - (1 : Int))) - v1)) < (List.length v2 : Int) ∧ (List.length v2 : Int) ≤ (List.length v2 : Int))) (
     O.chk (decide (0 ≤ (IntKind.i64.wrap ((IntKind.i64.wrap ((ByteArray.size a0 : Int) - (1 : Int))) - v1)) ∧ (IntKind.i64.wrap ((IntKind.i64.wrap ((ByteArray.size a0 : Int) - (1 : Int))) - v1)) < (List.length v2 : Int))) (
      R_l0 (IntKind.i64.wrap (v1 + (1 : Int))) (su v2 (IntKind.i64.wrap ((IntKind.i64.wrap ((ByteArray.size a0 : Int) - (1 : Int))) - v1)) (bt a0 v1)))))) (
   .ok (Go.Aq.strOf v2))
noncomputable def l0 (k : Nat) (a0 : ByteArray) : Nat → Int → (List Int) → O ByteArray
 | 0, _, _ => .no
 | j + 1, v1, v2 => l0_b k a0 (l0 k a0 j) v1 v2
theorem l0_eq (k : Nat) (a0 : ByteArray) : ∀ (j : Nat) (v1 : Int) (v2 : List Int), zl0 (la k [] [.r, .r, .l, .r, .b] j) a0 v1 v2 = l0 k a0 j v1 v2 := by
 intro j
 induction j with
 | zero => intro v1 v2; rfl
 | succ j ih =>
  intro v1 v2
  have rs : (fun (v1' : Int) (v2' : List Int) => zl0 (la k [] [.r, .r, .l, .r, .b] j) a0 v1' v2') = l0 k a0 j := by funext v1' v2'; exact ih v1' v2'
  have h : zl0 (la k [] [.r, .r, .l, .r, .b] (j + 1)) a0 v1 v2 = l0_b k a0 ((fun (v1' : Int) (v2' : List Int) => zl0 (la k [] [.r, .r, .l, .r, .b] j) a0 v1' v2')) v1 v2 := by kernel_rfl
  exact h.trans (by rw [rs]; rfl)
noncomputable def top (k : Nat) (a0 : ByteArray) (D_l0 : Int → (List Int) → O ByteArray) : O ByteArray :=
  O.chk (decide (0 ≤ (ByteArray.size a0 : Int) ∧ (ByteArray.size a0 : Int) = (ByteArray.size a0 : Int) ∧ (ByteArray.size a0 : Int) ≤ 1073741824)) (
   D_l0 (0 : Int) (List.replicate (ByteArray.size a0 : Int).toNat (0 : Int)))
noncomputable def S (k : Nat) (a0 : ByteArray) : O ByteArray := top k a0 ((fun (v1 : Int) (v2 : List Int) => l0 k a0 k v1 v2))
theorem eq (k : Nat) (a0 : ByteArray) : evFn (T := ByteArray) tab (calOf (cal k)) Go.Proofs.Tryz.f87 nt k 0 [.str a0] [] ⟨0, false, []⟩ (fun v st => outK ct.ob (γ0 ct) ct.outs v st .ok) (fun e st => outP ct.ob (γ0 ct) ct.outs e st .ok) = S k a0 := by
 have e0 : (fun (v1 : Int) (v2 : List Int) => zl0 (la k [] [.r, .r, .l, .r, .b] k) a0 v1 v2) = (fun (v1 : Int) (v2 : List Int) => l0 k a0 k v1 v2) := by funext v1 v2; exact l0_eq k a0 k v1 v2
 have h : evFn (T := ByteArray) tab (calOf (cal k)) Go.Proofs.Tryz.f87 nt k 0 [.str a0] [] ⟨0, false, []⟩ (fun v st => outK ct.ob (γ0 ct) ct.outs v st .ok) (fun e st => outP ct.ob (γ0 ct) ct.outs e st .ok) = top k a0 ((fun (v1 : Int) (v2 : List Int) => zl0 (la k [] [.r, .r, .l, .r, .b] k) a0 v1 v2)) := by kernel_rfl
 exact h.trans (by rw [e0]; rfl)
theorem ok (k : Nat) : FnOkC Tryz.prog 87 ct (fun (x : ByteArray) (_ : Unit) => S k x) :=
 FnOkC.of_ev (C := ct) tab_ok rfl (calOf_ok (cal_ok k)) mixed Tryz.func87 nt k (fun _ _ => rfl) (fun (x : ByteArray) (_ : Unit) => eq k x)
theorem hd {T : Type} (k : Nat) : HdOk Tryz.prog 87 (pureC (T := T) ct [] (fun (x : ByteArray) (_ : Unit) => S k x)) :=
 pureC_ok rfl [] (ok k) Tryz.call87
end F_words_Turn
namespace F_words_Get
noncomputable def ct : Ct := ⟨.some (.cons (.leaf .str) (.cons (.leaf (.int .i64)) (.cons (.leaf (.int .i64)) (.one (.leaf .bool) [])))), [], [⟨.tup (.cons (.leaf (.int .u64)) (.one (.leaf (.int .i64)) [])), [], []⟩]⟩
noncomputable def nt : Notes := ⟨[(10, ⟨[0, 10, 40, 41], []⟩), (10, ⟨[0, 10, 40, 41], []⟩)], [], [], [], []⟩
noncomputable def cal0 {T : Type} (k : Nat) : List (FuncId × Hd T) := [(87, pureC F_words_Turn.ct [] (fun (x : ByteArray) (_ : Unit) => F_words_Turn.S k x))]
theorem cal0_ok {T : Type} (k : Nat) : HdsOk Tryz.prog (cal0 (T := T) k) := ⟨F_words_Turn.hd k, trivial⟩
noncomputable def cal {T : Type} (k : Nat) : List (FuncId × Hd T) := cal0 k
theorem cal_ok {T : Type} (k : Nat) : HdsOk Tryz.prog (cal (T := T) k) := cal0_ok k
noncomputable abbrev la (k : Nat) (Rs : List (Fr → St → O (Int × Int))) (ds : List Dir) (j : Nat) : Fr → St → O (Int × Int) := loopAt tab (calOf (cal k)) Go.Proofs.Tryz.f74.ntmps nt k Rs ds (bodyOf Go.Proofs.Tryz.f74) (finK tab Go.Proofs.Tryz.f74.results.toList (fun v st => outK ct.ob (γ0 ct) ct.outs v st .ok) (fun e st => outP ct.ob (γ0 ct) ct.outs e st .ok)) j
noncomputable abbrev zl0 {α : Type} (X : Fr → St → α) (a2 : Int) (r1 : ByteArray) (v2 : Int) (v3 : Int) : α := X ⟨[(0, .str r1), (10, .int .u64 v2), (40, .int .i64 a2), (41, .int .i64 v3)], [], 0, []⟩ ⟨0, true, []⟩
noncomputable abbrev zl1 {α : Type} (X : Fr → St → α) (a0 : ByteArray) (a1 : Int) (a2 : Int) (v4 : Int) (v5 : Int) : α := X ⟨[(0, .str (ByteArray.extract a0 a1.toNat (IntKind.i64.wrap (a1 + a2)).toNat)), (10, .int .u64 v4), (40, .int .i64 a2), (41, .int .i64 v5)], [], 0, []⟩ ⟨0, true, []⟩
noncomputable def l0_b (k : Nat) (a2 : Int) (r1 : ByteArray) (R_l0 : Int → Int → O (Int × Int)) (v2 : Int) (v3 : Int) : O (Int × Int) :=
  O.cond (decide (v3 < a2)) (
   O.chk (decide (0 ≤ v3 ∧ v3 < (ByteArray.size r1 : Int))) (
    R_l0 (bOr .u64 (shL .u64 v2 (8 : Int)) (IntKind.u64.wrap (bt r1 v3))) (IntKind.i64.wrap (v3 + (1 : Int))))) (
   .ok (v2, (0 : Int)))
noncomputable def l0 (k : Nat) (a2 : Int) (r1 : ByteArray) : Nat → Int → Int → O (Int × Int)
 | 0, _, _ => .no
 | j + 1, v2, v3 => l0_b k a2 r1 (l0 k a2 r1 j) v2 v3
theorem l0_eq (k : Nat) (a2 : Int) (r1 : ByteArray) : ∀ (j : Nat) (v2 : Int) (v3 : Int), zl0 (la k [] [.r, .r, .r, .r, .r, .l, .r, .b] j) a2 r1 v2 v3 = l0 k a2 r1 j v2 v3 := by
 intro j
 induction j with
 | zero => intro v2 v3; rfl
 | succ j ih =>
  intro v2 v3
  have rs : (fun (v2' : Int) (v3' : Int) => zl0 (la k [] [.r, .r, .r, .r, .r, .l, .r, .b] j) a2 r1 v2' v3') = l0 k a2 r1 j := by funext v2' v3'; exact ih v2' v3'
  have h : zl0 (la k [] [.r, .r, .r, .r, .r, .l, .r, .b] (j + 1)) a2 r1 v2 v3 = l0_b k a2 r1 ((fun (v2' : Int) (v3' : Int) => zl0 (la k [] [.r, .r, .r, .r, .r, .l, .r, .b] j) a2 r1 v2' v3')) v2 v3 := by kernel_rfl
  exact h.trans (by rw [rs]; rfl)
noncomputable def l1_b (k : Nat) (a0 : ByteArray) (a1 : Int) (a2 : Int) (R_l1 : Int → Int → O (Int × Int)) (v4 : Int) (v5 : Int) : O (Int × Int) :=
  O.cond (decide (v5 < a2)) (
   O.chk (decide (0 ≤ v5 ∧ v5 < (ByteArray.size (ByteArray.extract a0 a1.toNat (IntKind.i64.wrap (a1 + a2)).toNat) : Int))) (
    R_l1 (bOr .u64 (shL .u64 v4 (8 : Int)) (IntKind.u64.wrap (bt (ByteArray.extract a0 a1.toNat (IntKind.i64.wrap (a1 + a2)).toNat) v5))) (IntKind.i64.wrap (v5 + (1 : Int))))) (
   .ok (v4, (0 : Int)))
noncomputable def l1 (k : Nat) (a0 : ByteArray) (a1 : Int) (a2 : Int) : Nat → Int → Int → O (Int × Int)
 | 0, _, _ => .no
 | j + 1, v4, v5 => l1_b k a0 a1 a2 (l1 k a0 a1 a2 j) v4 v5
theorem l1_eq (k : Nat) (a0 : ByteArray) (a1 : Int) (a2 : Int) : ∀ (j : Nat) (v4 : Int) (v5 : Int), zl1 (la k [] [.r, .r, .r, .r, .r, .l, .r, .b] j) a0 a1 a2 v4 v5 = l1 k a0 a1 a2 j v4 v5 := by
 intro j
 induction j with
 | zero => intro v4 v5; rfl
 | succ j ih =>
  intro v4 v5
  have rs : (fun (v4' : Int) (v5' : Int) => zl1 (la k [] [.r, .r, .r, .r, .r, .l, .r, .b] j) a0 a1 a2 v4' v5') = l1 k a0 a1 a2 j := by funext v4' v5'; exact ih v4' v5'
  have h : zl1 (la k [] [.r, .r, .r, .r, .r, .l, .r, .b] (j + 1)) a0 a1 a2 v4 v5 = l1_b k a0 a1 a2 ((fun (v4' : Int) (v5' : Int) => zl1 (la k [] [.r, .r, .r, .r, .r, .l, .r, .b] j) a0 a1 a2 v4' v5')) v4 v5 := by kernel_rfl
  exact h.trans (by rw [rs]; rfl)
noncomputable def top (k : Nat) (a0 : ByteArray) (a1 : Int) (a2 : Int) (a3 : Bool) (D_l0 : ByteArray → Int → Int → O (Int × Int)) (D_l1 : Int → Int → O (Int × Int)) : O (Int × Int) :=
  O.cond (decide (a2 < (1 : Int))) (
   .ok ((0 : Int), (1 : Int))) (
   O.cond (decide (a2 > (8 : Int))) (
    .ok ((0 : Int), (1 : Int))) (
    O.cond (decide (a1 < (0 : Int))) (
     .ok ((0 : Int), (10 : Int))) (
     O.cond (decide (a1 > (IntKind.i64.wrap ((ByteArray.size a0 : Int) - a2)))) (
      .ok ((0 : Int), (10 : Int))) (
      O.chk (decide (0 ≤ a1 ∧ a1 ≤ (IntKind.i64.wrap (a1 + a2)) ∧ (IntKind.i64.wrap (a1 + a2)) ≤ (ByteArray.size a0 : Int))) (
       O.cond (!a3) (
        O.bind (F_words_Turn.S k (ByteArray.extract a0 a1.toNat (IntKind.i64.wrap (a1 + a2)).toNat)) fun r1 =>
        D_l0 r1 (0 : Int) (0 : Int)) (
        D_l1 (0 : Int) (0 : Int)))))))
noncomputable def S (k : Nat) (a0 : ByteArray) (a1 : Int) (a2 : Int) (a3 : Bool) : O (Int × Int) := top k a0 a1 a2 a3 ((fun (r1 : ByteArray) (v2 : Int) (v3 : Int) => l0 k a2 r1 k v2 v3)) ((fun (v4 : Int) (v5 : Int) => l1 k a0 a1 a2 k v4 v5))
theorem eq (k : Nat) (a0 : ByteArray) (a1 : Int) (a2 : Int) (a3 : Bool) : evFn (T := Int × Int) tab (calOf (cal k)) Go.Proofs.Tryz.f74 nt k 0 [.str a0, .int .i64 a1, .int .i64 a2, .bool a3] [] ⟨0, false, []⟩ (fun v st => outK ct.ob (γ0 ct) ct.outs v st .ok) (fun e st => outP ct.ob (γ0 ct) ct.outs e st .ok) = S k a0 a1 a2 a3 := by
 have e0 : (fun (r1 : ByteArray) (v2 : Int) (v3 : Int) => zl0 (la k [] [.r, .r, .r, .r, .r, .l, .r, .b] k) a2 r1 v2 v3) = (fun (r1 : ByteArray) (v2 : Int) (v3 : Int) => l0 k a2 r1 k v2 v3) := by funext r1 v2 v3; exact l0_eq k a2 r1 k v2 v3
 have e1 : (fun (v4 : Int) (v5 : Int) => zl1 (la k [] [.r, .r, .r, .r, .r, .l, .r, .b] k) a0 a1 a2 v4 v5) = (fun (v4 : Int) (v5 : Int) => l1 k a0 a1 a2 k v4 v5) := by funext v4 v5; exact l1_eq k a0 a1 a2 k v4 v5
 have h : evFn (T := Int × Int) tab (calOf (cal k)) Go.Proofs.Tryz.f74 nt k 0 [.str a0, .int .i64 a1, .int .i64 a2, .bool a3] [] ⟨0, false, []⟩ (fun v st => outK ct.ob (γ0 ct) ct.outs v st .ok) (fun e st => outP ct.ob (γ0 ct) ct.outs e st .ok) = top k a0 a1 a2 a3 ((fun (r1 : ByteArray) (v2 : Int) (v3 : Int) => zl0 (la k [] [.r, .r, .r, .r, .r, .l, .r, .b] k) a2 r1 v2 v3)) ((fun (v4 : Int) (v5 : Int) => zl1 (la k [] [.r, .r, .r, .r, .r, .l, .r, .b] k) a0 a1 a2 v4 v5)) := by kernel_rfl
 exact h.trans (by rw [e0, e1]; rfl)
theorem ok (k : Nat) : FnOkC Tryz.prog 74 ct (fun (x : ByteArray × Int × Int × Bool) (_ : Unit) => S k x.1 x.2.1 x.2.2.1 x.2.2.2) :=
 FnOkC.of_ev (C := ct) tab_ok rfl (calOf_ok (cal_ok k)) mixed Tryz.func74 nt k (fun _ _ => rfl) (fun (x : ByteArray × Int × Int × Bool) (_ : Unit) => eq k x.1 x.2.1 x.2.2.1 x.2.2.2)
theorem hd {T : Type} (k : Nat) : HdOk Tryz.prog 74 (pureC (T := T) ct [] (fun (x : ByteArray × Int × Int × Bool) (_ : Unit) => S k x.1 x.2.1 x.2.2.1 x.2.2.2)) :=
 pureC_ok rfl [] (ok k) Tryz.call74
end F_words_Get
namespace F_eth_may
noncomputable def ct : Ct := ⟨.some (.one (.leaf (.int .i64)) []), [], [⟨.val (.leaf .bool), [], []⟩]⟩
noncomputable def nt : Notes := ⟨[], [], [], [], []⟩
noncomputable def cal0 {T : Type} (k : Nat) : List (FuncId × Hd T) := []
theorem cal0_ok {T : Type} (k : Nat) : HdsOk Tryz.prog (cal0 (T := T) k) := trivial
noncomputable def cal {T : Type} (k : Nat) : List (FuncId × Hd T) := cal0 k
theorem cal_ok {T : Type} (k : Nat) : HdsOk Tryz.prog (cal (T := T) k) := cal0_ok k
noncomputable def S (k : Nat) (a0 : Int) : O Bool :=
  O.cond (decide (a0 ≥ (1536 : Int))) (
   O.cond (decide (a0 ≤ (65535 : Int))) (
    .ok (decide (a0 ≠ (33024 : Int)))) (
    .ok false)) (
   .ok false)
theorem eq (k : Nat) (a0 : Int) : evFn (T := Bool) tab (calOf (cal k)) Go.Proofs.Tryz.f53 nt k 0 [.int .i64 a0] [] ⟨0, false, []⟩ (fun v st => outK ct.ob (γ0 ct) ct.outs v st .ok) (fun e st => outP ct.ob (γ0 ct) ct.outs e st .ok) = S k a0 := by kernel_rfl
theorem ok (k : Nat) : FnOkC Tryz.prog 53 ct (fun (x : Int) (_ : Unit) => S k x) :=
 FnOkC.of_ev (C := ct) tab_ok rfl (calOf_ok (cal_ok k)) mixed Tryz.func53 nt k (fun _ _ => rfl) (fun (x : Int) (_ : Unit) => eq k x)
theorem hd {T : Type} (k : Nat) : HdOk Tryz.prog 53 (pureC (T := T) ct [] (fun (x : Int) (_ : Unit) => S k x)) :=
 pureC_ok rfl [] (ok k) Tryz.call53
end F_eth_may
namespace F_eth_Parse
noncomputable def ct : Ct := ⟨.some (.one (.leaf .str) []), [], [⟨.tup (.cons (.agg (.cons (.leaf .str) (.cons (.leaf .str) (.cons (.leaf (.int .i64)) (.cons (.leaf (.int .i64)) (.cons (.leaf (.int .i64)) (.one (.leaf .str) []))))))) (.one (.leaf (.int .i64)) [])), [], []⟩]⟩
noncomputable def nt : Notes := ⟨[], [], [], [], []⟩
noncomputable def cal0 {T : Type} (k : Nat) : List (FuncId × Hd T) := [(53, pureC F_eth_may.ct [] (fun (x : Int) (_ : Unit) => F_eth_may.S k x)), (74, pureC F_words_Get.ct [] (fun (x : ByteArray × Int × Int × Bool) (_ : Unit) => F_words_Get.S k x.1 x.2.1 x.2.2.1 x.2.2.2))]
theorem cal0_ok {T : Type} (k : Nat) : HdsOk Tryz.prog (cal0 (T := T) k) := ⟨F_eth_may.hd k, F_words_Get.hd k, trivial⟩
noncomputable def nt51 : Notes := ⟨[], [], [], [], []⟩
noncomputable def cal1 {T : Type} (k : Nat) : List (FuncId × Hd T) := (51, inlH tab (calOf (cal0 k)) Go.Proofs.Tryz.f51 nt51 k) :: cal0 k
theorem cal1_ok {T : Type} (k : Nat) : HdsOk Tryz.prog (cal1 (T := T) k) := ⟨inlH_ok tab_ok (calOf_ok (cal0_ok k)) mixed Tryz.func51 nt51 k Tryz.call51, cal0_ok k⟩
noncomputable def nt52 : Notes := ⟨[], [], [], [], []⟩
noncomputable def cal2 {T : Type} (k : Nat) : List (FuncId × Hd T) := (52, inlH tab (calOf (cal1 k)) Go.Proofs.Tryz.f52 nt52 k) :: cal1 k
theorem cal2_ok {T : Type} (k : Nat) : HdsOk Tryz.prog (cal2 (T := T) k) := ⟨inlH_ok tab_ok (calOf_ok (cal1_ok k)) mixed Tryz.func52 nt52 k Tryz.call52, cal1_ok k⟩
noncomputable def cal {T : Type} (k : Nat) : List (FuncId × Hd T) := cal2 k
theorem cal_ok {T : Type} (k : Nat) : HdsOk Tryz.prog (cal (T := T) k) := cal2_ok k
noncomputable def nt50 : Notes := ⟨[], [], [], [], []⟩
noncomputable def D : Dfs := [(50, Go.Proofs.Tryz.f50, nt50)]
theorem D_ok : DfsOk Tryz.prog D := ⟨⟨Tryz.func50, Tryz.call50⟩, trivial⟩
noncomputable def S (k : Nat) (a0 : ByteArray) : O ((ByteArray × ByteArray × Int × Int × Int × ByteArray) × Int) :=
  O.cond (decide ((ByteArray.size a0 : Int) > (1518 : Int))) (
   .ok ((ByteArray.empty, ByteArray.empty, (0 : Int), (0 : Int), (0 : Int), ByteArray.empty), (61 : Int))) (
   O.cond (decide ((6 : Int) > (ByteArray.size a0 : Int))) (
    .ok ((ByteArray.empty, ByteArray.empty, (0 : Int), (0 : Int), (0 : Int), ByteArray.empty), (60 : Int))) (
    O.chk (decide (0 ≤ (6 : Int) ∧ (6 : Int) ≤ (ByteArray.size a0 : Int))) (
     O.chk (decide (0 ≤ (6 : Int) ∧ (6 : Int) ≤ (ByteArray.size a0 : Int))) (
      O.cond (decide ((6 : Int) > (ByteArray.size (ByteArray.extract a0 6 (ByteArray.size a0)) : Int))) (
       .ok ((ByteArray.empty, ByteArray.empty, (0 : Int), (0 : Int), (0 : Int), ByteArray.empty), (60 : Int))) (
       O.chk (decide (0 ≤ (6 : Int) ∧ (6 : Int) ≤ (ByteArray.size (ByteArray.extract a0 6 (ByteArray.size a0)) : Int))) (
        O.chk (decide (0 ≤ (6 : Int) ∧ (6 : Int) ≤ (ByteArray.size (ByteArray.extract a0 6 (ByteArray.size a0)) : Int))) (
         O.cond (decide ((2 : Int) > (ByteArray.size (ByteArray.extract (ByteArray.extract a0 6 (ByteArray.size a0)) 6 (ByteArray.size (ByteArray.extract a0 6 (ByteArray.size a0)))) : Int))) (
          .ok ((ByteArray.empty, ByteArray.empty, (0 : Int), (0 : Int), (0 : Int), ByteArray.empty), (60 : Int))) (
          O.chk (decide (0 ≤ (2 : Int) ∧ (2 : Int) ≤ (ByteArray.size (ByteArray.extract (ByteArray.extract a0 6 (ByteArray.size a0)) 6 (ByteArray.size (ByteArray.extract a0 6 (ByteArray.size a0)))) : Int))) (
           O.chk (decide (0 ≤ (2 : Int) ∧ (2 : Int) ≤ (ByteArray.size (ByteArray.extract (ByteArray.extract a0 6 (ByteArray.size a0)) 6 (ByteArray.size (ByteArray.extract a0 6 (ByteArray.size a0)))) : Int))) (
            O.bind (F_words_Get.S k (ByteArray.extract (ByteArray.extract (ByteArray.extract a0 6 (ByteArray.size a0)) 6 (ByteArray.size (ByteArray.extract a0 6 (ByteArray.size a0)))) 0 2) (0 : Int) (2 : Int) true) fun r2 =>
            O.cond (decide ((IntKind.i64.wrap r2.1) = (33024 : Int))) (
             O.cond (decide ((2 : Int) > (ByteArray.size (ByteArray.extract (ByteArray.extract (ByteArray.extract a0 6 (ByteArray.size a0)) 6 (ByteArray.size (ByteArray.extract a0 6 (ByteArray.size a0)))) 2 (ByteArray.size (ByteArray.extract (ByteArray.extract a0 6 (ByteArray.size a0)) 6 (ByteArray.size (ByteArray.extract a0 6 (ByteArray.size a0)))))) : Int))) (
              .ok ((ByteArray.empty, ByteArray.empty, (0 : Int), (0 : Int), (0 : Int), ByteArray.empty), (60 : Int))) (
              O.chk (decide (0 ≤ (2 : Int) ∧ (2 : Int) ≤ (ByteArray.size (ByteArray.extract (ByteArray.extract (ByteArray.extract a0 6 (ByteArray.size a0)) 6 (ByteArray.size (ByteArray.extract a0 6 (ByteArray.size a0)))) 2 (ByteArray.size (ByteArray.extract (ByteArray.extract a0 6 (ByteArray.size a0)) 6 (ByteArray.size (ByteArray.extract a0 6 (ByteArray.size a0)))))) : Int))) (
               O.chk (decide (0 ≤ (2 : Int) ∧ (2 : Int) ≤ (ByteArray.size (ByteArray.extract (ByteArray.extract (ByteArray.extract a0 6 (ByteArray.size a0)) 6 (ByteArray.size (ByteArray.extract a0 6 (ByteArray.size a0)))) 2 (ByteArray.size (ByteArray.extract (ByteArray.extract a0 6 (ByteArray.size a0)) 6 (ByteArray.size (ByteArray.extract a0 6 (ByteArray.size a0)))))) : Int))) (
                O.bind (F_words_Get.S k (ByteArray.extract (ByteArray.extract (ByteArray.extract (ByteArray.extract a0 6 (ByteArray.size a0)) 6 (ByteArray.size (ByteArray.extract a0 6 (ByteArray.size a0)))) 2 (ByteArray.size (ByteArray.extract (ByteArray.extract a0 6 (ByteArray.size a0)) 6 (ByteArray.size (ByteArray.extract a0 6 (ByteArray.size a0)))))) 0 2) (0 : Int) (2 : Int) true) fun r3 =>
                O.cond (decide ((2 : Int) > (ByteArray.size (ByteArray.extract (ByteArray.extract (ByteArray.extract (ByteArray.extract a0 6 (ByteArray.size a0)) 6 (ByteArray.size (ByteArray.extract a0 6 (ByteArray.size a0)))) 2 (ByteArray.size (ByteArray.extract (ByteArray.extract a0 6 (ByteArray.size a0)) 6 (ByteArray.size (ByteArray.extract a0 6 (ByteArray.size a0)))))) 2 (ByteArray.size (ByteArray.extract (ByteArray.extract (ByteArray.extract a0 6 (ByteArray.size a0)) 6 (ByteArray.size (ByteArray.extract a0 6 (ByteArray.size a0)))) 2 (ByteArray.size (ByteArray.extract (ByteArray.extract a0 6 (ByteArray.size a0)) 6 (ByteArray.size (ByteArray.extract a0 6 (ByteArray.size a0)))))))) : Int))) (
                 .ok ((ByteArray.empty, ByteArray.empty, (0 : Int), (0 : Int), (0 : Int), ByteArray.empty), (60 : Int))) (
                 O.chk (decide (0 ≤ (2 : Int) ∧ (2 : Int) ≤ (ByteArray.size (ByteArray.extract (ByteArray.extract (ByteArray.extract (ByteArray.extract a0 6 (ByteArray.size a0)) 6 (ByteArray.size (ByteArray.extract a0 6 (ByteArray.size a0)))) 2 (ByteArray.size (ByteArray.extract (ByteArray.extract a0 6 (ByteArray.size a0)) 6 (ByteArray.size (ByteArray.extract a0 6 (ByteArray.size a0)))))) 2 (ByteArray.size (ByteArray.extract (ByteArray.extract (ByteArray.extract a0 6 (ByteArray.size a0)) 6 (ByteArray.size (ByteArray.extract a0 6 (ByteArray.size a0)))) 2 (ByteArray.size (ByteArray.extract (ByteArray.extract a0 6 (ByteArray.size a0)) 6 (ByteArray.size (ByteArray.extract a0 6 (ByteArray.size a0)))))))) : Int))) (
                  O.chk (decide (0 ≤ (2 : Int) ∧ (2 : Int) ≤ (ByteArray.size (ByteArray.extract (ByteArray.extract (ByteArray.extract (ByteArray.extract a0 6 (ByteArray.size a0)) 6 (ByteArray.size (ByteArray.extract a0 6 (ByteArray.size a0)))) 2 (ByteArray.size (ByteArray.extract (ByteArray.extract a0 6 (ByteArray.size a0)) 6 (ByteArray.size (ByteArray.extract a0 6 (ByteArray.size a0)))))) 2 (ByteArray.size (ByteArray.extract (ByteArray.extract (ByteArray.extract a0 6 (ByteArray.size a0)) 6 (ByteArray.size (ByteArray.extract a0 6 (ByteArray.size a0)))) 2 (ByteArray.size (ByteArray.extract (ByteArray.extract a0 6 (ByteArray.size a0)) 6 (ByteArray.size (ByteArray.extract a0 6 (ByteArray.size a0)))))))) : Int))) (
                   O.bind (F_words_Get.S k (ByteArray.extract (ByteArray.extract (ByteArray.extract (ByteArray.extract (ByteArray.extract a0 6 (ByteArray.size a0)) 6 (ByteArray.size (ByteArray.extract a0 6 (ByteArray.size a0)))) 2 (ByteArray.size (ByteArray.extract (ByteArray.extract a0 6 (ByteArray.size a0)) 6 (ByteArray.size (ByteArray.extract a0 6 (ByteArray.size a0)))))) 2 (ByteArray.size (ByteArray.extract (ByteArray.extract (ByteArray.extract a0 6 (ByteArray.size a0)) 6 (ByteArray.size (ByteArray.extract a0 6 (ByteArray.size a0)))) 2 (ByteArray.size (ByteArray.extract (ByteArray.extract a0 6 (ByteArray.size a0)) 6 (ByteArray.size (ByteArray.extract a0 6 (ByteArray.size a0)))))))) 0 2) (0 : Int) (2 : Int) true) fun r4 =>
                   O.cond (decide ((bAnd .i64 (IntKind.i64.wrap r3.1) (4096 : Int)) ≠ (0 : Int))) (
                    .ok ((ByteArray.empty, ByteArray.empty, (0 : Int), (0 : Int), (0 : Int), ByteArray.empty), (61 : Int))) (
                    O.cond (decide ((bAnd .i64 (IntKind.i64.wrap r3.1) (4095 : Int)) > (4094 : Int))) (
                     .ok ((ByteArray.empty, ByteArray.empty, (0 : Int), (0 : Int), (0 : Int), ByteArray.empty), (61 : Int))) (
                     O.bind (F_eth_may.S k (IntKind.i64.wrap r4.1)) fun r5 =>
                     O.cond (!r5) (
                      .ok ((ByteArray.empty, ByteArray.empty, (0 : Int), (0 : Int), (0 : Int), ByteArray.empty), (61 : Int))) (
                      .ok (((ByteArray.extract a0 0 6), (ByteArray.extract (ByteArray.extract a0 6 (ByteArray.size a0)) 0 6), (bAnd .i64 (IntKind.i64.wrap r3.1) (4095 : Int)), (shR .i64 (IntKind.i64.wrap r3.1) (13 : Int)), (IntKind.i64.wrap r4.1), (ByteArray.extract (ByteArray.extract (ByteArray.extract (ByteArray.extract (ByteArray.extract a0 6 (ByteArray.size a0)) 6 (ByteArray.size (ByteArray.extract a0 6 (ByteArray.size a0)))) 2 (ByteArray.size (ByteArray.extract (ByteArray.extract a0 6 (ByteArray.size a0)) 6 (ByteArray.size (ByteArray.extract a0 6 (ByteArray.size a0)))))) 2 (ByteArray.size (ByteArray.extract (ByteArray.extract (ByteArray.extract a0 6 (ByteArray.size a0)) 6 (ByteArray.size (ByteArray.extract a0 6 (ByteArray.size a0)))) 2 (ByteArray.size (ByteArray.extract (ByteArray.extract a0 6 (ByteArray.size a0)) 6 (ByteArray.size (ByteArray.extract a0 6 (ByteArray.size a0)))))))) 2 (ByteArray.size (ByteArray.extract (ByteArray.extract (ByteArray.extract (ByteArray.extract a0 6 (ByteArray.size a0)) 6 (ByteArray.size (ByteArray.extract a0 6 (ByteArray.size a0)))) 2 (ByteArray.size (ByteArray.extract (ByteArray.extract a0 6 (ByteArray.size a0)) 6 (ByteArray.size (ByteArray.extract a0 6 (ByteArray.size a0)))))) 2 (ByteArray.size (ByteArray.extract (ByteArray.extract (ByteArray.extract a0 6 (ByteArray.size a0)) 6 (ByteArray.size (ByteArray.extract a0 6 (ByteArray.size a0)))) 2 (ByteArray.size (ByteArray.extract (ByteArray.extract a0 6 (ByteArray.size a0)) 6 (ByteArray.size (ByteArray.extract a0 6 (ByteArray.size a0))))))))))), (0 : Int)))))))))))) (
             O.cond false (
              .ok ((ByteArray.empty, ByteArray.empty, (0 : Int), (0 : Int), (0 : Int), ByteArray.empty), (61 : Int))) (
              O.bind (F_eth_may.S k (IntKind.i64.wrap r2.1)) fun r6 =>
              O.cond (!r6) (
               .ok ((ByteArray.empty, ByteArray.empty, (0 : Int), (0 : Int), (0 : Int), ByteArray.empty), (61 : Int))) (
               .ok (((ByteArray.extract a0 0 6), (ByteArray.extract (ByteArray.extract a0 6 (ByteArray.size a0)) 0 6), (-1 : Int), (0 : Int), (IntKind.i64.wrap r2.1), (ByteArray.extract (ByteArray.extract (ByteArray.extract a0 6 (ByteArray.size a0)) 6 (ByteArray.size (ByteArray.extract a0 6 (ByteArray.size a0)))) 2 (ByteArray.size (ByteArray.extract (ByteArray.extract a0 6 (ByteArray.size a0)) 6 (ByteArray.size (ByteArray.extract a0 6 (ByteArray.size a0))))))), (0 : Int)))))))))))))))
theorem eq (k : Nat) (a0 : ByteArray) : evFnD (T := (ByteArray × ByteArray × Int × Int × Int × ByteArray) × Int) tab (calOf (cal k)) D Go.Proofs.Tryz.f21 nt k 0 [.str a0] ⟨0, false, []⟩ (fun v st => outK ct.ob (γ0 ct) ct.outs v st .ok) (fun e st => outP ct.ob (γ0 ct) ct.outs e st .ok) = S k a0 := by kernel_rfl
theorem ok (k : Nat) : FnOkC Tryz.prog 21 ct (fun (x : ByteArray) (_ : Unit) => S k x) :=
 FnOkC.of_evD (C := ct) tab_ok rfl (calOf_ok (cal_ok k)) mixed D_ok Tryz.func21 nt k (fun _ _ => rfl) (fun (x : ByteArray) (_ : Unit) => eq k x)
theorem hd {T : Type} (k : Nat) : HdOk Tryz.prog 21 (pureC (T := T) ct [] (fun (x : ByteArray) (_ : Unit) => S k x)) :=
 pureC_ok rfl [] (ok k) Tryz.call21
end F_eth_Parse
namespace F_words_may
noncomputable def ct : Ct := ⟨.some (.cons (.leaf (.int .u64)) (.one (.leaf (.int .i64)) [])), [], [⟨.val (.leaf .bool), [], []⟩]⟩
noncomputable def nt : Notes := ⟨[], [], [], [], []⟩
noncomputable def cal0 {T : Type} (k : Nat) : List (FuncId × Hd T) := []
theorem cal0_ok {T : Type} (k : Nat) : HdsOk Tryz.prog (cal0 (T := T) k) := trivial
noncomputable def cal {T : Type} (k : Nat) : List (FuncId × Hd T) := cal0 k
theorem cal_ok {T : Type} (k : Nat) : HdsOk Tryz.prog (cal (T := T) k) := cal0_ok k
noncomputable def S (k : Nat) (a0 : Int) (a1 : Int) : O Bool :=
  O.cond (decide (a1 ≥ (1 : Int))) (
   O.cond (decide (a1 ≤ (8 : Int))) (
    O.cond (decide (a1 = (8 : Int))) (
     .ok true) (
     O.chk (decide (0 ≤ (IntKind.i64.wrap ((8 : Int) * a1)))) (
      .ok (decide ((shR .u64 a0 (IntKind.i64.wrap ((8 : Int) * a1))) = (0 : Int)))))) (
    .ok false)) (
   .ok false)
theorem eq (k : Nat) (a0 : Int) (a1 : Int) : evFn (T := Bool) tab (calOf (cal k)) Go.Proofs.Tryz.f105 nt k 0 [.int .u64 a0, .int .i64 a1] [] ⟨0, false, []⟩ (fun v st => outK ct.ob (γ0 ct) ct.outs v st .ok) (fun e st => outP ct.ob (γ0 ct) ct.outs e st .ok) = S k a0 a1 := by kernel_rfl
theorem ok (k : Nat) : FnOkC Tryz.prog 105 ct (fun (x : Int × Int) (_ : Unit) => S k x.1 x.2) :=
 FnOkC.of_ev (C := ct) tab_ok rfl (calOf_ok (cal_ok k)) mixed Tryz.func105 nt k (fun _ _ => rfl) (fun (x : Int × Int) (_ : Unit) => eq k x.1 x.2)
theorem hd {T : Type} (k : Nat) : HdOk Tryz.prog 105 (pureC (T := T) ct [] (fun (x : Int × Int) (_ : Unit) => S k x.1 x.2)) :=
 pureC_ok rfl [] (ok k) Tryz.call105
end F_words_may
namespace F_words_Put
noncomputable def ct : Ct := ⟨.some (.cons (.leaf (.int .u64)) (.cons (.leaf (.int .i64)) (.one (.leaf .bool) []))), [], [⟨.tup (.cons (.leaf .str) (.one (.leaf (.int .i64)) [])), [], []⟩]⟩
noncomputable def nt : Notes := ⟨[(5, ⟨[0, 1, 2, 8, 16, 17], []⟩)], [], [], [], []⟩
noncomputable def cal0 {T : Type} (k : Nat) : List (FuncId × Hd T) := [(87, pureC F_words_Turn.ct [] (fun (x : ByteArray) (_ : Unit) => F_words_Turn.S k x)), (105, pureC F_words_may.ct [] (fun (x : Int × Int) (_ : Unit) => F_words_may.S k x.1 x.2))]
theorem cal0_ok {T : Type} (k : Nat) : HdsOk Tryz.prog (cal0 (T := T) k) := ⟨F_words_Turn.hd k, F_words_may.hd k, trivial⟩
noncomputable def cal {T : Type} (k : Nat) : List (FuncId × Hd T) := cal0 k
theorem cal_ok {T : Type} (k : Nat) : HdsOk Tryz.prog (cal (T := T) k) := cal0_ok k
noncomputable abbrev la (k : Nat) (Rs : List (Fr → St → O (ByteArray × Int))) (ds : List Dir) (j : Nat) : Fr → St → O (ByteArray × Int) := loopAt tab (calOf (cal k)) Go.Proofs.Tryz.f93.ntmps nt k Rs ds (bodyOf Go.Proofs.Tryz.f93) (finK tab Go.Proofs.Tryz.f93.results.toList (fun v st => outK ct.ob (γ0 ct) ct.outs v st .ok) (fun e st => outP ct.ob (γ0 ct) ct.outs e st .ok)) j
noncomputable abbrev zl0 {α : Type} (X : Fr → St → α) (a0 : Int) (a1 : Int) (a2 : Bool) (v2 : Int) (v3 : List Int) : α := X ⟨[(0, .int .u64 a0), (1, .int .i64 a1), (2, .bool a2), (8, .osl 0), (16, .int .i64 a1), (17, .int .i64 v2)], [], 0, []⟩ ⟨1, true, [(0, .row true 5 [.int .u8] v3)]⟩
noncomputable def l0_b (k : Nat) (a0 : Int) (a1 : Int) (a2 : Bool) (R_l0 : Int → (List Int) → O (ByteArray × Int)) (v2 : Int) (v3 : List Int) : O (ByteArray × Int) :=
  O.cond (decide (v2 < a1)) (
   O.chk (decide (0 ≤ (IntKind.i64.wrap ((8 : Int) * v2)))) (
    O.chk (decide (0 ≤ (IntKind.i64.wrap ((IntKind.i64.wrap (a1 - (1 : Int))) - v2)) ∧ (IntKind.i64.wrap ((IntKind.i64.wrap (a1 - (1 : Int))) - v2)) < (List.length v3 : Int) ∧ (List.length v3 : Int) ≤ (List.length v3 : Int))) (
     O.chk (decide (0 ≤ (IntKind.i64.wrap ((IntKind.i64.wrap (a1 - (1 : Int))) - v2)) ∧ (IntKind.i64.wrap ((IntKind.i64.wrap (a1 - (1 : Int))) - v2)) < (List.length v3 : Int))) (
      R_l0 (IntKind.i64.wrap (v2 + (1 : Int))) (su v3 (IntKind.i64.wrap ((IntKind.i64.wrap (a1 - (1 : Int))) - v2)) (IntKind.u8.wrap (shR .u64 a0 (IntKind.i64.wrap ((8 : Int) * v2))))))))) (
   O.cond (!a2) (
    O.bind (F_words_Turn.S k (Go.Aq.strOf v3)) fun r4 =>
    .ok (r4, (0 : Int))) (
    .ok ((Go.Aq.strOf v3), (0 : Int))))
noncomputable def l0 (k : Nat) (a0 : Int) (a1 : Int) (a2 : Bool) : Nat → Int → (List Int) → O (ByteArray × Int)
 | 0, _, _ => .no
 | j + 1, v2, v3 => l0_b k a0 a1 a2 (l0 k a0 a1 a2 j) v2 v3
theorem l0_eq (k : Nat) (a0 : Int) (a1 : Int) (a2 : Bool) : ∀ (j : Nat) (v2 : Int) (v3 : List Int), zl0 (la k [] [.r, .r, .r, .l, .r, .b] j) a0 a1 a2 v2 v3 = l0 k a0 a1 a2 j v2 v3 := by
 intro j
 induction j with
 | zero => intro v2 v3; rfl
 | succ j ih =>
  intro v2 v3
  have rs : (fun (v2' : Int) (v3' : List Int) => zl0 (la k [] [.r, .r, .r, .l, .r, .b] j) a0 a1 a2 v2' v3') = l0 k a0 a1 a2 j := by funext v2' v3'; exact ih v2' v3'
  have h : zl0 (la k [] [.r, .r, .r, .l, .r, .b] (j + 1)) a0 a1 a2 v2 v3 = l0_b k a0 a1 a2 ((fun (v2' : Int) (v3' : List Int) => zl0 (la k [] [.r, .r, .r, .l, .r, .b] j) a0 a1 a2 v2' v3')) v2 v3 := by kernel_rfl
  exact h.trans (by rw [rs]; rfl)
noncomputable def top (k : Nat) (a0 : Int) (a1 : Int) (a2 : Bool) (D_l0 : Int → (List Int) → O (ByteArray × Int)) : O (ByteArray × Int) :=
  O.bind (F_words_may.S k a0 a1) fun r1 =>
  O.cond (!r1) (
   .ok ((⟨#[]⟩ : ByteArray), (1 : Int))) (
   O.chk (decide (0 ≤ a1 ∧ a1 = a1 ∧ a1 ≤ 1073741824)) (
    D_l0 (0 : Int) (List.replicate a1.toNat (0 : Int))))
noncomputable def S (k : Nat) (a0 : Int) (a1 : Int) (a2 : Bool) : O (ByteArray × Int) := top k a0 a1 a2 ((fun (v2 : Int) (v3 : List Int) => l0 k a0 a1 a2 k v2 v3))
theorem eq (k : Nat) (a0 : Int) (a1 : Int) (a2 : Bool) : evFn (T := ByteArray × Int) tab (calOf (cal k)) Go.Proofs.Tryz.f93 nt k 0 [.int .u64 a0, .int .i64 a1, .bool a2] [] ⟨0, false, []⟩ (fun v st => outK ct.ob (γ0 ct) ct.outs v st .ok) (fun e st => outP ct.ob (γ0 ct) ct.outs e st .ok) = S k a0 a1 a2 := by
 have e0 : (fun (v2 : Int) (v3 : List Int) => zl0 (la k [] [.r, .r, .r, .l, .r, .b] k) a0 a1 a2 v2 v3) = (fun (v2 : Int) (v3 : List Int) => l0 k a0 a1 a2 k v2 v3) := by funext v2 v3; exact l0_eq k a0 a1 a2 k v2 v3
 have h : evFn (T := ByteArray × Int) tab (calOf (cal k)) Go.Proofs.Tryz.f93 nt k 0 [.int .u64 a0, .int .i64 a1, .bool a2] [] ⟨0, false, []⟩ (fun v st => outK ct.ob (γ0 ct) ct.outs v st .ok) (fun e st => outP ct.ob (γ0 ct) ct.outs e st .ok) = top k a0 a1 a2 ((fun (v2 : Int) (v3 : List Int) => zl0 (la k [] [.r, .r, .r, .l, .r, .b] k) a0 a1 a2 v2 v3)) := by kernel_rfl
 exact h.trans (by rw [e0]; rfl)
theorem ok (k : Nat) : FnOkC Tryz.prog 93 ct (fun (x : Int × Int × Bool) (_ : Unit) => S k x.1 x.2.1 x.2.2) :=
 FnOkC.of_ev (C := ct) tab_ok rfl (calOf_ok (cal_ok k)) mixed Tryz.func93 nt k (fun _ _ => rfl) (fun (x : Int × Int × Bool) (_ : Unit) => eq k x.1 x.2.1 x.2.2)
theorem hd {T : Type} (k : Nat) : HdOk Tryz.prog 93 (pureC (T := T) ct [] (fun (x : Int × Int × Bool) (_ : Unit) => S k x.1 x.2.1 x.2.2)) :=
 pureC_ok rfl [] (ok k) Tryz.call93
end F_words_Put
namespace F_eth_two
noncomputable def ct : Ct := ⟨.some (.one (.leaf (.int .i64)) []), [], [⟨.val (.leaf .str), [], []⟩]⟩
noncomputable def nt : Notes := ⟨[], [], [], [], []⟩
noncomputable def cal0 {T : Type} (k : Nat) : List (FuncId × Hd T) := [(93, pureC F_words_Put.ct [] (fun (x : Int × Int × Bool) (_ : Unit) => F_words_Put.S k x.1 x.2.1 x.2.2))]
theorem cal0_ok {T : Type} (k : Nat) : HdsOk Tryz.prog (cal0 (T := T) k) := ⟨F_words_Put.hd k, trivial⟩
noncomputable def cal {T : Type} (k : Nat) : List (FuncId × Hd T) := cal0 k
theorem cal_ok {T : Type} (k : Nat) : HdsOk Tryz.prog (cal (T := T) k) := cal0_ok k
noncomputable def S (k : Nat) (a0 : Int) : O ByteArray :=
 O.bind (F_words_Put.S k (IntKind.u64.wrap a0) (2 : Int) true) fun r1 =>
 .ok r1.1
theorem eq (k : Nat) (a0 : Int) : evFn (T := ByteArray) tab (calOf (cal k)) Go.Proofs.Tryz.f88 nt k 0 [.int .i64 a0] [] ⟨0, false, []⟩ (fun v st => outK ct.ob (γ0 ct) ct.outs v st .ok) (fun e st => outP ct.ob (γ0 ct) ct.outs e st .ok) = S k a0 := by kernel_rfl
theorem ok (k : Nat) : FnOkC Tryz.prog 88 ct (fun (x : Int) (_ : Unit) => S k x) :=
 FnOkC.of_ev (C := ct) tab_ok rfl (calOf_ok (cal_ok k)) mixed Tryz.func88 nt k (fun _ _ => rfl) (fun (x : Int) (_ : Unit) => eq k x)
theorem hd {T : Type} (k : Nat) : HdOk Tryz.prog 88 (pureC (T := T) ct [] (fun (x : Int) (_ : Unit) => S k x)) :=
 pureC_ok rfl [] (ok k) Tryz.call88
end F_eth_two
namespace F_eth_Build
noncomputable def ct : Ct := ⟨.some (.one (.agg (.cons (.leaf .str) (.cons (.leaf .str) (.cons (.leaf (.int .i64)) (.cons (.leaf (.int .i64)) (.cons (.leaf (.int .i64)) (.one (.leaf .str) []))))))) []), [], [⟨.tup (.cons (.leaf .str) (.one (.leaf (.int .i64)) [])), [], []⟩]⟩
noncomputable def nt : Notes := ⟨[], [(3, ⟨[1], []⟩)], [(5, [0, 2, 3, 4, 5, 6, 7, 1, 8, 9, 10, 11])], [], []⟩
noncomputable def cal0 {T : Type} (k : Nat) : List (FuncId × Hd T) := [(53, pureC F_eth_may.ct [] (fun (x : Int) (_ : Unit) => F_eth_may.S k x)), (88, pureC F_eth_two.ct [] (fun (x : Int) (_ : Unit) => F_eth_two.S k x))]
theorem cal0_ok {T : Type} (k : Nat) : HdsOk Tryz.prog (cal0 (T := T) k) := ⟨F_eth_may.hd k, F_eth_two.hd k, trivial⟩
noncomputable def cal {T : Type} (k : Nat) : List (FuncId × Hd T) := cal0 k
theorem cal_ok {T : Type} (k : Nat) : HdsOk Tryz.prog (cal (T := T) k) := cal0_ok k
noncomputable abbrev ca (k : Nat) (Rs : List (Fr → St → O (ByteArray × Int))) (ds : List Dir) : Fr → St → O (ByteArray × Int) := codeAt tab (calOf (cal k)) Go.Proofs.Tryz.f77.ntmps nt k Rs ds (bodyOf Go.Proofs.Tryz.f77) (finK tab Go.Proofs.Tryz.f77.results.toList (fun v st => outK ct.ob (γ0 ct) ct.outs v st .ok) (fun e st => outP ct.ob (γ0 ct) ct.outs e st .ok))
noncomputable abbrev zj1 {α : Type} (X : Fr → St → α) (a0 : ByteArray × ByteArray × Int × Int × Int × ByteArray) : α := X ⟨[(1, .ptr 0 0)], [], 0, []⟩ ⟨1, true, [(0, .cells 68 [.str a0.1, .str a0.2.1, .int .i64 a0.2.2.1, .int .i64 a0.2.2.2.1, .int .i64 a0.2.2.2.2.1, .str a0.2.2.2.2.2])]⟩
noncomputable def j1_b (k : Nat) (a0 : ByteArray × ByteArray × Int × Int × Int × ByteArray) : O (ByteArray × Int) :=
  O.chk (decide (((ByteArray.size a0.1 + ByteArray.size a0.2.1 : Nat) : Int) ≤ 9223372036854775807)) (
   O.cond (decide (a0.2.2.1 ≠ (-1 : Int))) (
    O.bind (F_eth_two.S k (33024 : Int)) fun r4 =>
    O.bind (F_eth_two.S k (bOr .i64 (shL .i64 a0.2.2.2.1 (13 : Int)) a0.2.2.1)) fun r5 =>
    O.chk (decide (((ByteArray.size r4 + ByteArray.size r5 : Nat) : Int) ≤ 9223372036854775807)) (
     O.chk (decide (((ByteArray.size (a0.1 ++ a0.2.1) + ByteArray.size (r4 ++ r5) : Nat) : Int) ≤ 9223372036854775807)) (
      O.bind (F_eth_two.S k a0.2.2.2.2.1) fun r6 =>
      O.chk (decide (((ByteArray.size ((a0.1 ++ a0.2.1) ++ (r4 ++ r5)) + ByteArray.size r6 : Nat) : Int) ≤ 9223372036854775807)) (
       O.cond (decide ((ByteArray.size a0.2.2.2.2.2 : Int) > (IntKind.i64.wrap ((1518 : Int) - (ByteArray.size (((a0.1 ++ a0.2.1) ++ (r4 ++ r5)) ++ r6) : Int))))) (
        .ok ((⟨#[]⟩ : ByteArray), (61 : Int))) (
        O.chk (decide (((ByteArray.size (((a0.1 ++ a0.2.1) ++ (r4 ++ r5)) ++ r6) + ByteArray.size a0.2.2.2.2.2 : Nat) : Int) ≤ 9223372036854775807)) (
         .ok (((((a0.1 ++ a0.2.1) ++ (r4 ++ r5)) ++ r6) ++ a0.2.2.2.2.2), (0 : Int)))))))) (
    O.bind (F_eth_two.S k a0.2.2.2.2.1) fun r7 =>
    O.chk (decide (((ByteArray.size (a0.1 ++ a0.2.1) + ByteArray.size r7 : Nat) : Int) ≤ 9223372036854775807)) (
     O.cond (decide ((ByteArray.size a0.2.2.2.2.2 : Int) > (IntKind.i64.wrap ((1518 : Int) - (ByteArray.size ((a0.1 ++ a0.2.1) ++ r7) : Int))))) (
      .ok ((⟨#[]⟩ : ByteArray), (61 : Int))) (
      O.chk (decide (((ByteArray.size ((a0.1 ++ a0.2.1) ++ r7) + ByteArray.size a0.2.2.2.2.2 : Nat) : Int) ≤ 9223372036854775807)) (
       .ok ((((a0.1 ++ a0.2.1) ++ r7) ++ a0.2.2.2.2.2), (0 : Int)))))))
noncomputable def j1 (k : Nat) (a0 : ByteArray × ByteArray × Int × Int × Int × ByteArray) : O (ByteArray × Int) := j1_b k a0
theorem j1_eq (k : Nat) (a0 : ByteArray × ByteArray × Int × Int × Int × ByteArray) : zj1 (ca k [] [.r, .r]) a0 = j1 k a0 := by
  have h : zj1 (ca k [] [.r, .r]) a0 = j1_b k a0 := (codeAt_eq _ _ _ _ _ _ _ _ _ _ _).trans (by show _ = _; kernel_rfl)
  exact h.trans (by rfl)
noncomputable def top (k : Nat) (a0 : ByteArray × ByteArray × Int × Int × Int × ByteArray) (D_j1 : O (ByteArray × Int)) : O (ByteArray × Int) :=
  O.cond (decide ((ByteArray.size a0.1 : Int) ≠ (6 : Int))) (
   .ok ((⟨#[]⟩ : ByteArray), (61 : Int))) (
   O.cond (decide ((ByteArray.size a0.2.1 : Int) ≠ (6 : Int))) (
    .ok ((⟨#[]⟩ : ByteArray), (61 : Int))) (
    O.cond (decide (a0.2.2.1 < (-1 : Int))) (
     .ok ((⟨#[]⟩ : ByteArray), (61 : Int))) (
     O.cond (decide (a0.2.2.1 > (4094 : Int))) (
      .ok ((⟨#[]⟩ : ByteArray), (61 : Int))) (
      O.cond (decide (a0.2.2.2.1 < (0 : Int))) (
       .ok ((⟨#[]⟩ : ByteArray), (61 : Int))) (
       O.cond (decide (a0.2.2.2.1 > (7 : Int))) (
        .ok ((⟨#[]⟩ : ByteArray), (61 : Int))) (
        O.cond (decide (a0.2.2.1 = (-1 : Int))) (
         O.cond (decide (a0.2.2.2.1 ≠ (0 : Int))) (
          .ok ((⟨#[]⟩ : ByteArray), (61 : Int))) (
          O.bind (F_eth_may.S k a0.2.2.2.2.1) fun r3 =>
          O.cond (!r3) (
           .ok ((⟨#[]⟩ : ByteArray), (61 : Int))) (
           D_j1))) (
         O.bind (F_eth_may.S k a0.2.2.2.2.1) fun r8 =>
         O.cond (!r8) (
          .ok ((⟨#[]⟩ : ByteArray), (61 : Int))) (
          D_j1))))))))
noncomputable def S (k : Nat) (a0 : ByteArray × ByteArray × Int × Int × Int × ByteArray) : O (ByteArray × Int) := top k a0 (j1 k a0)
theorem eq (k : Nat) (a0 : ByteArray × ByteArray × Int × Int × Int × ByteArray) : evFn (T := ByteArray × Int) tab (calOf (cal k)) Go.Proofs.Tryz.f77 nt k 0 [.agg [.str a0.1, .str a0.2.1, .int .i64 a0.2.2.1, .int .i64 a0.2.2.2.1, .int .i64 a0.2.2.2.2.1, .str a0.2.2.2.2.2]] [] ⟨0, false, []⟩ (fun v st => outK ct.ob (γ0 ct) ct.outs v st .ok) (fun e st => outP ct.ob (γ0 ct) ct.outs e st .ok) = S k a0 := by
 have e0 : zj1 (ca k [] [.r, .r]) a0 = j1 k a0 := by exact j1_eq k a0
 have h : evFn (T := ByteArray × Int) tab (calOf (cal k)) Go.Proofs.Tryz.f77 nt k 0 [.agg [.str a0.1, .str a0.2.1, .int .i64 a0.2.2.1, .int .i64 a0.2.2.2.1, .int .i64 a0.2.2.2.2.1, .str a0.2.2.2.2.2]] [] ⟨0, false, []⟩ (fun v st => outK ct.ob (γ0 ct) ct.outs v st .ok) (fun e st => outP ct.ob (γ0 ct) ct.outs e st .ok) = top k a0 (zj1 (ca k [] [.r, .r]) a0) := by kernel_rfl
 exact h.trans (by rw [e0]; rfl)
theorem ok (k : Nat) : FnOkC Tryz.prog 77 ct (fun (x : ByteArray × ByteArray × Int × Int × Int × ByteArray) (_ : Unit) => S k x) :=
 FnOkC.of_ev (C := ct) tab_ok rfl (calOf_ok (cal_ok k)) mixed Tryz.func77 nt k (fun _ _ => rfl) (fun (x : ByteArray × ByteArray × Int × Int × Int × ByteArray) (_ : Unit) => eq k x)
theorem hd {T : Type} (k : Nat) : HdOk Tryz.prog 77 (pureC (T := T) ct [] (fun (x : ByteArray × ByteArray × Int × Int × Int × ByteArray) (_ : Unit) => S k x)) :=
 pureC_ok rfl [] (ok k) Tryz.call77
end F_eth_Build
namespace F_eth_Tag
noncomputable def ct : Ct := ⟨.some (.cons (.leaf .str) (.one (.leaf (.int .i64)) [])), [], [⟨.tup (.cons (.leaf .str) (.one (.leaf (.int .i64)) [])), [], []⟩]⟩
noncomputable def nt : Notes := ⟨[], [], [], [], []⟩
noncomputable def cal0 {T : Type} (k : Nat) : List (FuncId × Hd T) := [(21, pureC F_eth_Parse.ct [] (fun (x : ByteArray) (_ : Unit) => F_eth_Parse.S k x)), (77, pureC F_eth_Build.ct [] (fun (x : ByteArray × ByteArray × Int × Int × Int × ByteArray) (_ : Unit) => F_eth_Build.S k x))]
theorem cal0_ok {T : Type} (k : Nat) : HdsOk Tryz.prog (cal0 (T := T) k) := ⟨F_eth_Parse.hd k, F_eth_Build.hd k, trivial⟩
noncomputable def cal {T : Type} (k : Nat) : List (FuncId × Hd T) := cal0 k
theorem cal_ok {T : Type} (k : Nat) : HdsOk Tryz.prog (cal (T := T) k) := cal0_ok k
noncomputable def S (k : Nat) (a0 : ByteArray) (a1 : Int) : O (ByteArray × Int) :=
  O.bind (F_eth_Parse.S k a0) fun r1 =>
  O.cond (decide (r1.2 ≠ (0 : Int))) (
   .ok ((⟨#[]⟩ : ByteArray), r1.2)) (
   O.cond (decide (a1 = (-1 : Int))) (
    O.bind (F_eth_Build.S k (r1.1.1, r1.1.2.1, a1, (0 : Int), r1.1.2.2.2.2.1, r1.1.2.2.2.2.2)) fun r2 =>
    .ok r2) (
    O.bind (F_eth_Build.S k (r1.1.1, r1.1.2.1, a1, r1.1.2.2.2.1, r1.1.2.2.2.2.1, r1.1.2.2.2.2.2)) fun r3 =>
    .ok r3))
theorem eq (k : Nat) (a0 : ByteArray) (a1 : Int) : evFn (T := ByteArray × Int) tab (calOf (cal k)) Go.Proofs.Tryz.f57 nt k 0 [.str a0, .int .i64 a1] [] ⟨0, false, []⟩ (fun v st => outK ct.ob (γ0 ct) ct.outs v st .ok) (fun e st => outP ct.ob (γ0 ct) ct.outs e st .ok) = S k a0 a1 := by kernel_rfl
theorem ok (k : Nat) : FnOkC Tryz.prog 57 ct (fun (x : ByteArray × Int) (_ : Unit) => S k x.1 x.2) :=
 FnOkC.of_ev (C := ct) tab_ok rfl (calOf_ok (cal_ok k)) mixed Tryz.func57 nt k (fun _ _ => rfl) (fun (x : ByteArray × Int) (_ : Unit) => eq k x.1 x.2)
theorem hd {T : Type} (k : Nat) : HdOk Tryz.prog 57 (pureC (T := T) ct [] (fun (x : ByteArray × Int) (_ : Unit) => S k x.1 x.2)) :=
 pureC_ok rfl [] (ok k) Tryz.call57
end F_eth_Tag
namespace F_bridge_Bridge_leaves
noncomputable def ct : Ct := ⟨.some (.pin (.ref 0) (.cons (.leaf (.int .i64)) (.cons (.leaf (.int .i64)) (.one (.leaf .str) [])))), [(66, .cons (.tab false 58 (.cons (.leaf (.int .i64)) (.one (.row false 3 [.int .i64]) []))) (.pin (.ref 1) (.cons (.tab true 78 (.one (.box 129 (.cons (.row true 9 [.str]) (.cons (.leaf (.int .i64)) (.one (.leaf (.int .i64)) [])))) [])) (.one (.agg (.cons (.leaf (.int .i64)) (.cons (.leaf (.int .i64)) (.cons (.leaf (.int .i64)) (.cons (.leaf (.int .i64)) (.cons (.leaf (.int .i64)) (.one (.leaf (.int .i64)) []))))))) [])))), (124, .cons (.leaf (.int .i64)) (.cons (.leaf (.int .i64)) (.one (.map 122 true true [.int .i64, .str] [.int .i64, .str, .int .i64, .int .i64]) [])))], [⟨.tup (.cons (.leaf .str) (.one (.leaf (.int .i64)) [])), [], []⟩]⟩
noncomputable def nt : Notes := ⟨[], [], [], [], []⟩
noncomputable def cal0 {T : Type} (k : Nat) : List (FuncId × Hd T) := [(57, pureC F_eth_Tag.ct [] (fun (x : ByteArray × Int) (_ : Unit) => F_eth_Tag.S k x.1 x.2))]
theorem cal0_ok {T : Type} (k : Nat) : HdsOk Tryz.prog (cal0 (T := T) k) := ⟨F_eth_Tag.hd k, trivial⟩
noncomputable def cal {T : Type} (k : Nat) : List (FuncId × Hd T) := cal0 k
theorem cal_ok {T : Type} (k : Nat) : HdsOk Tryz.prog (cal (T := T) k) := cal0_ok k
noncomputable def S (k : Nat) (a1 : Int) (a2 : Int) (a3 : ByteArray) (g0 : (List (Int × List Int)) × (List (List ByteArray × Int × Int)) × (Int × Int × Int × Int × Int × Int)) (g1 : Int × Int × TY0) : O (ByteArray × Int) :=
  O.chk (decide (0 ≤ a1 ∧ a1 < (List.length g0.1 : Int))) (
   O.chk (decide (0 ≤ a1 ∧ a1 < (List.length g0.1 : Int))) (
    O.cond (decide ((gt ((0 : Int), []) g0.1 a1).1 = a2)) (
     O.bind (F_eth_Tag.S k a3 (-1 : Int)) fun r1 =>
     .ok r1) (
     O.bind (F_eth_Tag.S k a3 a2) fun r2 =>
     .ok r2)))
theorem eq (k : Nat) (a1 : Int) (a2 : Int) (a3 : ByteArray) (g0 : (List (Int × List Int)) × (List (List ByteArray × Int × Int)) × (Int × Int × Int × Int × Int × Int)) (g1 : Int × Int × TY0) : evFn (T := ByteArray × Int) tab (calOf (cal k)) Go.Proofs.Tryz.f27 nt k 2 [.ptr 0 0, .int .i64 a1, .int .i64 a2, .str a3] [] ⟨7, false, [(1, .cells 124 [.int .i64 g1.1, .int .i64 g1.2.1, .mp 6]), (6, .map 122 true true [.int .i64, .str] [.int .i64, .str, .int .i64, .int .i64] g1.2.2), (0, .cells 66 [.osl 3, .ptr 1 0, .osl 5, .int .i64 g0.2.2.1, .int .i64 g0.2.2.2.1, .int .i64 g0.2.2.2.2.1, .int .i64 g0.2.2.2.2.2.1, .int .i64 g0.2.2.2.2.2.2.1, .int .i64 g0.2.2.2.2.2.2.2]), (5, .tab true 78 [] 4 (.one (.box 129 (.cons (.row true 9 [.str]) (.cons (.leaf (.int .i64)) (.one (.leaf (.int .i64)) [])))) []) g0.2.1), (4, .ghost), (3, .tab false 58 [] 2 (.cons (.leaf (.int .i64)) (.one (.row false 3 [.int .i64]) [])) g0.1), (2, .ghost)]⟩ (fun v st => ifb st.dirty .no (outK [] [] ct.outs v st .ok)) (fun e st => ifb st.dirty .no (outP [] [] ct.outs e st .ok)) = S k a1 a2 a3 g0 g1 := by kernel_rfl
theorem ok (k : Nat) : FnOkR Tryz.prog 27 ct (fun (x : Int × Int × ByteArray) (g : TY2 × TY3) => S k x.1 x.2.1 x.2.2 g.1 g.2) :=
 FnOkR.of_ev (C := ct) tab_ok rfl (calOf_ok (cal_ok k)) mixed Tryz.func27 nt k (fun _ _ => rfl) (fun (x : Int × Int × ByteArray) (g : TY2 × TY3) => eq k x.1 x.2.1 x.2.2 g.1 g.2)
theorem hd {T : Type} (k : Nat) : HdOk Tryz.prog 27 (pureR (T := T) ct [.arg 0 0, .fld 0 1] (fun (x : Int × Int × ByteArray) (g : TY2 × TY3) => S k x.1 x.2.1 x.2.2 g.1 g.2)) :=
 pureR_ok rfl [.arg 0 0, .fld 0 1] (ok k) Tryz.call27
end F_bridge_Bridge_leaves
end Go.Proofs.YtkihcmcaignmkaaGreat
end
