/- Texts of this proof, joined (3 of them): BS2, BS3, BS4.
   Conditions: none but those that stand at each theorem. -/
import Derived.Test.YtpfddjdkafjjfaaBM4
section
namespace Go.Proofs.Ytpfddjdkafjjfaa
open Go.Aq
set_option linter.unusedVariables false
set_option maxRecDepth 100000
namespace F_drvq_Queue_may
noncomputable def ct : Ct := ⟨.some (.pin (.ref 0) (.one (.row false 56 [.int .i64, .int .i64, .bool]) [])), [(95, .pin (.ref 1) (.cons (.agg (.cons (.leaf (.int .i64)) (.cons (.leaf (.int .i64)) (.cons (.leaf (.int .i64)) (.one (.leaf (.int .i64)) []))))) (.cons (.agg (.cons (.leaf (.int .i64)) (.one (.leaf .bool) []))) (.cons (.agg (.cons (.leaf (.int .i64)) (.one (.leaf .bool) []))) (.cons (.agg (.cons (.leaf (.int .i64)) (.one (.leaf .bool) []))) (.cons (.leaf (.int .i64)) (.cons (.leaf (.int .i64)) (.one (.map 93 false false [.int .i64] [.int .i64]) [])))))))), (92, .cons (.row true 5 [.int .u8]) (.cons (.leaf (.int .i64)) (.one (.row true 121 [.int .i64, .int .i64, .int .i64, .bool]) [])))], [⟨.val (.leaf (.int .i64)), [], []⟩]⟩
noncomputable def nt : Notes := ⟨[(4, ⟨[0, 1, 15, 16, 17], []⟩)], [], [(6, [0, 1, 2, 3, 4, 5, 6, 7, 8, 9, 10, 11, 12, 13, 14, 15, 16, 17, 18, 19, 20, 21, 22, 23, 24, 25, 26, 27, 28, 29, 30, 31])], [], []⟩
noncomputable def cal0 {T : Type} (k : Nat) : List (FuncId × Hd T) := [(45, pureR F_gmem_Memory_May.ct [.arg 0 0] (fun (x : Int × Int) (g : List Int × Int × TY1) => F_gmem_Memory_May.S k x.1 x.2 g))]
theorem cal0_ok {T : Type} (k : Nat) : HdsOk Try.prog (cal0 (T := T) k) := ⟨F_gmem_Memory_May.hd k, trivial⟩
noncomputable def cal {T : Type} (k : Nat) : List (FuncId × Hd T) := cal0 k
theorem cal_ok {T : Type} (k : Nat) : HdsOk Try.prog (cal (T := T) k) := cal0_ok k
noncomputable abbrev la (k : Nat) (Rs : List (Fr → St → O TY2)) (ds : List Dir) (j : Nat) : Fr → St → O TY2 := loopAt tab (calOf (cal k)) Go.Proofs.Try.f37.ntmps nt k Rs ds (bodyOf Go.Proofs.Try.f37) (finK tab Go.Proofs.Try.f37.results.toList (fun v st => outK ct.ob (γ0 ct) ct.outs v st .ok) (fun e st => outP ct.ob (γ0 ct) ct.outs e st .ok)) j
noncomputable abbrev zl0 {α : Type} (X : Fr → St → α) (a1 : List (Int × Int × Bool)) (g0 : TY6 × (Int × Bool) × (Int × Bool) × (Int × Bool) × Int × Int × TY7) (g1 : List Int × Int × TY1) (v2 : Int) : α := X ⟨[(0, .ptr 0 0), (1, .osl 2), (15, .osl 2), (16, .int .i64 (List.length a1 : Int)), (17, .int .i64 v2)], [], 2, []⟩ ⟨6, true, [(2, .row false 56 [.int .i64, .int .i64, .bool] a1), (3, .map 93 false false [.int .i64] [.int .i64] g0.2.2.2.2.2.2), (4, .row true 5 [.int .u8] g1.1), (5, .row true 121 [.int .i64, .int .i64, .int .i64, .bool] g1.2.2), (0, .cells 95 [.ptr 1 0, .int .i64 g0.1.1, .int .i64 g0.1.2.1, .int .i64 g0.1.2.2.1, .int .i64 g0.1.2.2.2, .int .i64 g0.2.1.1, .bool g0.2.1.2, .int .i64 g0.2.2.1.1, .bool g0.2.2.1.2, .int .i64 g0.2.2.2.1.1, .bool g0.2.2.2.1.2, .int .i64 g0.2.2.2.2.1, .int .i64 g0.2.2.2.2.2.1, .mp 3]), (1, .cells 92 [.osl 4, .int .i64 g1.2.1, .osl 5])]⟩
noncomputable def l0_b (k : Nat) (a1 : List (Int × Int × Bool)) (g0 : TY6 × (Int × Bool) × (Int × Bool) × (Int × Bool) × Int × Int × TY7) (g1 : List Int × Int × TY1) (R_l0 : Int → O TY2) (v2 : Int) : O TY2 :=
  O.cond (decide (v2 < (List.length a1 : Int))) (
   O.chk (decide (0 ≤ v2 ∧ v2 < (List.length a1 : Int) ∧ (List.length a1 : Int) ≤ (List.length a1 : Int))) (
    O.chk (decide (0 ≤ v2 ∧ v2 < (List.length a1 : Int))) (
     O.cond (decide ((gt ((0 : Int), (0 : Int), false) a1 v2).2.1 < (1 : Int))) (
      .ok ((150 : Int), (g0, g1))) (
      O.bind (F_gmem_Memory_May.S k ((gt ((0 : Int), (0 : Int), false) a1 v2).1) ((gt ((0 : Int), (0 : Int), false) a1 v2).2.1) g1) fun r4 =>
      O.cond (!r4) (
       .ok ((150 : Int), (g0, g1))) (
       O.cond (decide (v2 > (0 : Int))) (
        O.chk (decide (0 ≤ (IntKind.i64.wrap (v2 - (1 : Int))) ∧ (IntKind.i64.wrap (v2 - (1 : Int))) < (List.length a1 : Int) ∧ (List.length a1 : Int) ≤ (List.length a1 : Int))) (
         O.chk (decide (0 ≤ (IntKind.i64.wrap (v2 - (1 : Int))) ∧ (IntKind.i64.wrap (v2 - (1 : Int))) < (List.length a1 : Int))) (
          O.cond ((gt ((0 : Int), (0 : Int), false) a1 (IntKind.i64.wrap (v2 - (1 : Int)))).2.2) (
           O.cond (!((gt ((0 : Int), (0 : Int), false) a1 v2).2.2)) (
            .ok ((150 : Int), (g0, g1))) (
            R_l0 (IntKind.i64.wrap (v2 + (1 : Int))))) (
           R_l0 (IntKind.i64.wrap (v2 + (1 : Int))))))) (
        R_l0 (IntKind.i64.wrap (v2 + (1 : Int))))))))) (
   O.cond (decide ((List.length a1 : Int) > g0.2.2.2.2.2.1)) (
    .ok ((151 : Int), (g0, g1))) (
    .ok ((0 : Int), (g0, g1))))
noncomputable def l0 (k : Nat) (a1 : List (Int × Int × Bool)) (g0 : TY6 × (Int × Bool) × (Int × Bool) × (Int × Bool) × Int × Int × TY7) (g1 : List Int × Int × TY1) : Nat → Int → O TY2
 | 0, _ => .no
 | j + 1, v2 => l0_b k a1 g0 g1 (l0 k a1 g0 g1 j) v2
theorem l0_eq (k : Nat) (a1 : List (Int × Int × Bool)) (g0 : TY6 × (Int × Bool) × (Int × Bool) × (Int × Bool) × Int × Int × TY7) (g1 : List Int × Int × TY1) : ∀ (j : Nat) (v2 : Int), zl0 (la k [] [.r, .r, .l, .r, .b] j) a1 g0 g1 v2 = l0 k a1 g0 g1 j v2 := by
 intro j
 induction j with
 | zero => intro v2; rfl
 | succ j ih =>
  intro v2
  have rs : (fun (v2' : Int) => zl0 (la k [] [.r, .r, .l, .r, .b] j) a1 g0 g1 v2') = l0 k a1 g0 g1 j := by funext v2'; exact ih v2'
  have h : zl0 (la k [] [.r, .r, .l, .r, .b] (j + 1)) a1 g0 g1 v2 = l0_b k a1 g0 g1 ((fun (v2' : Int) => zl0 (la k [] [.r, .r, .l, .r, .b] j) a1 g0 g1 v2')) v2 := by kernel_rfl
  exact h.trans (by rw [rs]; rfl)
noncomputable def top (k : Nat) (a1 : List (Int × Int × Bool)) (g0 : TY6 × (Int × Bool) × (Int × Bool) × (Int × Bool) × Int × Int × TY7) (g1 : List Int × Int × TY1) (D_l0 : Int → O TY2) : O TY2 :=
  O.cond (decide ((List.length a1 : Int) = (0 : Int))) (
   .ok ((150 : Int), (g0, g1))) (
   O.cond (decide ((List.length a1 : Int) > (64 : Int))) (
    .ok ((150 : Int), (g0, g1))) (
    D_l0 (0 : Int)))
noncomputable def S (k : Nat) (a1 : List (Int × Int × Bool)) (g0 : TY6 × (Int × Bool) × (Int × Bool) × (Int × Bool) × Int × Int × TY7) (g1 : List Int × Int × TY1) : O TY2 := top k a1 g0 g1 ((fun (v2 : Int) => l0 k a1 g0 g1 k v2))
theorem eq (k : Nat) (a1 : List (Int × Int × Bool)) (g0 : TY6 × (Int × Bool) × (Int × Bool) × (Int × Bool) × Int × Int × TY7) (g1 : List Int × Int × TY1) : evFn (T := Int × TY3 × TY4) tab (calOf (cal k)) Go.Proofs.Try.f37 nt k 2 [.ptr 0 0, .osl 5] [] ⟨6, false, [(5, .row false 56 [.int .i64, .int .i64, .bool] a1), (1, .cells 92 [.osl 3, .int .i64 g1.2.1, .osl 4]), (4, .row true 121 [.int .i64, .int .i64, .int .i64, .bool] g1.2.2), (3, .row true 5 [.int .u8] g1.1), (0, .cells 95 [.ptr 1 0, .int .i64 g0.1.1, .int .i64 g0.1.2.1, .int .i64 g0.1.2.2.1, .int .i64 g0.1.2.2.2, .int .i64 g0.2.1.1, .bool g0.2.1.2, .int .i64 g0.2.2.1.1, .bool g0.2.2.1.2, .int .i64 g0.2.2.2.1.1, .bool g0.2.2.2.1.2, .int .i64 g0.2.2.2.2.1, .int .i64 g0.2.2.2.2.2.1, .mp 2]), (2, .map 93 false false [.int .i64] [.int .i64] g0.2.2.2.2.2.2)]⟩ (fun v st => outK ct.ob (γ0 ct) ct.outs v st .ok) (fun e st => outP ct.ob (γ0 ct) ct.outs e st .ok) = S k a1 g0 g1 := by
 have e0 : (fun (v2 : Int) => zl0 (la k [] [.r, .r, .l, .r, .b] k) a1 g0 g1 v2) = (fun (v2 : Int) => l0 k a1 g0 g1 k v2) := by funext v2; exact l0_eq k a1 g0 g1 k v2
 have h : evFn (T := Int × TY3 × TY4) tab (calOf (cal k)) Go.Proofs.Try.f37 nt k 2 [.ptr 0 0, .osl 5] [] ⟨6, false, [(5, .row false 56 [.int .i64, .int .i64, .bool] a1), (1, .cells 92 [.osl 3, .int .i64 g1.2.1, .osl 4]), (4, .row true 121 [.int .i64, .int .i64, .int .i64, .bool] g1.2.2), (3, .row true 5 [.int .u8] g1.1), (0, .cells 95 [.ptr 1 0, .int .i64 g0.1.1, .int .i64 g0.1.2.1, .int .i64 g0.1.2.2.1, .int .i64 g0.1.2.2.2, .int .i64 g0.2.1.1, .bool g0.2.1.2, .int .i64 g0.2.2.1.1, .bool g0.2.2.1.2, .int .i64 g0.2.2.2.1.1, .bool g0.2.2.2.1.2, .int .i64 g0.2.2.2.2.1, .int .i64 g0.2.2.2.2.2.1, .mp 2]), (2, .map 93 false false [.int .i64] [.int .i64] g0.2.2.2.2.2.2)]⟩ (fun v st => outK ct.ob (γ0 ct) ct.outs v st .ok) (fun e st => outP ct.ob (γ0 ct) ct.outs e st .ok) = top k a1 g0 g1 ((fun (v2 : Int) => zl0 (la k [] [.r, .r, .l, .r, .b] k) a1 g0 g1 v2)) := by kernel_rfl
 exact h.trans (by rw [e0]; rfl)
theorem ok (k : Nat) : FnOkC Try.prog 37 ct (fun (x : List (Int × Int × Bool)) (g : TY3 × TY4) => S k x g.1 g.2) :=
 FnOkC.of_ev (C := ct) tab_ok rfl (calOf_ok (cal_ok k)) mixed Try.func37 nt k (fun _ _ => rfl) (fun (x : List (Int × Int × Bool)) (g : TY3 × TY4) => eq k x g.1 g.2)
theorem hd {T : Type} (k : Nat) : HdOk Try.prog 37 (pureC (T := T) ct [.arg 0 0, .fld 0 0] (fun (x : List (Int × Int × Bool)) (g : TY3 × TY4) => S k x g.1 g.2)) :=
 pureC_ok rfl [.arg 0 0, .fld 0 0] (ok k) Try.call37
end F_drvq_Queue_may
namespace F_desc_Mark
noncomputable def ct : Ct := ⟨.some (.cons (.leaf (.int .i64)) (.cons (.leaf .bool) (.one (.leaf .bool) []))), [], [⟨.val (.leaf (.int .i64)), [], []⟩]⟩
noncomputable def nt : Notes := ⟨[], [], [], [], []⟩
noncomputable def cal0 {T : Type} (k : Nat) : List (FuncId × Hd T) := []
theorem cal0_ok {T : Type} (k : Nat) : HdsOk Try.prog (cal0 (T := T) k) := trivial
noncomputable def cal {T : Type} (k : Nat) : List (FuncId × Hd T) := cal0 k
theorem cal_ok {T : Type} (k : Nat) : HdsOk Try.prog (cal (T := T) k) := cal0_ok k
noncomputable def S (k : Nat) (a0 : Int) (a1 : Bool) (a2 : Bool) : O Int :=
  O.cond a1 (
   O.cond (decide (a1 = a2)) (
    .ok (bOr .i64 (bOr .i64 (bAndNot .i64 a0 (32896 : Int)) (128 : Int)) (32768 : Int))) (
    .ok (bOr .i64 (bAndNot .i64 a0 (32896 : Int)) (128 : Int)))) (
   O.cond (decide (a1 = a2)) (
    .ok (bOr .i64 (bAndNot .i64 a0 (32896 : Int)) (32768 : Int))) (
    .ok (bAndNot .i64 a0 (32896 : Int))))
theorem eq (k : Nat) (a0 : Int) (a1 : Bool) (a2 : Bool) : evFn (T := Int) tab (calOf (cal k)) Go.Proofs.Try.f39 nt k 0 [.int .i64 a0, .bool a1, .bool a2] [] ⟨0, false, []⟩ (fun v st => outK ct.ob (γ0 ct) ct.outs v st .ok) (fun e st => outP ct.ob (γ0 ct) ct.outs e st .ok) = S k a0 a1 a2 := by kernel_rfl
theorem ok (k : Nat) : FnOkC Try.prog 39 ct (fun (x : Int × Bool × Bool) (_ : Unit) => S k x.1 x.2.1 x.2.2) :=
 FnOkC.of_ev (C := ct) tab_ok rfl (calOf_ok (cal_ok k)) mixed Try.func39 nt k (fun _ _ => rfl) (fun (x : Int × Bool × Bool) (_ : Unit) => eq k x.1 x.2.1 x.2.2)
theorem hd {T : Type} (k : Nat) : HdOk Try.prog 39 (pureC (T := T) ct [] (fun (x : Int × Bool × Bool) (_ : Unit) => S k x.1 x.2.1 x.2.2)) :=
 pureC_ok rfl [] (ok k) Try.call39
end F_desc_Mark
namespace F_gmem_sized
noncomputable def ct : Ct := ⟨.some (.one (.leaf (.int .i64)) []), [], [⟨.val (.leaf .bool), [], []⟩]⟩
noncomputable def nt : Notes := ⟨[], [], [], [], []⟩
noncomputable def cal0 {T : Type} (k : Nat) : List (FuncId × Hd T) := []
theorem cal0_ok {T : Type} (k : Nat) : HdsOk Try.prog (cal0 (T := T) k) := trivial
noncomputable def cal {T : Type} (k : Nat) : List (FuncId × Hd T) := cal0 k
theorem cal_ok {T : Type} (k : Nat) : HdsOk Try.prog (cal (T := T) k) := cal0_ok k
noncomputable def S (k : Nat) (a0 : Int) : O Bool :=
  O.cond (decide (a0 = (1 : Int))) (
   .ok true) (
   O.cond (decide (a0 = (2 : Int))) (
    .ok true) (
    O.cond (decide (a0 = (4 : Int))) (
     .ok true) (
     .ok (decide (a0 = (8 : Int))))))
theorem eq (k : Nat) (a0 : Int) : evFn (T := Bool) tab (calOf (cal k)) Go.Proofs.Try.f65 nt k 0 [.int .i64 a0] [] ⟨0, false, []⟩ (fun v st => outK ct.ob (γ0 ct) ct.outs v st .ok) (fun e st => outP ct.ob (γ0 ct) ct.outs e st .ok) = S k a0 := by kernel_rfl
theorem ok (k : Nat) : FnOkC Try.prog 65 ct (fun (x : Int) (_ : Unit) => S k x) :=
 FnOkC.of_ev (C := ct) tab_ok rfl (calOf_ok (cal_ok k)) mixed Try.func65 nt k (fun _ _ => rfl) (fun (x : Int) (_ : Unit) => eq k x)
theorem hd {T : Type} (k : Nat) : HdOk Try.prog 65 (pureC (T := T) ct [] (fun (x : Int) (_ : Unit) => S k x)) :=
 pureC_ok rfl [] (ok k) Try.call65
end F_gmem_sized
namespace F_words_may
noncomputable def ct : Ct := ⟨.some (.cons (.leaf (.int .u64)) (.one (.leaf (.int .i64)) [])), [], [⟨.val (.leaf .bool), [], []⟩]⟩
noncomputable def nt : Notes := ⟨[], [], [], [], []⟩
noncomputable def cal0 {T : Type} (k : Nat) : List (FuncId × Hd T) := []
theorem cal0_ok {T : Type} (k : Nat) : HdsOk Try.prog (cal0 (T := T) k) := trivial
noncomputable def cal {T : Type} (k : Nat) : List (FuncId × Hd T) := cal0 k
theorem cal_ok {T : Type} (k : Nat) : HdsOk Try.prog (cal (T := T) k) := cal0_ok k
noncomputable def S (k : Nat) (a0 : Int) (a1 : Int) : O Bool :=
  O.cond (decide (a1 ≥ (1 : Int))) (
   O.cond (decide (a1 ≤ (8 : Int))) (
    O.cond (decide (a1 = (8 : Int))) (
     .ok true) (
     O.chk (decide (0 ≤ (IntKind.i64.wrap ((8 : Int) * a1)))) (
      .ok (decide ((shR .u64 a0 (IntKind.i64.wrap ((8 : Int) * a1))) = (0 : Int)))))) (
    .ok false)) (
   .ok false)
theorem eq (k : Nat) (a0 : Int) (a1 : Int) : evFn (T := Bool) tab (calOf (cal k)) Go.Proofs.Try.f85 nt k 0 [.int .u64 a0, .int .i64 a1] [] ⟨0, false, []⟩ (fun v st => outK ct.ob (γ0 ct) ct.outs v st .ok) (fun e st => outP ct.ob (γ0 ct) ct.outs e st .ok) = S k a0 a1 := by kernel_rfl
theorem ok (k : Nat) : FnOkC Try.prog 85 ct (fun (x : Int × Int) (_ : Unit) => S k x.1 x.2) :=
 FnOkC.of_ev (C := ct) tab_ok rfl (calOf_ok (cal_ok k)) mixed Try.func85 nt k (fun _ _ => rfl) (fun (x : Int × Int) (_ : Unit) => eq k x.1 x.2)
theorem hd {T : Type} (k : Nat) : HdOk Try.prog 85 (pureC (T := T) ct [] (fun (x : Int × Int) (_ : Unit) => S k x.1 x.2)) :=
 pureC_ok rfl [] (ok k) Try.call85
end F_words_may
namespace F_words_Turn
noncomputable def ct : Ct := ⟨.some (.one (.leaf .str) []), [], [⟨.val (.leaf .str), [], []⟩]⟩
noncomputable def nt : Notes := ⟨[(3, ⟨[0, 3, 9, 10], []⟩)], [], [], [], []⟩
noncomputable def cal0 {T : Type} (k : Nat) : List (FuncId × Hd T) := []
theorem cal0_ok {T : Type} (k : Nat) : HdsOk Try.prog (cal0 (T := T) k) := trivial
noncomputable def cal {T : Type} (k : Nat) : List (FuncId × Hd T) := cal0 k
theorem cal_ok {T : Type} (k : Nat) : HdsOk Try.prog (cal (T := T) k) := cal0_ok k
noncomputable abbrev la (k : Nat) (Rs : List (Fr → St → O (ByteArray))) (ds : List Dir) (j : Nat) : Fr → St → O (ByteArray) := loopAt tab (calOf (cal k)) Go.Proofs.Try.f86.ntmps nt k Rs ds (bodyOf Go.Proofs.Try.f86) (finK tab Go.Proofs.Try.f86.results.toList (fun v st => outK ct.ob (γ0 ct) ct.outs v st .ok) (fun e st => outP ct.ob (γ0 ct) ct.outs e st .ok)) j
noncomputable abbrev zl0 {α : Type} (X : Fr → St → α) (a0 : ByteArray) (v1 : Int) (v2 : List Int) : α := X ⟨[(0, .str a0), (3, .osl 0), (9, .int .i64 (ByteArray.size a0 : Int)), (10, .int .i64 v1)], [], 0, []⟩ ⟨1, true, [(0, .row true 5 [.int .u8] v2)]⟩
noncomputable def l0_b (k : Nat) (a0 : ByteArray) (R_l0 : Int → (List Int) → O ByteArray) (v1 : Int) (v2 : List Int) : O ByteArray :=
  O.cond (decide (v1 < (ByteArray.size a0 : Int))) (
   O.chk (decide (0 ≤ v1 ∧ v1 < (ByteArray.size a0 : Int))) (
    O.chk (decide (0 ≤ (IntKind.i64.wrap ((IntKind.i64.wrap ((ByteArray.size a0 : Int) - (1 : Int))) - v1)) ∧ (IntKind.i64.wrap ((IntKind.i64.wrap ((ByteArray.size a0 : Int) - (1 : Int))) - v1)) < (List.length v2 : Int) ∧ (List.length v2 : Int) ≤ (List.length v2 : Int))) (
     O.chk (decide (0 ≤ (IntKind.i64.wrap ((IntKind.i64.wrap ((ByteArray.size a0 : Int) - (1 : Int))) - v1)) ∧ (IntKind.i64.wrap ((IntKind.i64.wrap ((ByteArray.size a0 : Int) - (1 : Int))) - v1)) < (List.length v2 : Int))) (
      R_l0 (IntKind.i64.wrap (v1 + (1 : Int))) (su v2 (IntKind.i64.wrap ((IntKind.i64.wrap ((ByteArray.size a0 : Int) - (1 : Int))) - v1)) (bt a0 v1)))))) (
   .ok (Go.Aq.strOf v2))
noncomputable def l0 (k : Nat) (a0 : ByteArray) : Nat → Int → (List Int) → O ByteArray
 | 0, _, _ => .no
 | j + 1, v1, v2 => l0_b k a0 (l0 k a0 j) v1 v2
theorem l0_eq (k : Nat) (a0 : ByteArray) : ∀ (j : Nat) (v1 : Int) (v2 : List Int), zl0 (la k [] [.r, .r, .l, .r, .b] j) a0 v1 v2 = l0 k a0 j v1 v2 := by
 intro j
 induction j with
 | zero => intro v1 v2; rfl
 | succ j ih =>
  intro v1 v2
  have rs : (fun (v1' : Int) (v2' : List Int) => zl0 (la k [] [.r, .r, .l, .r, .b] j) a0 v1' v2') = l0 k a0 j := by funext v1' v2'; exact ih v1' v2'
  have h : zl0 (la k [] [.r, .r, .l, .r, .b] (j + 1)) a0 v1 v2 = l0_b k a0 ((fun (v1' : Int) (v2' : List Int) => zl0 (la k [] [.r, .r, .l, .r, .b] j) a0 v1' v2')) v1 v2 := by kernel_rfl
  exact h.trans (by rw [rs]; rfl)
noncomputable def top (k : Nat) (a0 : ByteArray) (D_l0 : Int → (List Int) → O ByteArray) : O ByteArray :=
  O.chk (decide (0 ≤ (ByteArray.size a0 : Int) ∧ (ByteArray.size a0 : Int) = (ByteArray.size a0 : Int) ∧ (ByteArray.size a0 : Int) ≤ 1073741824)) (
   D_l0 (0 : Int) (List.replicate (ByteArray.size a0 : Int).toNat (0 : Int)))
noncomputable def S (k : Nat) (a0 : ByteArray) : O ByteArray := top k a0 ((fun (v1 : Int) (v2 : List Int) => l0 k a0 k v1 v2))
theorem eq (k : Nat) (a0 : ByteArray) : evFn (T := ByteArray) tab (calOf (cal k)) Go.Proofs.Try.f86 nt k 0 [.str a0] [] ⟨0, false, []⟩ (fun v st => outK ct.ob (γ0 ct) ct.outs v st .ok) (fun e st => outP ct.ob (γ0 ct) ct.outs e st .ok) = S k a0 := by
 have e0 : (fun (v1 : Int) (v2 : List Int) => zl0 (la k [] [.r, .r, .l, .r, .b] k) a0 v1 v2) = (fun (v1 : Int) (v2 : List Int) => l0 k a0 k v1 v2) := by funext v1 v2; exact l0_eq k a0 k v1 v2
 have h : evFn (T := ByteArray) tab (calOf (cal k)) Go.Proofs.Try.f86 nt k 0 [.str a0] [] ⟨0, false, []⟩ (fun v st => outK ct.ob (γ0 ct) ct.outs v st .ok) (fun e st => outP ct.ob (γ0 ct) ct.outs e st .ok) = top k a0 ((fun (v1 : Int) (v2 : List Int) => zl0 (la k [] [.r, .r, .l, .r, .b] k) a0 v1 v2)) := by kernel_rfl
 exact h.trans (by rw [e0]; rfl)
theorem ok (k : Nat) : FnOkC Try.prog 86 ct (fun (x : ByteArray) (_ : Unit) => S k x) :=
 FnOkC.of_ev (C := ct) tab_ok rfl (calOf_ok (cal_ok k)) mixed Try.func86 nt k (fun _ _ => rfl) (fun (x : ByteArray) (_ : Unit) => eq k x)
theorem hd {T : Type} (k : Nat) : HdOk Try.prog 86 (pureC (T := T) ct [] (fun (x : ByteArray) (_ : Unit) => S k x)) :=
 pureC_ok rfl [] (ok k) Try.call86
end F_words_Turn
namespace F_words_Put
noncomputable def ct : Ct := ⟨.some (.cons (.leaf (.int .u64)) (.cons (.leaf (.int .i64)) (.one (.leaf .bool) []))), [], [⟨.tup (.cons (.leaf .str) (.one (.leaf (.int .i64)) [])), [], []⟩]⟩
noncomputable def nt : Notes := ⟨[(5, ⟨[0, 1, 2, 8, 16, 17], []⟩)], [], [], [], []⟩
noncomputable def cal0 {T : Type} (k : Nat) : List (FuncId × Hd T) := [(85, pureC F_words_may.ct [] (fun (x : Int × Int) (_ : Unit) => F_words_may.S k x.1 x.2)), (86, pureC F_words_Turn.ct [] (fun (x : ByteArray) (_ : Unit) => F_words_Turn.S k x))]
theorem cal0_ok {T : Type} (k : Nat) : HdsOk Try.prog (cal0 (T := T) k) := ⟨F_words_may.hd k, F_words_Turn.hd k, trivial⟩
noncomputable def cal {T : Type} (k : Nat) : List (FuncId × Hd T) := cal0 k
theorem cal_ok {T : Type} (k : Nat) : HdsOk Try.prog (cal (T := T) k) := cal0_ok k
noncomputable abbrev la (k : Nat) (Rs : List (Fr → St → O (ByteArray × Int))) (ds : List Dir) (j : Nat) : Fr → St → O (ByteArray × Int) := loopAt tab (calOf (cal k)) Go.Proofs.Try.f66.ntmps nt k Rs ds (bodyOf Go.Proofs.Try.f66) (finK tab Go.Proofs.Try.f66.results.toList (fun v st => outK ct.ob (γ0 ct) ct.outs v st .ok) (fun e st => outP ct.ob (γ0 ct) ct.outs e st .ok)) j
noncomputable abbrev zl0 {α : Type} (X : Fr → St → α) (a0 : Int) (a1 : Int) (a2 : Bool) (v2 : Int) (v3 : List Int) : α := X ⟨[(0, .int .u64 a0), (1, .int .i64 a1), (2, .bool a2), (8, .osl 0), (16, .int .i64 a1), (17, .int .i64 v2)], [], 0, []⟩ ⟨1, true, [(0, .row true 5 [.int .u8] v3)]⟩
noncomputable def l0_b (k : Nat) (a0 : Int) (a1 : Int) (a2 : Bool) (R_l0 : Int → (List Int) → O (ByteArray × Int)) (v2 : Int) (v3 : List Int) : O (ByteArray × Int) :=
  O.cond (decide (v2 < a1)) (
   O.chk (decide (0 ≤ (IntKind.i64.wrap ((8 : Int) * v2)))) (
    O.chk (decide (0 ≤ (IntKind.i64.wrap ((IntKind.i64.wrap (a1 - (1 : Int))) - v2)) ∧ (IntKind.i64.wrap ((IntKind.i64.wrap (a1 - (1 : Int))) - v2)) < (List.length v3 : Int) ∧ (List.length v3 : Int) ≤ (List.length v3 : Int))) (
     O.chk (decide (0 ≤ (IntKind.i64.wrap ((IntKind.i64.wrap (a1 - (1 : Int))) - v2)) ∧ (IntKind.i64.wrap ((IntKind.i64.wrap (a1 - (1 : Int))) - v2)) < (List.length v3 : Int))) (
      R_l0 (IntKind.i64.wrap (v2 + (1 : Int))) (su v3 (IntKind.i64.wrap ((IntKind.i64.wrap (a1 - (1 : Int))) - v2)) (IntKind.u8.wrap (shR .u64 a0 (IntKind.i64.wrap ((8 : Int) * v2))))))))) (
   O.cond (!a2) (
    O.bind (F_words_Turn.S k (Go.Aq.strOf v3)) fun r4 =>
    .ok (r4, (0 : Int))) (
    .ok ((Go.Aq.strOf v3), (0 : Int))))
noncomputable def l0 (k : Nat) (a0 : Int) (a1 : Int) (a2 : Bool) : Nat → Int → (List Int) → O (ByteArray × Int)
 | 0, _, _ => .no
 | j + 1, v2, v3 => l0_b k a0 a1 a2 (l0 k a0 a1 a2 j) v2 v3
theorem l0_eq (k : Nat) (a0 : Int) (a1 : Int) (a2 : Bool) : ∀ (j : Nat) (v2 : Int) (v3 : List Int), zl0 (la k [] [.r, .r, .r, .l, .r, .b] j) a0 a1 a2 v2 v3 = l0 k a0 a1 a2 j v2 v3 := by
 intro j
 induction j with
 | zero => intro v2 v3; rfl
 | succ j ih =>
  intro v2 v3
  have rs : (fun (v2' : Int) (v3' : List Int) => zl0 (la k [] [.r, .r, .r, .l, .r, .b] j) a0 a1 a2 v2' v3') = l0 k a0 a1 a2 j := by funext v2' v3'; exact ih v2' v3'
  have h : zl0 (la k [] [.r, .r, .r, .l, .r, .b] (j + 1)) a0 a1 a2 v2 v3 = l0_b k a0 a1 a2 ((fun (v2' : Int) (v3' : List Int) => zl0 (la k [] [.r, .r, .r, .l, .r, .b] j) a0 a1 a2 v2' v3')) v2 v3 := by kernel_rfl
  exact h.trans (by rw [rs]; rfl)
noncomputable def top (k : Nat) (a0 : Int) (a1 : Int) (a2 : Bool) (D_l0 : Int → (List Int) → O (ByteArray × Int)) : O (ByteArray × Int) :=
  O.bind (F_words_may.S k a0 a1) fun r1 =>
  O.cond (!r1) (
   .ok ((⟨#[]⟩ : ByteArray), (1 : Int))) (
   O.chk (decide (0 ≤ a1 ∧ a1 = a1 ∧ a1 ≤ 1073741824)) (
    D_l0 (0 : Int) (List.replicate a1.toNat (0 : Int))))
noncomputable def S (k : Nat) (a0 : Int) (a1 : Int) (a2 : Bool) : O (ByteArray × Int) := top k a0 a1 a2 ((fun (v2 : Int) (v3 : List Int) => l0 k a0 a1 a2 k v2 v3))
theorem eq (k : Nat) (a0 : Int) (a1 : Int) (a2 : Bool) : evFn (T := ByteArray × Int) tab (calOf (cal k)) Go.Proofs.Try.f66 nt k 0 [.int .u64 a0, .int .i64 a1, .bool a2] [] ⟨0, false, []⟩ (fun v st => outK ct.ob (γ0 ct) ct.outs v st .ok) (fun e st => outP ct.ob (γ0 ct) ct.outs e st .ok) = S k a0 a1 a2 := by
 have e0 : (fun (v2 : Int) (v3 : List Int) => zl0 (la k [] [.r, .r, .r, .l, .r, .b] k) a0 a1 a2 v2 v3) = (fun (v2 : Int) (v3 : List Int) => l0 k a0 a1 a2 k v2 v3) := by funext v2 v3; exact l0_eq k a0 a1 a2 k v2 v3
 have h : evFn (T := ByteArray × Int) tab (calOf (cal k)) Go.Proofs.Try.f66 nt k 0 [.int .u64 a0, .int .i64 a1, .bool a2] [] ⟨0, false, []⟩ (fun v st => outK ct.ob (γ0 ct) ct.outs v st .ok) (fun e st => outP ct.ob (γ0 ct) ct.outs e st .ok) = top k a0 a1 a2 ((fun (v2 : Int) (v3 : List Int) => zl0 (la k [] [.r, .r, .r, .l, .r, .b] k) a0 a1 a2 v2 v3)) := by kernel_rfl
 exact h.trans (by rw [e0]; rfl)
theorem ok (k : Nat) : FnOkC Try.prog 66 ct (fun (x : Int × Int × Bool) (_ : Unit) => S k x.1 x.2.1 x.2.2) :=
 FnOkC.of_ev (C := ct) tab_ok rfl (calOf_ok (cal_ok k)) mixed Try.func66 nt k (fun _ _ => rfl) (fun (x : Int × Int × Bool) (_ : Unit) => eq k x.1 x.2.1 x.2.2)
theorem hd {T : Type} (k : Nat) : HdOk Try.prog 66 (pureC (T := T) ct [] (fun (x : Int × Int × Bool) (_ : Unit) => S k x.1 x.2.1 x.2.2)) :=
 pureC_ok rfl [] (ok k) Try.call66
end F_words_Put
namespace F_gmem_Memory_Store
noncomputable def ct : Ct := ⟨.some (.pin (.ref 0) (.cons (.leaf (.int .i64)) (.cons (.leaf (.int .i64)) (.one (.leaf (.int .u64)) [])))), [(92, .cons (.row true 5 [.int .u8]) (.cons (.leaf (.int .i64)) (.one (.row true 121 [.int .i64, .int .i64, .int .i64, .bool]) [])))], [⟨.val (.leaf (.int .i64)), [], []⟩]⟩
noncomputable def nt : Notes := ⟨[], [], [], [], []⟩
noncomputable def cal0 {T : Type} (k : Nat) : List (FuncId × Hd T) := [(16, pureC F_gmem_Memory_Write.ct [.arg 0 0] (fun (x : Int × ByteArray) (g : List Int × Int × TY1) => F_gmem_Memory_Write.S k x.1 x.2 g)), (65, pureC F_gmem_sized.ct [] (fun (x : Int) (_ : Unit) => F_gmem_sized.S k x)), (66, pureC F_words_Put.ct [] (fun (x : Int × Int × Bool) (_ : Unit) => F_words_Put.S k x.1 x.2.1 x.2.2))]
theorem cal0_ok {T : Type} (k : Nat) : HdsOk Try.prog (cal0 (T := T) k) := ⟨F_gmem_Memory_Write.hd k, F_gmem_sized.hd k, F_words_Put.hd k, trivial⟩
noncomputable def cal {T : Type} (k : Nat) : List (FuncId × Hd T) := cal0 k
theorem cal_ok {T : Type} (k : Nat) : HdsOk Try.prog (cal (T := T) k) := cal0_ok k
noncomputable def S (k : Nat) (a1 : Int) (a2 : Int) (a3 : Int) (g0 : List Int × Int × TY1) : O (Int × List Int × Int × TY1) :=
  O.bind (F_gmem_sized.S k a2) fun r1 =>
  O.cond (!r1) (
   .ok ((1 : Int), g0)) (
   O.bind (F_words_Put.S k a3 a2 false) fun r2 =>
   O.cond (decide (r2.2 ≠ (0 : Int))) (
    .ok (r2.2, g0)) (
    O.bind (F_gmem_Memory_Write.S k a1 r2.1 g0) fun r3 =>
    .ok (r3.1, r3.2)))
theorem eq (k : Nat) (a1 : Int) (a2 : Int) (a3 : Int) (g0 : List Int × Int × TY1) : evFn (T := Int × List Int × Int × TY1) tab (calOf (cal k)) Go.Proofs.Try.f40 nt k 1 [.ptr 0 0, .int .i64 a1, .int .i64 a2, .int .u64 a3] [] ⟨3, false, [(0, .cells 92 [.osl 1, .int .i64 g0.2.1, .osl 2]), (2, .row true 121 [.int .i64, .int .i64, .int .i64, .bool] g0.2.2), (1, .row true 5 [.int .u8] g0.1)]⟩ (fun v st => outK ct.ob (γ0 ct) ct.outs v st .ok) (fun e st => outP ct.ob (γ0 ct) ct.outs e st .ok) = S k a1 a2 a3 g0 := by kernel_rfl
theorem ok (k : Nat) : FnOkC Try.prog 40 ct (fun (x : Int × Int × Int) (g : List Int × Int × TY1) => S k x.1 x.2.1 x.2.2 g) :=
 FnOkC.of_ev (C := ct) tab_ok rfl (calOf_ok (cal_ok k)) mixed Try.func40 nt k (fun _ _ => rfl) (fun (x : Int × Int × Int) (g : List Int × Int × TY1) => eq k x.1 x.2.1 x.2.2 g)
theorem hd {T : Type} (k : Nat) : HdOk Try.prog 40 (pureC (T := T) ct [.arg 0 0] (fun (x : Int × Int × Int) (g : List Int × Int × TY1) => S k x.1 x.2.1 x.2.2 g)) :=
 pureC_ok rfl [.arg 0 0] (ok k) Try.call40
end F_gmem_Memory_Store
namespace F_spot_Check
noncomputable def ct : Ct := ⟨.some (.cons (.agg (.cons (.leaf (.int .i64)) (.one (.leaf .bool) []))) (.one (.leaf (.int .i64)) [])), [], [⟨.val (.leaf (.int .i64)), [], []⟩]⟩
noncomputable def nt : Notes := ⟨[], [], [], [], []⟩
noncomputable def cal0 {T : Type} (k : Nat) : List (FuncId × Hd T) := []
theorem cal0_ok {T : Type} (k : Nat) : HdsOk Try.prog (cal0 (T := T) k) := trivial
noncomputable def cal {T : Type} (k : Nat) : List (FuncId × Hd T) := cal0 k
theorem cal_ok {T : Type} (k : Nat) : HdsOk Try.prog (cal (T := T) k) := cal0_ok k
noncomputable def S (k : Nat) (a0 : Int × Bool) (a1 : Int) : O Int :=
  O.cond (decide (a1 < (1 : Int))) (
   .ok (130 : Int)) (
   O.cond (decide (a1 > (32768 : Int))) (
    .ok (130 : Int)) (
    O.cond (decide (a0.1 < (0 : Int))) (
     .ok (1 : Int)) (
     O.cond (decide (a0.1 ≥ a1)) (
      .ok (1 : Int)) (
      .ok (0 : Int)))))
theorem eq (k : Nat) (a0 : Int × Bool) (a1 : Int) : evFn (T := Int) tab (calOf (cal k)) Go.Proofs.Try.f67 nt k 0 [.agg [.int .i64 a0.1, .bool a0.2], .int .i64 a1] [] ⟨0, false, []⟩ (fun v st => outK ct.ob (γ0 ct) ct.outs v st .ok) (fun e st => outP ct.ob (γ0 ct) ct.outs e st .ok) = S k a0 a1 := by kernel_rfl
theorem ok (k : Nat) : FnOkC Try.prog 67 ct (fun (x : (Int × Bool) × Int) (_ : Unit) => S k x.1 x.2) :=
 FnOkC.of_ev (C := ct) tab_ok rfl (calOf_ok (cal_ok k)) mixed Try.func67 nt k (fun _ _ => rfl) (fun (x : (Int × Bool) × Int) (_ : Unit) => eq k x.1 x.2)
theorem hd {T : Type} (k : Nat) : HdOk Try.prog 67 (pureC (T := T) ct [] (fun (x : (Int × Bool) × Int) (_ : Unit) => S k x.1 x.2)) :=
 pureC_ok rfl [] (ok k) Try.call67
end F_spot_Check
namespace F_spot_Next
noncomputable def ct : Ct := ⟨.some (.cons (.agg (.cons (.leaf (.int .i64)) (.one (.leaf .bool) []))) (.cons (.leaf (.int .i64)) (.one (.leaf (.int .i64)) []))), [], [⟨.tup (.cons (.agg (.cons (.leaf (.int .i64)) (.one (.leaf .bool) []))) (.one (.leaf (.int .i64)) [])), [], []⟩]⟩
noncomputable def nt : Notes := ⟨[], [], [], [], []⟩
noncomputable def cal0 {T : Type} (k : Nat) : List (FuncId × Hd T) := [(67, pureC F_spot_Check.ct [] (fun (x : (Int × Bool) × Int) (_ : Unit) => F_spot_Check.S k x.1 x.2))]
theorem cal0_ok {T : Type} (k : Nat) : HdsOk Try.prog (cal0 (T := T) k) := ⟨F_spot_Check.hd k, trivial⟩
noncomputable def cal {T : Type} (k : Nat) : List (FuncId × Hd T) := cal0 k
theorem cal_ok {T : Type} (k : Nat) : HdsOk Try.prog (cal (T := T) k) := cal0_ok k
noncomputable def S (k : Nat) (a0 : Int × Bool) (a1 : Int) (a2 : Int) : O ((Int × Bool) × Int) :=
  O.bind (F_spot_Check.S k a0 a2) fun r1 =>
  O.cond (decide (r1 ≠ (0 : Int))) (
   .ok (((0 : Int), false), r1)) (
   O.cond (decide (a1 < (0 : Int))) (
    .ok (((0 : Int), false), (1 : Int))) (
    O.cond (decide (a1 > a2)) (
     .ok (((0 : Int), false), (1 : Int))) (
     O.cond (decide ((IntKind.i64.wrap (a0.1 + a1)) ≥ a2)) (
      .ok (((IntKind.i64.wrap ((IntKind.i64.wrap (a0.1 + a1)) - a2)), (!a0.2)), (0 : Int))) (
      .ok (((IntKind.i64.wrap (a0.1 + a1)), a0.2), (0 : Int))))))
theorem eq (k : Nat) (a0 : Int × Bool) (a1 : Int) (a2 : Int) : evFn (T := (Int × Bool) × Int) tab (calOf (cal k)) Go.Proofs.Try.f41 nt k 0 [.agg [.int .i64 a0.1, .bool a0.2], .int .i64 a1, .int .i64 a2] [] ⟨0, false, []⟩ (fun v st => outK ct.ob (γ0 ct) ct.outs v st .ok) (fun e st => outP ct.ob (γ0 ct) ct.outs e st .ok) = S k a0 a1 a2 := by kernel_rfl
theorem ok (k : Nat) : FnOkC Try.prog 41 ct (fun (x : (Int × Bool) × Int × Int) (_ : Unit) => S k x.1 x.2.1 x.2.2) :=
 FnOkC.of_ev (C := ct) tab_ok rfl (calOf_ok (cal_ok k)) mixed Try.func41 nt k (fun _ _ => rfl) (fun (x : (Int × Bool) × Int × Int) (_ : Unit) => eq k x.1 x.2.1 x.2.2)
theorem hd {T : Type} (k : Nat) : HdOk Try.prog 41 (pureC (T := T) ct [] (fun (x : (Int × Bool) × Int × Int) (_ : Unit) => S k x.1 x.2.1 x.2.2)) :=
 pureC_ok rfl [] (ok k) Try.call41
end F_spot_Next
namespace F_drvq_Queue_Post
noncomputable def ct : Ct := ⟨.some (.pin (.ref 0) (.one (.row false 56 [.int .i64, .int .i64, .bool]) [])), [(95, .pin (.ref 1) (.cons (.agg (.cons (.leaf (.int .i64)) (.cons (.leaf (.int .i64)) (.cons (.leaf (.int .i64)) (.one (.leaf (.int .i64)) []))))) (.cons (.agg (.cons (.leaf (.int .i64)) (.one (.leaf .bool) []))) (.cons (.agg (.cons (.leaf (.int .i64)) (.one (.leaf .bool) []))) (.cons (.agg (.cons (.leaf (.int .i64)) (.one (.leaf .bool) []))) (.cons (.leaf (.int .i64)) (.cons (.leaf (.int .i64)) (.one (.map 93 false false [.int .i64] [.int .i64]) [])))))))), (92, .cons (.row true 5 [.int .u8]) (.cons (.leaf (.int .i64)) (.one (.row true 121 [.int .i64, .int .i64, .int .i64, .bool]) [])))], [⟨.tup (.cons (.leaf (.int .i64)) (.one (.leaf (.int .i64)) [])), [], []⟩]⟩
noncomputable def nt : Notes := ⟨[(6, ⟨[0, 1, 7, 8, 9, 26, 27, 28], []⟩)], [(5, ⟨[0, 1, 7, 8, 9], []⟩), (11, ⟨[0, 1, 7, 8, 9, 10, 11, 12, 26, 27, 28], []⟩), (13, ⟨[0, 1, 7, 8, 9, 10, 11, 12, 26, 27, 28], []⟩)], [(4, [0, 2, 3, 4, 5, 1, 6, 7, 8, 9]), (14, [0, 1, 2, 3, 4, 5, 6, 7, 8, 9]), (15, [0, 1, 2, 3, 4, 5, 6, 7, 8]), (16, [0, 1, 2, 3, 4, 5, 6, 7, 8, 9]), (21, [0, 1, 2, 3, 4, 5, 6, 7, 8, 9, 10]), (23, [0, 1, 2, 3, 4, 5, 6, 7, 8, 9, 10, 11, 12, 13, 14, 15, 16, 17, 18, 19]), (27, [0, 1, 2, 3, 4, 5, 6, 7, 8, 9, 10, 11, 12, 13, 14, 15, 16, 17])], [], []⟩
noncomputable def cal0 {T : Type} (k : Nat) : List (FuncId × Hd T) := [(37, pureC F_drvq_Queue_may.ct [.arg 0 0, .fld 0 0] (fun (x : List TY9) (g : TY3 × TY4) => F_drvq_Queue_may.S k x g.1 g.2)), (38, F_drvq_Queue_id.h), (39, pureC F_desc_Mark.ct [] (fun (x : Int × Bool × Bool) (_ : Unit) => F_desc_Mark.S k x.1 x.2.1 x.2.2)), (40, pureC F_gmem_Memory_Store.ct [.arg 0 0] (fun (x : Int × Int × Int) (g : List Int × Int × TY1) => F_gmem_Memory_Store.S k x.1 x.2.1 x.2.2 g)), (41, pureC F_spot_Next.ct [] (fun (x : (Int × Bool) × Int × Int) (_ : Unit) => F_spot_Next.S k x.1 x.2.1 x.2.2))]
theorem cal0_ok {T : Type} (k : Nat) : HdsOk Try.prog (cal0 (T := T) k) := ⟨F_drvq_Queue_may.hd k, F_drvq_Queue_id.hd k, F_desc_Mark.hd k, F_gmem_Memory_Store.hd k, F_spot_Next.hd k, trivial⟩
noncomputable def cal {T : Type} (k : Nat) : List (FuncId × Hd T) := cal0 k
theorem cal_ok {T : Type} (k : Nat) : HdsOk Try.prog (cal (T := T) k) := cal0_ok k
noncomputable abbrev la (k : Nat) (Rs : List (Fr → St → O TY8)) (ds : List Dir) (j : Nat) : Fr → St → O TY8 := loopAt tab (calOf (cal k)) Go.Proofs.Try.f12.ntmps nt k Rs ds (bodyOf Go.Proofs.Try.f12) (finK tab Go.Proofs.Try.f12.results.toList (fun v st => outK ct.ob (γ0 ct) ct.outs v st .ok) (fun e st => outP ct.ob (γ0 ct) ct.outs e st .ok)) j
noncomputable abbrev ca (k : Nat) (Rs : List (Fr → St → O TY8)) (ds : List Dir) : Fr → St → O TY8 := codeAt tab (calOf (cal k)) Go.Proofs.Try.f12.ntmps nt k Rs ds (bodyOf Go.Proofs.Try.f12) (finK tab Go.Proofs.Try.f12.results.toList (fun v st => outK ct.ob (γ0 ct) ct.outs v st .ok) (fun e st => outP ct.ob (γ0 ct) ct.outs e st .ok))
noncomputable abbrev zj2 {α : Type} (X : Fr → St → α) (a1 : List TY9) (r2 : Int × TY3 × TY4) : α := X ⟨[(0, .ptr 0 0), (1, .osl 2), (7, .int .i64 ((leastN r2.2.1.2.2.2.2.2.2 : Nat) : Int)), (8, .ptr 3 0), (9, .int .i64 (0 : Int))], [], 2, []⟩ ⟨7, true, [(2, .row false 56 [.int .i64, .int .i64, .bool] a1), (3, .cells 42 [.int .i64 r2.2.1.2.1.1, .bool r2.2.1.2.1.2]), (4, .map 93 false false [.int .i64] [.int .i64] r2.2.1.2.2.2.2.2.2), (5, .row true 5 [.int .u8] r2.2.2.1), (6, .row true 121 [.int .i64, .int .i64, .int .i64, .bool] r2.2.2.2.2), (0, .cells 95 [.ptr 1 0, .int .i64 r2.2.1.1.1, .int .i64 r2.2.1.1.2.1, .int .i64 r2.2.1.1.2.2.1, .int .i64 r2.2.1.1.2.2.2, .int .i64 r2.2.1.2.1.1, .bool r2.2.1.2.1.2, .int .i64 r2.2.1.2.2.1.1, .bool r2.2.1.2.2.1.2, .int .i64 r2.2.1.2.2.2.1.1, .bool r2.2.1.2.2.2.1.2, .int .i64 r2.2.1.2.2.2.2.1, .int .i64 r2.2.1.2.2.2.2.2.1, .mp 4]), (1, .cells 92 [.osl 5, .int .i64 r2.2.2.2.1, .osl 6])]⟩
noncomputable abbrev zl1 {α : Type} (X : Fr → St → α) (a1 : List TY9) (r2 : Int × TY3 × TY4) (v122 : Int) (v123 : Int) (v124 : Int) (v125 : Bool) (v126 : List Int) (v127 : List TY5) (v128 : Int) : α := X ⟨[(0, .ptr 0 0), (1, .osl 2), (7, .int .i64 ((leastN r2.2.1.2.2.2.2.2.2 : Nat) : Int)), (8, .ptr 3 0), (9, .int .i64 v122), (26, .osl 2), (27, .int .i64 (List.length a1 : Int)), (28, .int .i64 v123)], [], 2, []⟩ ⟨7, true, [(2, .row false 56 [.int .i64, .int .i64, .bool] a1), (3, .cells 42 [.int .i64 v124, .bool v125]), (4, .map 93 false false [.int .i64] [.int .i64] r2.2.1.2.2.2.2.2.2), (5, .row true 5 [.int .u8] v126), (6, .row true 121 [.int .i64, .int .i64, .int .i64, .bool] v127), (0, .cells 95 [.ptr 1 0, .int .i64 r2.2.1.1.1, .int .i64 r2.2.1.1.2.1, .int .i64 r2.2.1.1.2.2.1, .int .i64 r2.2.1.1.2.2.2, .int .i64 r2.2.1.2.1.1, .bool r2.2.1.2.1.2, .int .i64 r2.2.1.2.2.1.1, .bool r2.2.1.2.2.1.2, .int .i64 r2.2.1.2.2.2.1.1, .bool r2.2.1.2.2.2.1.2, .int .i64 r2.2.1.2.2.2.2.1, .int .i64 r2.2.1.2.2.2.2.2.1, .mp 4]), (1, .cells 92 [.osl 5, .int .i64 v128, .osl 6])]⟩
noncomputable abbrev zj8 {α : Type} (X : Fr → St → α) (a1 : List TY9) (r2 : Int × TY3 × TY4) (v122 : Int) (v123 : Int) (v124 : Int) (v125 : Bool) (v126 : List Int) (v127 : List TY5) (v128 : Int) (v157 : Int) : α := X ⟨[(0, .ptr 0 0), (1, .osl 2), (7, .int .i64 ((leastN r2.2.1.2.2.2.2.2.2 : Nat) : Int)), (8, .ptr 3 0), (9, .int .i64 v122), (10, .int .i64 v123), (11, .ptr 4 0), (12, .int .i64 v157), (26, .osl 2), (27, .int .i64 (List.length a1 : Int)), (28, .int .i64 v123)], [], 2, []⟩ ⟨8, true, [(2, .row false 56 [.int .i64, .int .i64, .bool] a1), (3, .cells 42 [.int .i64 v124, .bool v125]), (4, .cells 56 [.int .i64 ((gt ((0 : Int), (0 : Int), false) a1 v123).1), .int .i64 ((gt ((0 : Int), (0 : Int), false) a1 v123).2.1), .bool ((gt ((0 : Int), (0 : Int), false) a1 v123).2.2)]), (5, .map 93 false false [.int .i64] [.int .i64] r2.2.1.2.2.2.2.2.2), (6, .row true 5 [.int .u8] v126), (7, .row true 121 [.int .i64, .int .i64, .int .i64, .bool] v127), (0, .cells 95 [.ptr 1 0, .int .i64 r2.2.1.1.1, .int .i64 r2.2.1.1.2.1, .int .i64 r2.2.1.1.2.2.1, .int .i64 r2.2.1.1.2.2.2, .int .i64 r2.2.1.2.1.1, .bool r2.2.1.2.1.2, .int .i64 r2.2.1.2.2.1.1, .bool r2.2.1.2.2.1.2, .int .i64 r2.2.1.2.2.2.1.1, .bool r2.2.1.2.2.2.1.2, .int .i64 r2.2.1.2.2.2.2.1, .int .i64 r2.2.1.2.2.2.2.2.1, .mp 5]), (1, .cells 92 [.osl 6, .int .i64 v128, .osl 7])]⟩
noncomputable abbrev zj9 {α : Type} (X : Fr → St → α) (a1 : List TY9) (r2 : Int × TY3 × TY4) (v122 : Int) (v123 : Int) (v124 : Int) (v125 : Bool) (v126 : List Int) (v127 : List TY5) (v128 : Int) (v158 : Int) : α := X ⟨[(0, .ptr 0 0), (1, .osl 2), (7, .int .i64 ((leastN r2.2.1.2.2.2.2.2.2 : Nat) : Int)), (8, .ptr 3 0), (9, .int .i64 v122), (10, .int .i64 v123), (11, .ptr 4 0), (12, .int .i64 v158), (26, .osl 2), (27, .int .i64 (List.length a1 : Int)), (28, .int .i64 v123)], [], 2, []⟩ ⟨8, true, [(2, .row false 56 [.int .i64, .int .i64, .bool] a1), (3, .cells 42 [.int .i64 v124, .bool v125]), (4, .cells 56 [.int .i64 ((gt ((0 : Int), (0 : Int), false) a1 v123).1), .int .i64 ((gt ((0 : Int), (0 : Int), false) a1 v123).2.1), .bool ((gt ((0 : Int), (0 : Int), false) a1 v123).2.2)]), (5, .map 93 false false [.int .i64] [.int .i64] r2.2.1.2.2.2.2.2.2), (6, .row true 5 [.int .u8] v126), (7, .row true 121 [.int .i64, .int .i64, .int .i64, .bool] v127), (0, .cells 95 [.ptr 1 0, .int .i64 r2.2.1.1.1, .int .i64 r2.2.1.1.2.1, .int .i64 r2.2.1.1.2.2.1, .int .i64 r2.2.1.1.2.2.2, .int .i64 r2.2.1.2.1.1, .bool r2.2.1.2.1.2, .int .i64 r2.2.1.2.2.1.1, .bool r2.2.1.2.2.1.2, .int .i64 r2.2.1.2.2.2.1.1, .bool r2.2.1.2.2.2.1.2, .int .i64 r2.2.1.2.2.2.2.1, .int .i64 r2.2.1.2.2.2.2.2.1, .mp 5]), (1, .cells 92 [.osl 6, .int .i64 v128, .osl 7])]⟩
noncomputable def j9_b (k : Nat) (a1 : List TY9) (r2 : Int × TY3 × TY4) (v122 : Int) (v123 : Int) (v124 : Int) (v125 : Bool) (v126 : List Int) (v127 : List TY5) (v128 : Int) (R_l1 : Int → Int → Int → Bool → (List Int) → TY1 → Int → O TY8) (v158 : Int) : O TY8 :=
  O.bind (F_desc_Mark.S k v158 v125 false) fun r160 =>
  O.bind (F_gmem_Memory_Store.S k (IntKind.i64.wrap (r2.2.1.1.1 + (IntKind.i64.wrap ((16 : Int) * v124)))) (8 : Int) (IntKind.u64.wrap (gt ((0 : Int), (0 : Int), false) a1 v123).1) (v126, v128, v127)) fun r162 =>
  O.bind (F_gmem_Memory_Store.S k (IntKind.i64.wrap ((IntKind.i64.wrap (r2.2.1.1.1 + (IntKind.i64.wrap ((16 : Int) * v124)))) + (8 : Int))) (4 : Int) (IntKind.u64.wrap (gt ((0 : Int), (0 : Int), false) a1 v123).2.1) r162.2) fun r163 =>
  O.bind (F_gmem_Memory_Store.S k (IntKind.i64.wrap ((IntKind.i64.wrap (r2.2.1.1.1 + (IntKind.i64.wrap ((16 : Int) * v124)))) + (12 : Int))) (2 : Int) (IntKind.u64.wrap ((leastN r2.2.1.2.2.2.2.2.2 : Nat) : Int)) r163.2) fun r164 =>
  O.cond (decide (v123 = (0 : Int))) (
   O.bind (F_spot_Next.S k (v124, v125) (1 : Int) r2.2.1.1.2.1) fun r165 =>
   R_l1 r160 (IntKind.i64.wrap (v123 + (1 : Int))) r165.1.1 r165.1.2 r164.2.1 r164.2.2.2 r164.2.2.1) (
   O.bind (F_gmem_Memory_Store.S k (IntKind.i64.wrap ((IntKind.i64.wrap (r2.2.1.1.1 + (IntKind.i64.wrap ((16 : Int) * v124)))) + (14 : Int))) (2 : Int) (IntKind.u64.wrap r160) r164.2) fun r166 =>
   O.bind (F_spot_Next.S k (v124, v125) (1 : Int) r2.2.1.1.2.1) fun r167 =>
   R_l1 v122 (IntKind.i64.wrap (v123 + (1 : Int))) r167.1.1 r167.1.2 r166.2.1 r166.2.2.2 r166.2.2.1)
noncomputable def j9 (k : Nat) (a1 : List TY9) (r2 : Int × TY3 × TY4) (v122 : Int) (v123 : Int) (v124 : Int) (v125 : Bool) (v126 : List Int) (v127 : List TY5) (v128 : Int) (R_l1 : Int → Int → Int → Bool → (List Int) → TY1 → Int → O TY8) (v158 : Int) : O TY8 := j9_b k a1 r2 v122 v123 v124 v125 v126 v127 v128 R_l1 v158
theorem j9_eq (k : Nat) (a1 : List TY9) (r2 : Int × TY3 × TY4) (v122 : Int) (v123 : Int) (v124 : Int) (v125 : Bool) (v126 : List Int) (v127 : List TY5) (v128 : Int) (RR_l1 : Fr → St → O TY8) (R_l1 : Int → Int → Int → Bool → (List Int) → TY1 → Int → O TY8) (hR_l1 : ∀ (v122' : Int) (v123' : Int) (v124' : Int) (v125' : Bool) (v126' : List Int) (v127' : List TY5) (v128' : Int), zl1 RR_l1 a1 r2 v122' v123' v124' v125' v126' v127' v128' = R_l1 v122' v123' v124' v125' v126' v127' v128') (v158 : Int) : zj9 (ca k [RR_l1] [.r, .r, .r, .l, .r, .b, .p, .r, .r, .l, .b, .r, .r, .r, .r]) a1 r2 v122 v123 v124 v125 v126 v127 v128 v158 = j9 k a1 r2 v122 v123 v124 v125 v126 v127 v128 R_l1 v158 := by
  have r0 : (fun (v122' : Int) (v123' : Int) (v124' : Int) (v125' : Bool) (v126' : List Int) (v127' : List TY5) (v128' : Int) => zl1 RR_l1 a1 r2 v122' v123' v124' v125' v126' v127' v128') = R_l1 := by funext v122' v123' v124' v125' v126' v127' v128'; exact hR_l1 v122' v123' v124' v125' v126' v127' v128'
  have h : zj9 (ca k [RR_l1] [.r, .r, .r, .l, .r, .b, .p, .r, .r, .l, .b, .r, .r, .r, .r]) a1 r2 v122 v123 v124 v125 v126 v127 v128 v158 = j9_b k a1 r2 v122 v123 v124 v125 v126 v127 v128 ((fun (v122' : Int) (v123' : Int) (v124' : Int) (v125' : Bool) (v126' : List Int) (v127' : List TY5) (v128' : Int) => zl1 RR_l1 a1 r2 v122' v123' v124' v125' v126' v127' v128')) v158 := (codeAt_eq _ _ _ _ _ _ _ _ _ _ _).trans (by show _ = _; kernel_rfl)
  exact h.trans (by rw [r0]; rfl)
noncomputable def j8_b (k : Nat) (a1 : List TY9) (r2 : Int × TY3 × TY4) (v122 : Int) (v123 : Int) (v124 : Int) (v125 : Bool) (v126 : List Int) (v127 : List TY5) (v128 : Int) (R_l1 : Int → Int → Int → Bool → (List Int) → TY1 → Int → O TY8) (D_j9 : Int → O TY8) (v157 : Int) : O TY8 :=
  O.cond ((gt ((0 : Int), (0 : Int), false) a1 v123).2.2) (
   D_j9 (bOr .i64 v157 (2 : Int))) (
   D_j9 v157)
noncomputable def j8 (k : Nat) (a1 : List TY9) (r2 : Int × TY3 × TY4) (v122 : Int) (v123 : Int) (v124 : Int) (v125 : Bool) (v126 : List Int) (v127 : List TY5) (v128 : Int) (R_l1 : Int → Int → Int → Bool → (List Int) → TY1 → Int → O TY8) (v157 : Int) : O TY8 := j8_b k a1 r2 v122 v123 v124 v125 v126 v127 v128 R_l1 ((fun (v158 : Int) => j9 k a1 r2 v122 v123 v124 v125 v126 v127 v128 R_l1 v158)) v157
theorem j8_eq (k : Nat) (a1 : List TY9) (r2 : Int × TY3 × TY4) (v122 : Int) (v123 : Int) (v124 : Int) (v125 : Bool) (v126 : List Int) (v127 : List TY5) (v128 : Int) (RR_l1 : Fr → St → O TY8) (R_l1 : Int → Int → Int → Bool → (List Int) → TY1 → Int → O TY8) (hR_l1 : ∀ (v122' : Int) (v123' : Int) (v124' : Int) (v125' : Bool) (v126' : List Int) (v127' : List TY5) (v128' : Int), zl1 RR_l1 a1 r2 v122' v123' v124' v125' v126' v127' v128' = R_l1 v122' v123' v124' v125' v126' v127' v128') (v157 : Int) : zj8 (ca k [RR_l1] [.r, .r, .r, .l, .r, .b, .p, .r, .r, .l, .b, .r, .r, .r]) a1 r2 v122 v123 v124 v125 v126 v127 v128 v157 = j8 k a1 r2 v122 v123 v124 v125 v126 v127 v128 R_l1 v157 := by
  have e0 : (fun (v158 : Int) => zj9 (ca k [RR_l1] [.r, .r, .r, .l, .r, .b, .p, .r, .r, .l, .b, .r, .r, .r, .r]) a1 r2 v122 v123 v124 v125 v126 v127 v128 v158) = (fun (v158 : Int) => j9 k a1 r2 v122 v123 v124 v125 v126 v127 v128 R_l1 v158) := by funext v158; exact j9_eq k a1 r2 v122 v123 v124 v125 v126 v127 v128 RR_l1 R_l1 hR_l1 v158
  have r0 : (fun (v122' : Int) (v123' : Int) (v124' : Int) (v125' : Bool) (v126' : List Int) (v127' : List TY5) (v128' : Int) => zl1 RR_l1 a1 r2 v122' v123' v124' v125' v126' v127' v128') = R_l1 := by funext v122' v123' v124' v125' v126' v127' v128'; exact hR_l1 v122' v123' v124' v125' v126' v127' v128'
  have h : zj8 (ca k [RR_l1] [.r, .r, .r, .l, .r, .b, .p, .r, .r, .l, .b, .r, .r, .r]) a1 r2 v122 v123 v124 v125 v126 v127 v128 v157 = j8_b k a1 r2 v122 v123 v124 v125 v126 v127 v128 ((fun (v122' : Int) (v123' : Int) (v124' : Int) (v125' : Bool) (v126' : List Int) (v127' : List TY5) (v128' : Int) => zl1 RR_l1 a1 r2 v122' v123' v124' v125' v126' v127' v128')) ((fun (v158 : Int) => zj9 (ca k [RR_l1] [.r, .r, .r, .l, .r, .b, .p, .r, .r, .l, .b, .r, .r, .r, .r]) a1 r2 v122 v123 v124 v125 v126 v127 v128 v158)) v157 := (codeAt_eq _ _ _ _ _ _ _ _ _ _ _).trans (by show _ = _; kernel_rfl)
  exact h.trans (by rw [r0, e0]; rfl)
noncomputable def l1_b (k : Nat) (a1 : List TY9) (r2 : Int × TY3 × TY4) (R_l1 : Int → Int → Int → Bool → (List Int) → TY1 → Int → O TY8) (D_j8 : Int → Int → Int → Bool → (List Int) → TY1 → Int → Int → O TY8) (v122 : Int) (v123 : Int) (v124 : Int) (v125 : Bool) (v126 : List Int) (v127 : List TY5) (v128 : Int) : O TY8 :=
  O.cond (decide (v123 < (List.length a1 : Int))) (
   O.chk (decide (0 ≤ v123 ∧ v123 < (List.length a1 : Int) ∧ (List.length a1 : Int) ≤ (List.length a1 : Int))) (
    O.chk (decide (0 ≤ v123 ∧ v123 < (List.length a1 : Int))) (
     O.cond (decide (v123 < (IntKind.i64.wrap ((List.length a1 : Int) - (1 : Int))))) (
      D_j8 v122 v123 v124 v125 v126 v127 v128 (1 : Int)) (
      D_j8 v122 v123 v124 v125 v126 v127 v128 (0 : Int))))) (
   O.bind (F_gmem_Memory_Store.S k (IntKind.i64.wrap ((IntKind.i64.wrap (r2.2.1.1.1 + (IntKind.i64.wrap ((16 : Int) * r2.2.1.2.1.1)))) + (14 : Int))) (2 : Int) (IntKind.u64.wrap v122) (v126, v128, v127)) fun r169 =>
   .ok ((((leastN r2.2.1.2.2.2.2.2.2 : Nat) : Int), (0 : Int)), ((r2.2.1.1, (v124, v125), r2.2.1.2.2.1, r2.2.1.2.2.2.1, (min (IntKind.i64.wrap (r2.2.1.2.2.2.2.1 + (List.length a1 : Int))) (IntKind.i64.wrap ((2 : Int) * r2.2.1.1.2.1))), (IntKind.i64.wrap (r2.2.1.2.2.2.2.2.1 - (List.length a1 : Int))), (mput r2.2.1.2.2.2.2.2.2 ((leastN r2.2.1.2.2.2.2.2.2 : Nat) : Int) (List.length a1 : Int))), r169.2)))
noncomputable def l1 (k : Nat) (a1 : List TY9) (r2 : Int × TY3 × TY4) : Nat → Int → Int → Int → Bool → (List Int) → TY1 → Int → O TY8
 | 0, _, _, _, _, _, _, _ => .no
 | j + 1, v122, v123, v124, v125, v126, v127, v128 => l1_b k a1 r2 (l1 k a1 r2 j) ((fun (v122 : Int) (v123 : Int) (v124 : Int) (v125 : Bool) (v126 : List Int) (v127 : List TY5) (v128 : Int) (v157 : Int) => j8 k a1 r2 v122 v123 v124 v125 v126 v127 v128 (l1 k a1 r2 j) v157)) v122 v123 v124 v125 v126 v127 v128
theorem l1_eq (k : Nat) (a1 : List TY9) (r2 : Int × TY3 × TY4) : ∀ (j : Nat) (v122 : Int) (v123 : Int) (v124 : Int) (v125 : Bool) (v126 : List Int) (v127 : List TY5) (v128 : Int), zl1 (la k [] [.r, .r, .r, .l, .r, .b] j) a1 r2 v122 v123 v124 v125 v126 v127 v128 = l1 k a1 r2 j v122 v123 v124 v125 v126 v127 v128 := by
 intro j
 induction j with
 | zero => intro v122 v123 v124 v125 v126 v127 v128; rfl
 | succ j ih =>
  intro v122 v123 v124 v125 v126 v127 v128
  have rs : (fun (v122' : Int) (v123' : Int) (v124' : Int) (v125' : Bool) (v126' : List Int) (v127' : List TY5) (v128' : Int) => zl1 (la k [] [.r, .r, .r, .l, .r, .b] j) a1 r2 v122' v123' v124' v125' v126' v127' v128') = l1 k a1 r2 j := by funext v122' v123' v124' v125' v126' v127' v128'; exact ih v122' v123' v124' v125' v126' v127' v128'
  have e0 : (fun (v122 : Int) (v123 : Int) (v124 : Int) (v125 : Bool) (v126 : List Int) (v127 : List TY5) (v128 : Int) (v157 : Int) => zj8 (ca k [(la k [] [.r, .r, .r, .l, .r, .b] j)] [.r, .r, .r, .l, .r, .b, .p, .r, .r, .l, .b, .r, .r, .r]) a1 r2 v122 v123 v124 v125 v126 v127 v128 v157) = (fun (v122 : Int) (v123 : Int) (v124 : Int) (v125 : Bool) (v126 : List Int) (v127 : List TY5) (v128 : Int) (v157 : Int) => j8 k a1 r2 v122 v123 v124 v125 v126 v127 v128 (l1 k a1 r2 j) v157) := by funext v122 v123 v124 v125 v126 v127 v128 v157; exact j8_eq k a1 r2 v122 v123 v124 v125 v126 v127 v128 (la k [] [.r, .r, .r, .l, .r, .b] j) (l1 k a1 r2 j) (fun v122 v123 v124 v125 v126 v127 v128 => ih v122 v123 v124 v125 v126 v127 v128) v157
  have h : zl1 (la k [] [.r, .r, .r, .l, .r, .b] (j + 1)) a1 r2 v122 v123 v124 v125 v126 v127 v128 = l1_b k a1 r2 ((fun (v122' : Int) (v123' : Int) (v124' : Int) (v125' : Bool) (v126' : List Int) (v127' : List TY5) (v128' : Int) => zl1 (la k [] [.r, .r, .r, .l, .r, .b] j) a1 r2 v122' v123' v124' v125' v126' v127' v128')) ((fun (v122 : Int) (v123 : Int) (v124 : Int) (v125 : Bool) (v126 : List Int) (v127 : List TY5) (v128 : Int) (v157 : Int) => zj8 (ca k [(la k [] [.r, .r, .r, .l, .r, .b] j)] [.r, .r, .r, .l, .r, .b, .p, .r, .r, .l, .b, .r, .r, .r]) a1 r2 v122 v123 v124 v125 v126 v127 v128 v157)) v122 v123 v124 v125 v126 v127 v128 := by kernel_rfl
  exact h.trans (by rw [rs, e0]; rfl)
noncomputable def j2_b (k : Nat) (a1 : List TY9) (r2 : Int × TY3 × TY4) (D_l1 : Int → Int → Int → Bool → (List Int) → TY1 → Int → O TY8) : O TY8 :=
 D_l1 (0 : Int) (0 : Int) r2.2.1.2.1.1 r2.2.1.2.1.2 r2.2.2.1 r2.2.2.2.2 r2.2.2.2.1
noncomputable def j2 (k : Nat) (a1 : List TY9) (r2 : Int × TY3 × TY4) : O TY8 := j2_b k a1 r2 ((fun (v122 : Int) (v123 : Int) (v124 : Int) (v125 : Bool) (v126 : List Int) (v127 : List TY5) (v128 : Int) => l1 k a1 r2 k v122 v123 v124 v125 v126 v127 v128))
theorem j2_eq (k : Nat) (a1 : List TY9) (r2 : Int × TY3 × TY4) : zj2 (ca k [] [.r, .r, .r]) a1 r2 = j2 k a1 r2 := by
  have e0 : (fun (v122 : Int) (v123 : Int) (v124 : Int) (v125 : Bool) (v126 : List Int) (v127 : List TY5) (v128 : Int) => zl1 (la k [] [.r, .r, .r, .l, .r, .b] k) a1 r2 v122 v123 v124 v125 v126 v127 v128) = (fun (v122 : Int) (v123 : Int) (v124 : Int) (v125 : Bool) (v126 : List Int) (v127 : List TY5) (v128 : Int) => l1 k a1 r2 k v122 v123 v124 v125 v126 v127 v128) := by funext v122 v123 v124 v125 v126 v127 v128; exact l1_eq k a1 r2 k v122 v123 v124 v125 v126 v127 v128
  have h : zj2 (ca k [] [.r, .r, .r]) a1 r2 = j2_b k a1 r2 ((fun (v122 : Int) (v123 : Int) (v124 : Int) (v125 : Bool) (v126 : List Int) (v127 : List TY5) (v128 : Int) => zl1 (la k [] [.r, .r, .r, .l, .r, .b] k) a1 r2 v122 v123 v124 v125 v126 v127 v128)) := (codeAt_eq _ _ _ _ _ _ _ _ _ _ _).trans (by show _ = _; kernel_rfl)
  exact h.trans (by rw [e0]; rfl)
noncomputable def top (k : Nat) (a1 : List TY9) (g0 : TY6 × (Int × Bool) × (Int × Bool) × (Int × Bool) × Int × Int × TY7) (g1 : List Int × Int × TY1) (D_j2 : TY2 → O TY8) : O TY8 :=
  O.bind (F_drvq_Queue_may.S k a1 g0 g1) fun r2 =>
  O.cond (decide (r2.1 ≠ (0 : Int))) (
   .ok (((0 : Int), r2.1), (r2.2.1, r2.2.2))) (
   O.twice (
    O.chk (decide (List.length r2.2.1.2.2.2.2.2.2 ≤ 1000000)) (
     D_j2 r2)))
noncomputable def S (k : Nat) (a1 : List TY9) (g0 : TY6 × (Int × Bool) × (Int × Bool) × (Int × Bool) × Int × Int × TY7) (g1 : List Int × Int × TY1) : O TY8 := top k a1 g0 g1 ((fun (r2 : Int × TY3 × TY4) => j2 k a1 r2))
theorem eq (k : Nat) (a1 : List TY9) (g0 : TY6 × (Int × Bool) × (Int × Bool) × (Int × Bool) × Int × Int × TY7) (g1 : List Int × Int × TY1) : evFn (T := (Int × Int) × TY3 × TY4) tab (calOf (cal k)) Go.Proofs.Try.f12 nt k 2 [.ptr 0 0, .osl 5] [] ⟨6, false, [(5, .row false 56 [.int .i64, .int .i64, .bool] a1), (1, .cells 92 [.osl 3, .int .i64 g1.2.1, .osl 4]), (4, .row true 121 [.int .i64, .int .i64, .int .i64, .bool] g1.2.2), (3, .row true 5 [.int .u8] g1.1), (0, .cells 95 [.ptr 1 0, .int .i64 g0.1.1, .int .i64 g0.1.2.1, .int .i64 g0.1.2.2.1, .int .i64 g0.1.2.2.2, .int .i64 g0.2.1.1, .bool g0.2.1.2, .int .i64 g0.2.2.1.1, .bool g0.2.2.1.2, .int .i64 g0.2.2.2.1.1, .bool g0.2.2.2.1.2, .int .i64 g0.2.2.2.2.1, .int .i64 g0.2.2.2.2.2.1, .mp 2]), (2, .map 93 false false [.int .i64] [.int .i64] g0.2.2.2.2.2.2)]⟩ (fun v st => outK ct.ob (γ0 ct) ct.outs v st .ok) (fun e st => outP ct.ob (γ0 ct) ct.outs e st .ok) = S k a1 g0 g1 := by
 have e0 : (fun (r2 : Int × TY3 × TY4) => zj2 (ca k [] [.r, .r, .r]) a1 r2) = (fun (r2 : Int × TY3 × TY4) => j2 k a1 r2) := by funext r2; exact j2_eq k a1 r2
 have h : evFn (T := (Int × Int) × TY3 × TY4) tab (calOf (cal k)) Go.Proofs.Try.f12 nt k 2 [.ptr 0 0, .osl 5] [] ⟨6, false, [(5, .row false 56 [.int .i64, .int .i64, .bool] a1), (1, .cells 92 [.osl 3, .int .i64 g1.2.1, .osl 4]), (4, .row true 121 [.int .i64, .int .i64, .int .i64, .bool] g1.2.2), (3, .row true 5 [.int .u8] g1.1), (0, .cells 95 [.ptr 1 0, .int .i64 g0.1.1, .int .i64 g0.1.2.1, .int .i64 g0.1.2.2.1, .int .i64 g0.1.2.2.2, .int .i64 g0.2.1.1, .bool g0.2.1.2, .int .i64 g0.2.2.1.1, .bool g0.2.2.1.2, .int .i64 g0.2.2.2.1.1, .bool g0.2.2.2.1.2, .int .i64 g0.2.2.2.2.1, .int .i64 g0.2.2.2.2.2.1, .mp 2]), (2, .map 93 false false [.int .i64] [.int .i64] g0.2.2.2.2.2.2)]⟩ (fun v st => outK ct.ob (γ0 ct) ct.outs v st .ok) (fun e st => outP ct.ob (γ0 ct) ct.outs e st .ok) = top k a1 g0 g1 ((fun (r2 : Int × TY3 × TY4) => zj2 (ca k [] [.r, .r, .r]) a1 r2)) := by kernel_rfl
 exact h.trans (by rw [e0]; rfl)
theorem ok (k : Nat) : FnOkC Try.prog 12 ct (fun (x : List TY9) (g : TY3 × TY4) => S k x g.1 g.2) :=
 FnOkC.of_ev (C := ct) tab_ok rfl (calOf_ok (cal_ok k)) mixed Try.func12 nt k (fun _ _ => rfl) (fun (x : List TY9) (g : TY3 × TY4) => eq k x g.1 g.2)
theorem hd {T : Type} (k : Nat) : HdOk Try.prog 12 (pureC (T := T) ct [.arg 0 0, .fld 0 0] (fun (x : List TY9) (g : TY3 × TY4) => S k x g.1 g.2)) :=
 pureC_ok rfl [.arg 0 0, .fld 0 0] (ok k) Try.call12
end F_drvq_Queue_Post
namespace F_gmem_Memory_Read
noncomputable def ct : Ct := ⟨.some (.pin (.ref 0) (.cons (.leaf (.int .i64)) (.one (.leaf (.int .i64)) []))), [(92, .cons (.row true 5 [.int .u8]) (.cons (.leaf (.int .i64)) (.one (.row true 121 [.int .i64, .int .i64, .int .i64, .bool]) [])))], [⟨.tup (.cons (.leaf .str) (.one (.leaf (.int .i64)) [])), [], []⟩]⟩
noncomputable def nt : Notes := ⟨[], [], [], [], []⟩
noncomputable def cal0 {T : Type} (k : Nat) : List (FuncId × Hd T) := [(45, pureR F_gmem_Memory_May.ct [.arg 0 0] (fun (x : Int × Int) (g : List Int × Int × TY1) => F_gmem_Memory_May.S k x.1 x.2 g)), (50, pureC F_api_Access.ct [] (fun (x : List TY5) (_ : Unit) => F_api_Access.S k x))]
theorem cal0_ok {T : Type} (k : Nat) : HdsOk Try.prog (cal0 (T := T) k) := ⟨F_gmem_Memory_May.hd k, F_api_Access.hd k, trivial⟩
noncomputable def nt46 : Notes := ⟨[], [], [(1, [0, 1, 2, 3, 4, 5, 6, 7, 8, 9, 10, 11, 12, 13, 14, 15, 16, 17]), (3, [0, 1, 2, 3, 4, 5, 6, 7, 8, 9, 10, 11, 12, 13, 14, 15])], [], []⟩
noncomputable def cal1 {T : Type} (k : Nat) : List (FuncId × Hd T) := (46, inlH tab (calOf (cal0 k)) Go.Proofs.Try.f46 nt46 k) :: cal0 k
theorem cal1_ok {T : Type} (k : Nat) : HdsOk Try.prog (cal1 (T := T) k) := ⟨inlH_ok tab_ok (calOf_ok (cal0_ok k)) mixed Try.func46 nt46 k Try.call46, cal0_ok k⟩
noncomputable def cal {T : Type} (k : Nat) : List (FuncId × Hd T) := cal1 k
theorem cal_ok {T : Type} (k : Nat) : HdsOk Try.prog (cal (T := T) k) := cal1_ok k
noncomputable def S (k : Nat) (a1 : Int) (a2 : Int) (g0 : List Int × Int × TY1) : O ((ByteArray × Int) × List Int × Int × TY1) :=
  O.cond (decide (a2 < (0 : Int))) (
   .ok (((⟨#[]⟩ : ByteArray), (1 : Int)), g0)) (
   O.bind (F_gmem_Memory_May.S k a1 a2 g0) fun r1 =>
   O.cond (!r1) (
    .ok (((⟨#[]⟩ : ByteArray), (41 : Int)), g0)) (
    O.cond (decide (a2 = (0 : Int))) (
     O.chk (decide (0 ≤ a1 ∧ a1 ≤ (IntKind.i64.wrap (a1 + a2)) ∧ (IntKind.i64.wrap (a1 + a2)) ≤ (List.length g0.1 : Int)) && (decide (0 ≤ (List.length g0.1 : Int) ∧ (List.length g0.1 : Int) ≤ (List.length g0.1 : Int)))) (
      O.chk (posI [a1] && decide (0 ≤ ((IntKind.i64.wrap (a1 + a2)) - a1) ∧ sumI [a1] + ((IntKind.i64.wrap (a1 + a2)) - a1) ≤ (List.length g0.1 : Int))) (
       .ok (((Go.Aq.strOf (sub g0.1 (sumI [a1]) ((IntKind.i64.wrap (a1 + a2)) - a1))), (0 : Int)), g0)))) (
     O.chk (decide (List.length g0.2.2 + List.length [(g0.2.1, a1, a2, false)] ≤ 1073741824)) (
      O.cond (decide ((List.length (g0.2.2 ++ [(g0.2.1, a1, a2, false)]) : Int) > (8192 : Int))) (
       O.chk (decide (0 ≤ (IntKind.i64.wrap ((List.length (g0.2.2 ++ [(g0.2.1, a1, a2, false)]) : Int) - (4096 : Int))) ∧ (IntKind.i64.wrap ((List.length (g0.2.2 ++ [(g0.2.1, a1, a2, false)]) : Int) - (4096 : Int))) ≤ (List.length (g0.2.2 ++ [(g0.2.1, a1, a2, false)]) : Int)) && (decide (0 ≤ (List.length (g0.2.2 ++ [(g0.2.1, a1, a2, false)]) : Int) ∧ (List.length (g0.2.2 ++ [(g0.2.1, a1, a2, false)]) : Int) ≤ (List.length (g0.2.2 ++ [(g0.2.1, a1, a2, false)]) : Int)))) (
        O.chk (posI [(IntKind.i64.wrap ((List.length (g0.2.2 ++ [(g0.2.1, a1, a2, false)]) : Int) - (4096 : Int)))] && decide (0 ≤ ((List.length (g0.2.2 ++ [(g0.2.1, a1, a2, false)]) : Int) - (IntKind.i64.wrap ((List.length (g0.2.2 ++ [(g0.2.1, a1, a2, false)]) : Int) - (4096 : Int)))) ∧ sumI [(IntKind.i64.wrap ((List.length (g0.2.2 ++ [(g0.2.1, a1, a2, false)]) : Int) - (4096 : Int)))] + ((List.length (g0.2.2 ++ [(g0.2.1, a1, a2, false)]) : Int) - (IntKind.i64.wrap ((List.length (g0.2.2 ++ [(g0.2.1, a1, a2, false)]) : Int) - (4096 : Int)))) ≤ (List.length (g0.2.2 ++ [(g0.2.1, a1, a2, false)]) : Int))) (
         O.bind (F_api_Access.S k (sub (g0.2.2 ++ [(g0.2.1, a1, a2, false)]) (sumI [(IntKind.i64.wrap ((List.length (g0.2.2 ++ [(g0.2.1, a1, a2, false)]) : Int) - (4096 : Int)))]) ((List.length (g0.2.2 ++ [(g0.2.1, a1, a2, false)]) : Int) - (IntKind.i64.wrap ((List.length (g0.2.2 ++ [(g0.2.1, a1, a2, false)]) : Int) - (4096 : Int)))))) fun r2 =>
         O.chk (decide (0 ≤ a1 ∧ a1 ≤ (IntKind.i64.wrap (a1 + a2)) ∧ (IntKind.i64.wrap (a1 + a2)) ≤ (List.length g0.1 : Int)) && (decide (0 ≤ (List.length g0.1 : Int) ∧ (List.length g0.1 : Int) ≤ (List.length g0.1 : Int)))) (
          O.chk (posI [a1] && decide (0 ≤ ((IntKind.i64.wrap (a1 + a2)) - a1) ∧ sumI [a1] + ((IntKind.i64.wrap (a1 + a2)) - a1) ≤ (List.length g0.1 : Int))) (
           .ok (((Go.Aq.strOf (sub g0.1 (sumI [a1]) ((IntKind.i64.wrap (a1 + a2)) - a1))), (0 : Int)), (g0.1, g0.2.1, r2))))))) (
       O.chk (decide (0 ≤ a1 ∧ a1 ≤ (IntKind.i64.wrap (a1 + a2)) ∧ (IntKind.i64.wrap (a1 + a2)) ≤ (List.length g0.1 : Int)) && (decide (0 ≤ (List.length g0.1 : Int) ∧ (List.length g0.1 : Int) ≤ (List.length g0.1 : Int)))) (
        O.chk (posI [a1] && decide (0 ≤ ((IntKind.i64.wrap (a1 + a2)) - a1) ∧ sumI [a1] + ((IntKind.i64.wrap (a1 + a2)) - a1) ≤ (List.length g0.1 : Int))) (
         .ok (((Go.Aq.strOf (sub g0.1 (sumI [a1]) ((IntKind.i64.wrap (a1 + a2)) - a1))), (0 : Int)), (g0.1, g0.2.1, (g0.2.2 ++ [(g0.2.1, a1, a2, false)]))))))))))
theorem eq (k : Nat) (a1 : Int) (a2 : Int) (g0 : List Int × Int × TY1) : evFn (T := (ByteArray × Int) × List Int × Int × TY1) tab (calOf (cal k)) Go.Proofs.Try.f42 nt k 1 [.ptr 0 0, .int .i64 a1, .int .i64 a2] [] ⟨3, false, [(0, .cells 92 [.osl 1, .int .i64 g0.2.1, .osl 2]), (2, .row true 121 [.int .i64, .int .i64, .int .i64, .bool] g0.2.2), (1, .row true 5 [.int .u8] g0.1)]⟩ (fun v st => outK ct.ob (γ0 ct) ct.outs v st .ok) (fun e st => outP ct.ob (γ0 ct) ct.outs e st .ok) = S k a1 a2 g0 := by kernel_rfl
theorem ok (k : Nat) : FnOkC Try.prog 42 ct (fun (x : Int × Int) (g : List Int × Int × TY1) => S k x.1 x.2 g) :=
 FnOkC.of_ev (C := ct) tab_ok rfl (calOf_ok (cal_ok k)) mixed Try.func42 nt k (fun _ _ => rfl) (fun (x : Int × Int) (g : List Int × Int × TY1) => eq k x.1 x.2 g)
theorem hd {T : Type} (k : Nat) : HdOk Try.prog 42 (pureC (T := T) ct [.arg 0 0] (fun (x : Int × Int) (g : List Int × Int × TY1) => S k x.1 x.2 g)) :=
 pureC_ok rfl [.arg 0 0] (ok k) Try.call42
end F_gmem_Memory_Read
namespace F_words_Get
noncomputable def ct : Ct := ⟨.some (.cons (.leaf .str) (.cons (.leaf (.int .i64)) (.cons (.leaf (.int .i64)) (.one (.leaf .bool) [])))), [], [⟨.tup (.cons (.leaf (.int .u64)) (.one (.leaf (.int .i64)) [])), [], []⟩]⟩
noncomputable def nt : Notes := ⟨[(10, ⟨[0, 10, 40, 41], []⟩), (10, ⟨[0, 10, 40, 41], []⟩)], [], [], [], []⟩
noncomputable def cal0 {T : Type} (k : Nat) : List (FuncId × Hd T) := [(86, pureC F_words_Turn.ct [] (fun (x : ByteArray) (_ : Unit) => F_words_Turn.S k x))]
theorem cal0_ok {T : Type} (k : Nat) : HdsOk Try.prog (cal0 (T := T) k) := ⟨F_words_Turn.hd k, trivial⟩
noncomputable def cal {T : Type} (k : Nat) : List (FuncId × Hd T) := cal0 k
theorem cal_ok {T : Type} (k : Nat) : HdsOk Try.prog (cal (T := T) k) := cal0_ok k
noncomputable abbrev la (k : Nat) (Rs : List (Fr → St → O (Int × Int))) (ds : List Dir) (j : Nat) : Fr → St → O (Int × Int) := loopAt tab (calOf (cal k)) Go.Proofs.Try.f69.ntmps nt k Rs ds (bodyOf Go.Proofs.Try.f69) (finK tab Go.Proofs.Try.f69.results.toList (fun v st => outK ct.ob (γ0 ct) ct.outs v st .ok) (fun e st => outP ct.ob (γ0 ct) ct.outs e st .ok)) j
noncomputable abbrev zl0 {α : Type} (X : Fr → St → α) (a2 : Int) (r1 : ByteArray) (v2 : Int) (v3 : Int) : α := X ⟨[(0, .str r1), (10, .int .u64 v2), (40, .int .i64 a2), (41, .int .i64 v3)], [], 0, []⟩ ⟨0, true, []⟩
noncomputable abbrev zl1 {α : Type} (X : Fr → St → α) (a0 : ByteArray) (a1 : Int) (a2 : Int) (v4 : Int) (v5 : Int) : α := X ⟨[(0, .str (ByteArray.extract a0 a1.toNat (IntKind.i64.wrap (a1 + a2)).toNat)), (10, .int .u64 v4), (40, .int .i64 a2), (41, .int .i64 v5)], [], 0, []⟩ ⟨0, true, []⟩
noncomputable def l0_b (k : Nat) (a2 : Int) (r1 : ByteArray) (R_l0 : Int → Int → O (Int × Int)) (v2 : Int) (v3 : Int) : O (Int × Int) :=
  O.cond (decide (v3 < a2)) (
   O.chk (decide (0 ≤ v3 ∧ v3 < (ByteArray.size r1 : Int))) (
    R_l0 (bOr .u64 (shL .u64 v2 (8 : Int)) (IntKind.u64.wrap (bt r1 v3))) (IntKind.i64.wrap (v3 + (1 : Int))))) (
   .ok (v2, (0 : Int)))
noncomputable def l0 (k : Nat) (a2 : Int) (r1 : ByteArray) : Nat → Int → Int → O (Int × Int)
 | 0, _, _ => .no
 | j + 1, v2, v3 => l0_b k a2 r1 (l0 k a2 r1 j) v2 v3
theorem l0_eq (k : Nat) (a2 : Int) (r1 : ByteArray) : ∀ (j : Nat) (v2 : Int) (v3 : Int), zl0 (la k [] [.r, .r, .r, .r, .r, .l, .r, .b] j) a2 r1 v2 v3 = l0 k a2 r1 j v2 v3 := by
 intro j
 induction j with
 | zero => intro v2 v3; rfl
 | succ j ih =>
  intro v2 v3
  have rs : (fun (v2' : Int) (v3' : Int) => zl0 (la k [] [.r, .r, .r, .r, .r, .l, .r, .b] j) a2 r1 v2' v3') = l0 k a2 r1 j := by funext v2' v3'; exact ih v2' v3'
  have h : zl0 (la k [] [.r, .r, .r, .r, .r, .l, .r, .b] (j + 1)) a2 r1 v2 v3 = l0_b k a2 r1 ((fun (v2' : Int) (v3' : Int) => zl0 (la k [] [.r, .r, .r, .r, .r, .l, .r, .b] j) a2 r1 v2' v3')) v2 v3 := by kernel_rfl
  exact h.trans (by rw [rs]; rfl)
noncomputable def l1_b (k : Nat) (a0 : ByteArray) (a1 : Int) (a2 : Int) (R_l1 : Int → Int → O (Int × Int)) (v4 : Int) (v5 : Int) : O (Int × Int) :=
  O.cond (decide (v5 < a2)) (
   O.chk (decide (0 ≤ v5 ∧ v5 < (ByteArray.size (ByteArray.extract a0 a1.toNat (IntKind.i64.wrap (a1 + a2)).toNat) : Int))) (
    R_l1 (bOr .u64 (shL .u64 v4 (8 : Int)) (IntKind.u64.wrap (bt (ByteArray.extract a0 a1.toNat (IntKind.i64.wrap (a1 + a2)).toNat) v5))) (IntKind.i64.wrap (v5 + (1 : Int))))) (
   .ok (v4, (0 : Int)))
noncomputable def l1 (k : Nat) (a0 : ByteArray) (a1 : Int) (a2 : Int) : Nat → Int → Int → O (Int × Int)
 | 0, _, _ => .no
 | j + 1, v4, v5 => l1_b k a0 a1 a2 (l1 k a0 a1 a2 j) v4 v5
theorem l1_eq (k : Nat) (a0 : ByteArray) (a1 : Int) (a2 : Int) : ∀ (j : Nat) (v4 : Int) (v5 : Int), zl1 (la k [] [.r, .r, .r, .r, .r, .l, .r, .b] j) a0 a1 a2 v4 v5 = l1 k a0 a1 a2 j v4 v5 := by
 intro j
 induction j with
 | zero => intro v4 v5; rfl
 | succ j ih =>
  intro v4 v5
  have rs : (fun (v4' : Int) (v5' : Int) => zl1 (la k [] [.r, .r, .r, .r, .r, .l, .r, .b] j) a0 a1 a2 v4' v5') = l1 k a0 a1 a2 j := by funext v4' v5'; exact ih v4' v5'
  have h : zl1 (la k [] [.r, .r, .r, .r, .r, .l, .r, .b] (j + 1)) a0 a1 a2 v4 v5 = l1_b k a0 a1 a2 ((fun (v4' : Int) (v5' : Int) => zl1 (la k [] [.r, .r, .r, .r, .r, .l, .r, .b] j) a0 a1 a2 v4' v5')) v4 v5 := by kernel_rfl
  exact h.trans (by rw [rs]; rfl)
noncomputable def top (k : Nat) (a0 : ByteArray) (a1 : Int) (a2 : Int) (a3 : Bool) (D_l0 : ByteArray → Int → Int → O (Int × Int)) (D_l1 : Int → Int → O (Int × Int)) : O (Int × Int) :=
  O.cond (decide (a2 < (1 : Int))) (
   .ok ((0 : Int), (1 : Int))) (
   O.cond (decide (a2 > (8 : Int))) (
    .ok ((0 : Int), (1 : Int))) (
    O.cond (decide (a1 < (0 : Int))) (
     .ok ((0 : Int), (10 : Int))) (
     O.cond (decide (a1 > (IntKind.i64.wrap ((ByteArray.size a0 : Int) - a2)))) (
      .ok ((0 : Int), (10 : Int))) (
      O.chk (decide (0 ≤ a1 ∧ a1 ≤ (IntKind.i64.wrap (a1 + a2)) ∧ (IntKind.i64.wrap (a1 + a2)) ≤ (ByteArray.size a0 : Int))) (
       O.cond (!a3) (
        O.bind (F_words_Turn.S k (ByteArray.extract a0 a1.toNat (IntKind.i64.wrap (a1 + a2)).toNat)) fun r1 =>
        D_l0 r1 (0 : Int) (0 : Int)) (
        D_l1 (0 : Int) (0 : Int)))))))
noncomputable def S (k : Nat) (a0 : ByteArray) (a1 : Int) (a2 : Int) (a3 : Bool) : O (Int × Int) := top k a0 a1 a2 a3 ((fun (r1 : ByteArray) (v2 : Int) (v3 : Int) => l0 k a2 r1 k v2 v3)) ((fun (v4 : Int) (v5 : Int) => l1 k a0 a1 a2 k v4 v5))
theorem eq (k : Nat) (a0 : ByteArray) (a1 : Int) (a2 : Int) (a3 : Bool) : evFn (T := Int × Int) tab (calOf (cal k)) Go.Proofs.Try.f69 nt k 0 [.str a0, .int .i64 a1, .int .i64 a2, .bool a3] [] ⟨0, false, []⟩ (fun v st => outK ct.ob (γ0 ct) ct.outs v st .ok) (fun e st => outP ct.ob (γ0 ct) ct.outs e st .ok) = S k a0 a1 a2 a3 := by
 have e0 : (fun (r1 : ByteArray) (v2 : Int) (v3 : Int) => zl0 (la k [] [.r, .r, .r, .r, .r, .l, .r, .b] k) a2 r1 v2 v3) = (fun (r1 : ByteArray) (v2 : Int) (v3 : Int) => l0 k a2 r1 k v2 v3) := by funext r1 v2 v3; exact l0_eq k a2 r1 k v2 v3
 have e1 : (fun (v4 : Int) (v5 : Int) => zl1 (la k [] [.r, .r, .r, .r, .r, .l, .r, .b] k) a0 a1 a2 v4 v5) = (fun (v4 : Int) (v5 : Int) => l1 k a0 a1 a2 k v4 v5) := by funext v4 v5; exact l1_eq k a0 a1 a2 k v4 v5
 have h : evFn (T := Int × Int) tab (calOf (cal k)) Go.Proofs.Try.f69 nt k 0 [.str a0, .int .i64 a1, .int .i64 a2, .bool a3] [] ⟨0, false, []⟩ (fun v st => outK ct.ob (γ0 ct) ct.outs v st .ok) (fun e st => outP ct.ob (γ0 ct) ct.outs e st .ok) = top k a0 a1 a2 a3 ((fun (r1 : ByteArray) (v2 : Int) (v3 : Int) => zl0 (la k [] [.r, .r, .r, .r, .r, .l, .r, .b] k) a2 r1 v2 v3)) ((fun (v4 : Int) (v5 : Int) => zl1 (la k [] [.r, .r, .r, .r, .r, .l, .r, .b] k) a0 a1 a2 v4 v5)) := by kernel_rfl
 exact h.trans (by rw [e0, e1]; rfl)
theorem ok (k : Nat) : FnOkC Try.prog 69 ct (fun (x : ByteArray × Int × Int × Bool) (_ : Unit) => S k x.1 x.2.1 x.2.2.1 x.2.2.2) :=
 FnOkC.of_ev (C := ct) tab_ok rfl (calOf_ok (cal_ok k)) mixed Try.func69 nt k (fun _ _ => rfl) (fun (x : ByteArray × Int × Int × Bool) (_ : Unit) => eq k x.1 x.2.1 x.2.2.1 x.2.2.2)
theorem hd {T : Type} (k : Nat) : HdOk Try.prog 69 (pureC (T := T) ct [] (fun (x : ByteArray × Int × Int × Bool) (_ : Unit) => S k x.1 x.2.1 x.2.2.1 x.2.2.2)) :=
 pureC_ok rfl [] (ok k) Try.call69
end F_words_Get
namespace F_desc_Parse
noncomputable def ct : Ct := ⟨.some (.one (.leaf .str) []), [], [⟨.tup (.cons (.agg (.cons (.leaf (.int .u64)) (.cons (.leaf (.int .u32)) (.cons (.leaf (.int .i64)) (.one (.leaf (.int .i64)) []))))) (.one (.leaf (.int .i64)) [])), [], []⟩]⟩
noncomputable def nt : Notes := ⟨[], [], [], [], []⟩
noncomputable def cal0 {T : Type} (k : Nat) : List (FuncId × Hd T) := [(69, pureC F_words_Get.ct [] (fun (x : ByteArray × Int × Int × Bool) (_ : Unit) => F_words_Get.S k x.1 x.2.1 x.2.2.1 x.2.2.2))]
theorem cal0_ok {T : Type} (k : Nat) : HdsOk Try.prog (cal0 (T := T) k) := ⟨F_words_Get.hd k, trivial⟩
noncomputable def nt68 : Notes := ⟨[], [], [], [], []⟩
noncomputable def cal1 {T : Type} (k : Nat) : List (FuncId × Hd T) := (68, inlH tab (calOf (cal0 k)) Go.Proofs.Try.f68 nt68 k) :: cal0 k
theorem cal1_ok {T : Type} (k : Nat) : HdsOk Try.prog (cal1 (T := T) k) := ⟨inlH_ok tab_ok (calOf_ok (cal0_ok k)) mixed Try.func68 nt68 k Try.call68, cal0_ok k⟩
noncomputable def cal {T : Type} (k : Nat) : List (FuncId × Hd T) := cal1 k
theorem cal_ok {T : Type} (k : Nat) : HdsOk Try.prog (cal (T := T) k) := cal1_ok k
noncomputable def S (k : Nat) (a0 : ByteArray) : O (TY6 × Int) :=
  O.cond (decide ((ByteArray.size a0 : Int) ≠ (16 : Int))) (
   .ok (((0 : Int), (0 : Int), (0 : Int), (0 : Int)), (1 : Int))) (
   O.bind (F_words_Get.S k a0 (0 : Int) (8 : Int) false) fun r1 =>
   O.bind (F_words_Get.S k a0 (8 : Int) (4 : Int) false) fun r2 =>
   O.bind (F_words_Get.S k a0 (12 : Int) (2 : Int) false) fun r3 =>
   O.bind (F_words_Get.S k a0 (14 : Int) (2 : Int) false) fun r4 =>
   .ok ((r1.1, (IntKind.u32.wrap r2.1), (IntKind.i64.wrap r3.1), (IntKind.i64.wrap r4.1)), (0 : Int)))
theorem eq (k : Nat) (a0 : ByteArray) : evFn (T := TY6 × Int) tab (calOf (cal k)) Go.Proofs.Try.f43 nt k 0 [.str a0] [] ⟨0, false, []⟩ (fun v st => outK ct.ob (γ0 ct) ct.outs v st .ok) (fun e st => outP ct.ob (γ0 ct) ct.outs e st .ok) = S k a0 := by kernel_rfl
theorem ok (k : Nat) : FnOkC Try.prog 43 ct (fun (x : ByteArray) (_ : Unit) => S k x) :=
 FnOkC.of_ev (C := ct) tab_ok rfl (calOf_ok (cal_ok k)) mixed Try.func43 nt k (fun _ _ => rfl) (fun (x : ByteArray) (_ : Unit) => eq k x)
theorem hd {T : Type} (k : Nat) : HdOk Try.prog 43 (pureC (T := T) ct [] (fun (x : ByteArray) (_ : Unit) => S k x)) :=
 pureC_ok rfl [] (ok k) Try.call43
end F_desc_Parse
namespace F_desc_says
noncomputable def ct : Ct := ⟨.some (.cons (.leaf (.int .i64)) (.one (.leaf .bool) [])), [], [⟨.val (.leaf (.int .i64)), [], []⟩]⟩
noncomputable def nt : Notes := ⟨[], [], [], [], []⟩
noncomputable def cal0 {T : Type} (k : Nat) : List (FuncId × Hd T) := []
theorem cal0_ok {T : Type} (k : Nat) : HdsOk Try.prog (cal0 (T := T) k) := trivial
noncomputable def cal {T : Type} (k : Nat) : List (FuncId × Hd T) := cal0 k
theorem cal_ok {T : Type} (k : Nat) : HdsOk Try.prog (cal (T := T) k) := cal0_ok k
noncomputable def S (k : Nat) (a0 : Int) (a1 : Bool) : O Int :=
  O.cond (decide ((decide ((bAnd .i64 a0 (128 : Int)) ≠ (0 : Int))) = (decide ((bAnd .i64 a0 (32768 : Int)) ≠ (0 : Int))))) (
   O.cond (decide ((decide ((bAnd .i64 a0 (128 : Int)) ≠ (0 : Int))) = a1)) (
    .ok (2 : Int)) (
    O.cond (decide ((decide ((bAnd .i64 a0 (128 : Int)) ≠ (0 : Int))) ≠ (decide ((bAnd .i64 a0 (32768 : Int)) ≠ (0 : Int))))) (
     O.cond (decide ((decide ((bAnd .i64 a0 (128 : Int)) ≠ (0 : Int))) = a1)) (
      .ok (1 : Int)) (
      .ok (0 : Int))) (
     .ok (0 : Int)))) (
   O.cond (decide ((decide ((bAnd .i64 a0 (128 : Int)) ≠ (0 : Int))) ≠ (decide ((bAnd .i64 a0 (32768 : Int)) ≠ (0 : Int))))) (
    O.cond (decide ((decide ((bAnd .i64 a0 (128 : Int)) ≠ (0 : Int))) = a1)) (
     .ok (1 : Int)) (
     .ok (0 : Int))) (
    .ok (0 : Int)))
theorem eq (k : Nat) (a0 : Int) (a1 : Bool) : evFn (T := Int) tab (calOf (cal k)) Go.Proofs.Try.f70 nt k 0 [.int .i64 a0, .bool a1] [] ⟨0, false, []⟩ (fun v st => outK ct.ob (γ0 ct) ct.outs v st .ok) (fun e st => outP ct.ob (γ0 ct) ct.outs e st .ok) = S k a0 a1 := by kernel_rfl
theorem ok (k : Nat) : FnOkC Try.prog 70 ct (fun (x : Int × Bool) (_ : Unit) => S k x.1 x.2) :=
 FnOkC.of_ev (C := ct) tab_ok rfl (calOf_ok (cal_ok k)) mixed Try.func70 nt k (fun _ _ => rfl) (fun (x : Int × Bool) (_ : Unit) => eq k x.1 x.2)
theorem hd {T : Type} (k : Nat) : HdOk Try.prog 70 (pureC (T := T) ct [] (fun (x : Int × Bool) (_ : Unit) => S k x.1 x.2)) :=
 pureC_ok rfl [] (ok k) Try.call70
end F_desc_says
namespace F_desc_Used
noncomputable def ct : Ct := ⟨.some (.cons (.leaf (.int .i64)) (.one (.leaf .bool) [])), [], [⟨.val (.leaf .bool), [], []⟩]⟩
noncomputable def nt : Notes := ⟨[], [], [], [], []⟩
noncomputable def cal0 {T : Type} (k : Nat) : List (FuncId × Hd T) := [(70, pureC F_desc_says.ct [] (fun (x : Int × Bool) (_ : Unit) => F_desc_says.S k x.1 x.2))]
theorem cal0_ok {T : Type} (k : Nat) : HdsOk Try.prog (cal0 (T := T) k) := ⟨F_desc_says.hd k, trivial⟩
noncomputable def cal {T : Type} (k : Nat) : List (FuncId × Hd T) := cal0 k
theorem cal_ok {T : Type} (k : Nat) : HdsOk Try.prog (cal (T := T) k) := cal0_ok k
noncomputable def S (k : Nat) (a0 : Int) (a1 : Bool) : O Bool :=
 O.bind (F_desc_says.S k a0 a1) fun r1 =>
 .ok (decide (r1 = (2 : Int)))
theorem eq (k : Nat) (a0 : Int) (a1 : Bool) : evFn (T := Bool) tab (calOf (cal k)) Go.Proofs.Try.f44 nt k 0 [.int .i64 a0, .bool a1] [] ⟨0, false, []⟩ (fun v st => outK ct.ob (γ0 ct) ct.outs v st .ok) (fun e st => outP ct.ob (γ0 ct) ct.outs e st .ok) = S k a0 a1 := by kernel_rfl
theorem ok (k : Nat) : FnOkC Try.prog 44 ct (fun (x : Int × Bool) (_ : Unit) => S k x.1 x.2) :=
 FnOkC.of_ev (C := ct) tab_ok rfl (calOf_ok (cal_ok k)) mixed Try.func44 nt k (fun _ _ => rfl) (fun (x : Int × Bool) (_ : Unit) => eq k x.1 x.2)
theorem hd {T : Type} (k : Nat) : HdOk Try.prog 44 (pureC (T := T) ct [] (fun (x : Int × Bool) (_ : Unit) => S k x.1 x.2)) :=
 pureC_ok rfl [] (ok k) Try.call44
end F_desc_Used
namespace F_drvq_Queue_Reap
noncomputable def ct : Ct := ⟨.some (.pins [.ref 0]), [(95, .pin (.ref 1) (.cons (.agg (.cons (.leaf (.int .i64)) (.cons (.leaf (.int .i64)) (.cons (.leaf (.int .i64)) (.one (.leaf (.int .i64)) []))))) (.cons (.agg (.cons (.leaf (.int .i64)) (.one (.leaf .bool) []))) (.cons (.agg (.cons (.leaf (.int .i64)) (.one (.leaf .bool) []))) (.cons (.agg (.cons (.leaf (.int .i64)) (.one (.leaf .bool) []))) (.cons (.leaf (.int .i64)) (.cons (.leaf (.int .i64)) (.one (.map 93 false false [.int .i64] [.int .i64]) [])))))))), (92, .cons (.row true 5 [.int .u8]) (.cons (.leaf (.int .i64)) (.one (.row true 121 [.int .i64, .int .i64, .int .i64, .bool]) [])))], [⟨.tup (.cons (.leaf (.int .i64)) (.cons (.leaf (.int .i64)) (.cons (.leaf .bool) (.one (.leaf (.int .i64)) [])))), [], []⟩]⟩
noncomputable def nt : Notes := ⟨[], [], [(1, [0, 1, 2, 3, 4, 5, 6, 7, 8, 9, 10, 11, 12, 13, 14, 15, 16, 17, 18, 19, 20, 21]), (3, [0, 1, 2, 3, 4, 5, 6, 7, 8]), (5, [0, 1, 2, 3, 4, 5, 6, 7, 8, 9, 10, 11]), (8, [0, 1, 2, 3, 4, 5, 6]), (10, [0, 1, 2, 3, 4, 5, 6, 7, 8, 9, 10, 11, 12, 13, 14, 15, 16, 17]), (11, [0, 1, 2, 3, 4, 5, 6, 7, 8])], [], []⟩
noncomputable def cal0 {T : Type} (k : Nat) : List (FuncId × Hd T) := [(41, pureC F_spot_Next.ct [] (fun (x : (Int × Bool) × Int × Int) (_ : Unit) => F_spot_Next.S k x.1 x.2.1 x.2.2)), (42, pureC F_gmem_Memory_Read.ct [.arg 0 0] (fun (x : Int × Int) (g : List Int × Int × TY1) => F_gmem_Memory_Read.S k x.1 x.2 g)), (43, pureC F_desc_Parse.ct [] (fun (x : ByteArray) (_ : Unit) => F_desc_Parse.S k x)), (44, pureC F_desc_Used.ct [] (fun (x : Int × Bool) (_ : Unit) => F_desc_Used.S k x.1 x.2))]
theorem cal0_ok {T : Type} (k : Nat) : HdsOk Try.prog (cal0 (T := T) k) := ⟨F_spot_Next.hd k, F_gmem_Memory_Read.hd k, F_desc_Parse.hd k, F_desc_Used.hd k, trivial⟩
noncomputable def cal {T : Type} (k : Nat) : List (FuncId × Hd T) := cal0 k
theorem cal_ok {T : Type} (k : Nat) : HdsOk Try.prog (cal (T := T) k) := cal0_ok k
noncomputable def S (k : Nat) (g0 : TY6 × (Int × Bool) × (Int × Bool) × (Int × Bool) × Int × Int × TY7) (g1 : List Int × Int × TY1) : O ((Int × Int × Bool × Int) × TY3 × TY4) :=
  O.bind (F_gmem_Memory_Read.S k (IntKind.i64.wrap (g0.1.1 + (IntKind.i64.wrap ((16 : Int) * g0.2.2.1.1)))) (16 : Int) g1) fun r2 =>
  O.bind (F_desc_Parse.S k r2.1.1) fun r4 =>
  O.bind (F_desc_Used.S k r4.1.2.2.2 g0.2.2.1.2) fun r6 =>
  O.cond (!r6) (
   .ok (((0 : Int), (0 : Int), false, (0 : Int)), (g0, r2.2))) (
   O.cond (!(mhas g0.2.2.2.2.2.2 r4.1.2.2.1)) (
    .ok (((0 : Int), (0 : Int), false, (150 : Int)), (g0, r2.2))) (
    O.bind (F_spot_Next.S k g0.2.2.1 (mget (0 : Int) g0.2.2.2.2.2.2 r4.1.2.2.1) g0.1.2.1) fun r7 =>
    .ok ((r4.1.2.2.1, (IntKind.i64.wrap r4.1.2.1), true, (0 : Int)), ((g0.1, g0.2.1, r7.1, g0.2.2.2.1, g0.2.2.2.2.1, (IntKind.i64.wrap (g0.2.2.2.2.2.1 + (mget (0 : Int) g0.2.2.2.2.2.2 r4.1.2.2.1))), (mdel g0.2.2.2.2.2.2 r4.1.2.2.1)), r2.2))))
theorem eq (k : Nat) (g0 : TY6 × (Int × Bool) × (Int × Bool) × (Int × Bool) × Int × Int × TY7) (g1 : List Int × Int × TY1) : evFn (T := (Int × Int × Bool × Int) × TY3 × TY4) tab (calOf (cal k)) Go.Proofs.Try.f15 nt k 2 [.ptr 0 0] [] ⟨5, false, [(1, .cells 92 [.osl 3, .int .i64 g1.2.1, .osl 4]), (4, .row true 121 [.int .i64, .int .i64, .int .i64, .bool] g1.2.2), (3, .row true 5 [.int .u8] g1.1), (0, .cells 95 [.ptr 1 0, .int .i64 g0.1.1, .int .i64 g0.1.2.1, .int .i64 g0.1.2.2.1, .int .i64 g0.1.2.2.2, .int .i64 g0.2.1.1, .bool g0.2.1.2, .int .i64 g0.2.2.1.1, .bool g0.2.2.1.2, .int .i64 g0.2.2.2.1.1, .bool g0.2.2.2.1.2, .int .i64 g0.2.2.2.2.1, .int .i64 g0.2.2.2.2.2.1, .mp 2]), (2, .map 93 false false [.int .i64] [.int .i64] g0.2.2.2.2.2.2)]⟩ (fun v st => outK ct.ob (γ0 ct) ct.outs v st .ok) (fun e st => outP ct.ob (γ0 ct) ct.outs e st .ok) = S k g0 g1 := by kernel_rfl
theorem ok (k : Nat) : FnOkC Try.prog 15 ct (fun (_ : Unit) (g : TY3 × TY4) => S k g.1 g.2) :=
 FnOkC.of_ev (C := ct) tab_ok rfl (calOf_ok (cal_ok k)) mixed Try.func15 nt k (fun _ _ => rfl) (fun (_ : Unit) (g : TY3 × TY4) => eq k g.1 g.2)
theorem hd {T : Type} (k : Nat) : HdOk Try.prog 15 (pureC (T := T) ct [.arg 0 0, .fld 0 0] (fun (_ : Unit) (g : TY3 × TY4) => S k g.1 g.2)) :=
 pureC_ok rfl [.arg 0 0, .fld 0 0] (ok k) Try.call15
end F_drvq_Queue_Reap
namespace F_aqueductref04_New
noncomputable def ct : Ct := ⟨.some (.one (.leaf (.int .i64)) []), [], [⟨.tup (.pin (.nil) (.one (.leaf (.int .i64)) [])), [], []⟩, ⟨.tup (.pin (.ref 0) (.one (.leaf (.int .i64)) [])), [(90, .cons (.leaf .str) (.cons (.leaf (.int .i64)) (.one (.row true 121 [.int .i64, .int .i64, .int .i64, .bool]) [])))], [.arg 0 0]⟩]⟩
noncomputable def nt : Notes := ⟨[], [], [], [], []⟩
noncomputable def cal0 {T : Type} (k : Nat) : List (FuncId × Hd T) := []
theorem cal0_ok {T : Type} (k : Nat) : HdsOk Try.prog (cal0 (T := T) k) := trivial
noncomputable def cal {T : Type} (k : Nat) : List (FuncId × Hd T) := cal0 k
theorem cal_ok {T : Type} (k : Nat) : HdsOk Try.prog (cal (T := T) k) := cal0_ok k
noncomputable def S (k : Nat) (a0 : Int) : O (Int ⊕ (Int × ByteArray × Int × TY1)) :=
  O.cond (decide (a0 < (64 : Int))) (
   .ok (.inl (40 : Int))) (
   O.cond (decide (a0 > (1048576 : Int))) (
    .ok (.inl (40 : Int))) (
    O.chk (decide (0 ≤ a0 ∧ a0 = a0 ∧ a0 ≤ 1073741824)) (
     .ok (.inr ((0 : Int), ((Go.Aq.strOf (List.replicate a0.toNat (0 : Int))), (0 : Int), []))))))
theorem eq (k : Nat) (a0 : Int) : evFn (T := Int ⊕ (Int × ByteArray × Int × TY1)) tab (calOf (cal k)) Go.Proofs.Try.f32 nt k 0 [.int .i64 a0] [] ⟨0, false, []⟩ (fun v st => outK ct.ob (γ0 ct) ct.outs v st .ok) (fun e st => outP ct.ob (γ0 ct) ct.outs e st .ok) = S k a0 := by kernel_rfl
theorem ok (k : Nat) : FnOkC Try.prog 32 ct (fun (x : Int) (_ : Unit) => S k x) :=
 FnOkC.of_ev (C := ct) tab_ok rfl (calOf_ok (cal_ok k)) mixed Try.func32 nt k (fun _ _ => rfl) (fun (x : Int) (_ : Unit) => eq k x)
theorem hd {T : Type} (k : Nat) : HdOk Try.prog 32 (pureC (T := T) ct [] (fun (x : Int) (_ : Unit) => S k x)) :=
 pureC_ok rfl [] (ok k) Try.call32
end F_aqueductref04_New
namespace F_aqueductref04_Memory_May
noncomputable def ct : Ct := ⟨.some (.pin (.ref 0) (.cons (.leaf (.int .i64)) (.one (.leaf (.int .i64)) []))), [(90, .cons (.leaf .str) (.cons (.leaf (.int .i64)) (.one (.row true 121 [.int .i64, .int .i64, .int .i64, .bool]) [])))], [⟨.val (.leaf .bool), [], []⟩]⟩
noncomputable def nt : Notes := ⟨[], [], [], [], []⟩
noncomputable def cal0 {T : Type} (k : Nat) : List (FuncId × Hd T) := []
theorem cal0_ok {T : Type} (k : Nat) : HdsOk Try.prog (cal0 (T := T) k) := trivial
noncomputable def cal {T : Type} (k : Nat) : List (FuncId × Hd T) := cal0 k
theorem cal_ok {T : Type} (k : Nat) : HdsOk Try.prog (cal (T := T) k) := cal0_ok k
noncomputable def S (k : Nat) (a1 : Int) (a2 : Int) (g0 : ByteArray × Int × TY1) : O Bool :=
  O.cond (decide (a1 ≥ (0 : Int))) (
   O.cond (decide (a2 ≥ (0 : Int))) (
    O.cond (decide (a2 ≤ (ByteArray.size g0.1 : Int))) (
     .ok (decide (a1 ≤ (IntKind.i64.wrap ((ByteArray.size g0.1 : Int) - a2))))) (
     .ok false)) (
    .ok false)) (
   .ok false)
theorem eq (k : Nat) (a1 : Int) (a2 : Int) (g0 : ByteArray × Int × TY1) : evFn (T := Bool) tab (calOf (cal k)) Go.Proofs.Try.f59 nt k 1 [.ptr 0 0, .int .i64 a1, .int .i64 a2] [] ⟨2, false, [(0, .cells 90 [.str g0.1, .int .i64 g0.2.1, .osl 1]), (1, .row true 121 [.int .i64, .int .i64, .int .i64, .bool] g0.2.2)]⟩ (fun v st => ifb st.dirty .no (outK [] [] ct.outs v st .ok)) (fun e st => ifb st.dirty .no (outP [] [] ct.outs e st .ok)) = S k a1 a2 g0 := by kernel_rfl
theorem ok (k : Nat) : FnOkR Try.prog 59 ct (fun (x : Int × Int) (g : ByteArray × Int × TY1) => S k x.1 x.2 g) :=
 FnOkR.of_ev (C := ct) tab_ok rfl (calOf_ok (cal_ok k)) mixed Try.func59 nt k (fun _ _ => rfl) (fun (x : Int × Int) (g : ByteArray × Int × TY1) => eq k x.1 x.2 g)
theorem hd {T : Type} (k : Nat) : HdOk Try.prog 59 (pureR (T := T) ct [.arg 0 0] (fun (x : Int × Int) (g : ByteArray × Int × TY1) => S k x.1 x.2 g)) :=
 pureR_ok rfl [.arg 0 0] (ok k) Try.call59
end F_aqueductref04_Memory_May
namespace F_aqueductref04_Memory_note
noncomputable def ct : Ct := ⟨.some (.pin (.ref 0) (.cons (.leaf (.int .i64)) (.cons (.leaf (.int .i64)) (.one (.leaf .bool) [])))), [(90, .cons (.leaf .str) (.cons (.leaf (.int .i64)) (.one (.row true 121 [.int .i64, .int .i64, .int .i64, .bool]) [])))], [⟨.unit, [], []⟩]⟩
noncomputable def nt : Notes := ⟨[], [], [(1, [0, 2, 3, 4, 5, 7, 8, 9, 11, 12, 13, 1, 6, 10, 14, 15, 16, 17, 18, 19])], [], [(1, [], [], [20])]⟩
noncomputable def cal0 {T : Type} (k : Nat) : List (FuncId × Hd T) := []
theorem cal0_ok {T : Type} (k : Nat) : HdsOk Try.prog (cal0 (T := T) k) := trivial
noncomputable def cal {T : Type} (k : Nat) : List (FuncId × Hd T) := cal0 k
theorem cal_ok {T : Type} (k : Nat) : HdsOk Try.prog (cal (T := T) k) := cal0_ok k
noncomputable def S (k : Nat) (a1 : Int) (a2 : Int) (a3 : Bool) (g0 : ByteArray × Int × TY1) : O (ByteArray × Int × TY1) :=
  O.cond (decide (a2 > (0 : Int))) (
   O.same (
    O.same (
     O.chk (decide ((0 : Nat) + List.length g0.2.2 ≤ 1073741824)) (
      O.chk (decide (List.length ([] ++ g0.2.2) + List.length [(g0.2.1, a1, a2, a3)] ≤ 1073741824)) (
       O.cond (decide ((List.length (([] ++ g0.2.2) ++ [(g0.2.1, a1, a2, a3)]) : Int) > (4096 : Int))) (
        O.chk (decide (0 ≤ (1 : Int) ∧ (1 : Int) ≤ (List.length (([] ++ g0.2.2) ++ [(g0.2.1, a1, a2, a3)]) : Int)) && (decide (0 ≤ (List.length (([] ++ g0.2.2) ++ [(g0.2.1, a1, a2, a3)]) : Int) ∧ (List.length (([] ++ g0.2.2) ++ [(g0.2.1, a1, a2, a3)]) : Int) ≤ (List.length (([] ++ g0.2.2) ++ [(g0.2.1, a1, a2, a3)]) : Int)))) (
         .no)) (
        .ok (g0.1, g0.2.1, (([] ++ g0.2.2) ++ [(g0.2.1, a1, a2, a3)])))))) (
     O.twice (
      O.chk (decide ((0 : Nat) + List.length g0.2.2 ≤ 1073741824)) (
       O.chk (decide (List.length ([] ++ g0.2.2) + List.length [(g0.2.1, a1, a2, a3)] ≤ 1073741824)) (
        O.cond (decide ((List.length (([] ++ g0.2.2) ++ [(g0.2.1, a1, a2, a3)]) : Int) > (4096 : Int))) (
         O.chk (decide (0 ≤ (1 : Int) ∧ (1 : Int) ≤ (List.length (([] ++ g0.2.2) ++ [(g0.2.1, a1, a2, a3)]) : Int)) && (decide (0 ≤ (List.length (([] ++ g0.2.2) ++ [(g0.2.1, a1, a2, a3)]) : Int) ∧ (List.length (([] ++ g0.2.2) ++ [(g0.2.1, a1, a2, a3)]) : Int) ≤ (List.length (([] ++ g0.2.2) ++ [(g0.2.1, a1, a2, a3)]) : Int)))) (
          .no)) (
         .ok (g0.1, g0.2.1, (([] ++ g0.2.2) ++ [(g0.2.1, a1, a2, a3)])))))))) (
    O.same (
     O.twice (
      O.chk (decide ((0 : Nat) + List.length g0.2.2 ≤ 1073741824)) (
       O.chk (decide (List.length ([] ++ g0.2.2) + List.length [(g0.2.1, a1, a2, a3)] ≤ 1073741824)) (
        O.cond (decide ((List.length (([] ++ g0.2.2) ++ [(g0.2.1, a1, a2, a3)]) : Int) > (4096 : Int))) (
         O.chk (decide (0 ≤ (1 : Int) ∧ (1 : Int) ≤ (List.length (([] ++ g0.2.2) ++ [(g0.2.1, a1, a2, a3)]) : Int)) && (decide (0 ≤ (List.length (([] ++ g0.2.2) ++ [(g0.2.1, a1, a2, a3)]) : Int) ∧ (List.length (([] ++ g0.2.2) ++ [(g0.2.1, a1, a2, a3)]) : Int) ≤ (List.length (([] ++ g0.2.2) ++ [(g0.2.1, a1, a2, a3)]) : Int)))) (
          .no)) (
         .ok (g0.1, g0.2.1, (([] ++ g0.2.2) ++ [(g0.2.1, a1, a2, a3)]))))))) (
     O.chk (decide ((0 : Nat) + List.length g0.2.2 ≤ 1073741824)) (
      O.chk (decide (List.length ([] ++ g0.2.2) + List.length [(g0.2.1, a1, a2, a3)] ≤ 1073741824)) (
       O.cond (decide ((List.length (([] ++ g0.2.2) ++ [(g0.2.1, a1, a2, a3)]) : Int) > (4096 : Int))) (
        O.chk (decide (0 ≤ (1 : Int) ∧ (1 : Int) ≤ (List.length (([] ++ g0.2.2) ++ [(g0.2.1, a1, a2, a3)]) : Int)) && (decide (0 ≤ (List.length (([] ++ g0.2.2) ++ [(g0.2.1, a1, a2, a3)]) : Int) ∧ (List.length (([] ++ g0.2.2) ++ [(g0.2.1, a1, a2, a3)]) : Int) ≤ (List.length (([] ++ g0.2.2) ++ [(g0.2.1, a1, a2, a3)]) : Int)))) (
         .no)) (
        .ok (g0.1, g0.2.1, (([] ++ g0.2.2) ++ [(g0.2.1, a1, a2, a3)])))))))) (
   O.cond (decide ((List.length g0.2.2 : Int) > (4096 : Int))) (
    O.chk (decide (0 ≤ (1 : Int) ∧ (1 : Int) ≤ (List.length g0.2.2 : Int)) && (decide (0 ≤ (List.length g0.2.2 : Int) ∧ (List.length g0.2.2 : Int) ≤ (List.length g0.2.2 : Int)))) (
     .no)) (
    .ok g0))
theorem eq (k : Nat) (a1 : Int) (a2 : Int) (a3 : Bool) (g0 : ByteArray × Int × TY1) : evFn (T := ByteArray × Int × TY1) tab (calOf (cal k)) Go.Proofs.Try.f60 nt k 1 [.ptr 0 0, .int .i64 a1, .int .i64 a2, .bool a3] [] ⟨2, false, [(0, .cells 90 [.str g0.1, .int .i64 g0.2.1, .osl 1]), (1, .row true 121 [.int .i64, .int .i64, .int .i64, .bool] g0.2.2)]⟩ (fun v st => outK ct.ob (γ0 ct) ct.outs v st .ok) (fun e st => outP ct.ob (γ0 ct) ct.outs e st .ok) = S k a1 a2 a3 g0 := by kernel_rfl
theorem ok (k : Nat) : FnOkC Try.prog 60 ct (fun (x : Int × Int × Bool) (g : ByteArray × Int × TY1) => S k x.1 x.2.1 x.2.2 g) :=
 FnOkC.of_ev (C := ct) tab_ok rfl (calOf_ok (cal_ok k)) mixed Try.func60 nt k (fun _ _ => rfl) (fun (x : Int × Int × Bool) (g : ByteArray × Int × TY1) => eq k x.1 x.2.1 x.2.2 g)
theorem hd {T : Type} (k : Nat) : HdOk Try.prog 60 (pureC (T := T) ct [.arg 0 0] (fun (x : Int × Int × Bool) (g : ByteArray × Int × TY1) => S k x.1 x.2.1 x.2.2 g)) :=
 pureC_ok rfl [.arg 0 0] (ok k) Try.call60
end F_aqueductref04_Memory_note
namespace F_aqueductref14_Check
noncomputable def ct : Ct := ⟨.some (.pin (.ref 0) (.one (.agg (.cons (.leaf (.int .i64)) (.cons (.leaf (.int .i64)) (.cons (.leaf (.int .i64)) (.one (.leaf (.int .i64)) []))))) [])), [(90, .cons (.leaf .str) (.cons (.leaf (.int .i64)) (.one (.row true 121 [.int .i64, .int .i64, .int .i64, .bool]) [])))], [⟨.val (.leaf (.int .i64)), [], []⟩]⟩
noncomputable def nt : Notes := ⟨[], [], [], [], []⟩
noncomputable def cal0 {T : Type} (k : Nat) : List (FuncId × Hd T) := [(59, pureR F_aqueductref04_Memory_May.ct [.arg 0 0] (fun (x : Int × Int) (g : ByteArray × Int × TY1) => F_aqueductref04_Memory_May.S k x.1 x.2 g))]
theorem cal0_ok {T : Type} (k : Nat) : HdsOk Try.prog (cal0 (T := T) k) := ⟨F_aqueductref04_Memory_May.hd k, trivial⟩
noncomputable def cal {T : Type} (k : Nat) : List (FuncId × Hd T) := cal0 k
theorem cal_ok {T : Type} (k : Nat) : HdsOk Try.prog (cal (T := T) k) := cal0_ok k
noncomputable def S (k : Nat) (a1 : Int × Int × Int × Int) (g0 : ByteArray × Int × TY1) : O Int :=
  O.cond (decide (a1.2.1 < (1 : Int))) (
   .ok (140 : Int)) (
   O.cond (decide (a1.2.1 > (32768 : Int))) (
    .ok (140 : Int)) (
    O.cond (decide ((Int.tmod a1.1 (16 : Int)) ≠ (0 : Int))) (
     .ok (140 : Int)) (
     O.cond (decide ((Int.tmod a1.2.2.1 (4 : Int)) ≠ (0 : Int))) (
      .ok (140 : Int)) (
      O.cond (decide ((Int.tmod a1.2.2.2 (4 : Int)) ≠ (0 : Int))) (
       .ok (140 : Int)) (
       O.bind (F_aqueductref04_Memory_May.S k a1.1 (IntKind.i64.wrap ((16 : Int) * a1.2.1)) g0) fun r1 =>
       O.cond (!r1) (
        .ok (140 : Int)) (
        O.bind (F_aqueductref04_Memory_May.S k a1.2.2.1 (4 : Int) g0) fun r2 =>
        O.cond (!r2) (
         .ok (140 : Int)) (
         O.bind (F_aqueductref04_Memory_May.S k a1.2.2.2 (4 : Int) g0) fun r3 =>
         O.cond (!r3) (
          .ok (140 : Int)) (
          .ok (0 : Int)))))))))
theorem eq (k : Nat) (a1 : Int × Int × Int × Int) (g0 : ByteArray × Int × TY1) : evFn (T := Int) tab (calOf (cal k)) Go.Proofs.Try.f61 nt k 1 [.ptr 0 0, .agg [.int .i64 a1.1, .int .i64 a1.2.1, .int .i64 a1.2.2.1, .int .i64 a1.2.2.2]] [] ⟨2, false, [(0, .cells 90 [.str g0.1, .int .i64 g0.2.1, .osl 1]), (1, .row true 121 [.int .i64, .int .i64, .int .i64, .bool] g0.2.2)]⟩ (fun v st => ifb st.dirty .no (outK [] [] ct.outs v st .ok)) (fun e st => ifb st.dirty .no (outP [] [] ct.outs e st .ok)) = S k a1 g0 := by kernel_rfl
theorem ok (k : Nat) : FnOkR Try.prog 61 ct (fun (x : Int × Int × Int × Int) (g : ByteArray × Int × TY1) => S k x g) :=
 FnOkR.of_ev (C := ct) tab_ok rfl (calOf_ok (cal_ok k)) mixed Try.func61 nt k (fun _ _ => rfl) (fun (x : Int × Int × Int × Int) (g : ByteArray × Int × TY1) => eq k x g)
theorem hd {T : Type} (k : Nat) : HdOk Try.prog 61 (pureR (T := T) ct [.arg 0 0] (fun (x : Int × Int × Int × Int) (g : ByteArray × Int × TY1) => S k x g)) :=
 pureR_ok rfl [.arg 0 0] (ok k) Try.call61
end F_aqueductref14_Check
end Go.Proofs.Ytpfddjdkafjjfaa
end
section
namespace Go.Proofs.Ytpfddjdkafjjfaa
open Go.Aq
set_option linter.unusedVariables false
set_option maxRecDepth 100000
namespace F_aqueductref15_New
noncomputable def ct : Ct := ⟨.some (.pin (.ref 0) (.one (.agg (.cons (.leaf (.int .i64)) (.cons (.leaf (.int .i64)) (.cons (.leaf (.int .i64)) (.one (.leaf (.int .i64)) []))))) [])), [(90, .cons (.leaf .str) (.cons (.leaf (.int .i64)) (.one (.row true 121 [.int .i64, .int .i64, .int .i64, .bool]) [])))], [⟨.tup (.pin (.nil) (.one (.leaf (.int .i64)) [])), [], []⟩, ⟨.tup (.pin (.ref 1) (.one (.leaf (.int .i64)) [])), [(133, .pin (.ref 0) (.cons (.agg (.cons (.leaf (.int .i64)) (.cons (.leaf (.int .i64)) (.cons (.leaf (.int .i64)) (.one (.leaf (.int .i64)) []))))) (.cons (.agg (.cons (.leaf (.int .i64)) (.one (.leaf .bool) []))) (.cons (.agg (.cons (.leaf (.int .i64)) (.one (.leaf .bool) []))) (.cons (.agg (.cons (.leaf (.int .i64)) (.one (.leaf .bool) []))) (.cons (.leaf (.int .i64)) (.one (.row true 3 [.int .i64]) [])))))))], [.arg 0 0]⟩]⟩
noncomputable def nt : Notes := ⟨[], [], [(4, [0, 1, 2, 3, 4, 5, 6, 7, 8]), (5, [0, 1, 2, 3, 4, 5]), (6, [0, 1, 2, 3, 4, 5]), (8, [0, 1, 2, 3, 4, 5, 6, 7, 8, 9, 10, 11])], [], []⟩
noncomputable def cal0 {T : Type} (k : Nat) : List (FuncId × Hd T) := [(59, pureR F_aqueductref04_Memory_May.ct [.arg 0 0] (fun (x : Int × Int) (g : ByteArray × Int × TY1) => F_aqueductref04_Memory_May.S k x.1 x.2 g)), (60, pureC F_aqueductref04_Memory_note.ct [.arg 0 0] (fun (x : Int × Int × Bool) (g : ByteArray × Int × TY1) => F_aqueductref04_Memory_note.S k x.1 x.2.1 x.2.2 g)), (61, pureR F_aqueductref14_Check.ct [.arg 0 0] (fun (x : Int × Int × Int × Int) (g : ByteArray × Int × TY1) => F_aqueductref14_Check.S k x g))]
theorem cal0_ok {T : Type} (k : Nat) : HdsOk Try.prog (cal0 (T := T) k) := ⟨F_aqueductref04_Memory_May.hd k, F_aqueductref04_Memory_note.hd k, F_aqueductref14_Check.hd k, trivial⟩
noncomputable def nt33 : Notes := ⟨[], [], [(4, [0, 1, 2, 3, 4, 5, 6, 7, 8, 9, 10, 11, 12, 13, 14, 15, 16, 17, 18, 19, 20, 21])], [], []⟩
noncomputable def cal1 {T : Type} (k : Nat) : List (FuncId × Hd T) := (33, inlH tab (calOf (cal0 k)) Go.Proofs.Try.f33 nt33 k) :: cal0 k
theorem cal1_ok {T : Type} (k : Nat) : HdsOk Try.prog (cal1 (T := T) k) := ⟨inlH_ok tab_ok (calOf_ok (cal0_ok k)) mixed Try.func33 nt33 k Try.call33, cal0_ok k⟩
noncomputable def cal {T : Type} (k : Nat) : List (FuncId × Hd T) := cal1 k
theorem cal_ok {T : Type} (k : Nat) : HdsOk Try.prog (cal (T := T) k) := cal1_ok k
noncomputable def S (k : Nat) (a1 : Int × Int × Int × Int) (g0 : ByteArray × Int × TY1) : O ((Int × ByteArray × Int × TY1) ⊕ (Int × (ByteArray × Int × TY1) × (TY6 × (Int × Bool) × (Int × Bool) × (Int × Bool) × Int × List Int))) :=
  O.bind (F_aqueductref14_Check.S k a1 g0) fun r2 =>
  O.cond (decide (r2 ≠ (0 : Int))) (
   .ok (.inl (r2, g0))) (
   O.chk (decide (0 ≤ (IntKind.i64.wrap ((16 : Int) * a1.2.1)) ∧ (IntKind.i64.wrap ((16 : Int) * a1.2.1)) = (IntKind.i64.wrap ((16 : Int) * a1.2.1)) ∧ (IntKind.i64.wrap ((16 : Int) * a1.2.1)) ≤ 1073741824)) (
    O.bind (F_aqueductref04_Memory_May.S k a1.1 (ByteArray.size (Go.Aq.strOf (List.replicate (IntKind.i64.wrap ((16 : Int) * a1.2.1)).toNat (0 : Int))) : Int) g0) fun r3 =>
    O.cond (!r3) (
     O.chk (decide (0 ≤ (4 : Int) ∧ (4 : Int) = (4 : Int) ∧ (4 : Int) ≤ 1073741824)) (
      O.bind (F_aqueductref04_Memory_May.S k a1.2.2.1 (ByteArray.size (Go.Aq.strOf (List.replicate (4 : Int).toNat (0 : Int))) : Int) g0) fun r4 =>
      O.cond (!r4) (
       O.chk (decide (0 ≤ (4 : Int) ∧ (4 : Int) = (4 : Int) ∧ (4 : Int) ≤ 1073741824)) (
        O.bind (F_aqueductref04_Memory_May.S k a1.2.2.2 (ByteArray.size (Go.Aq.strOf (List.replicate (4 : Int).toNat (0 : Int))) : Int) g0) fun r5 =>
        O.cond (!r5) (
         O.chk (decide (0 ≤ a1.2.1 ∧ a1.2.1 = a1.2.1 ∧ a1.2.1 ≤ 1073741824)) (
          .ok (.inr ((0 : Int), (g0, (a1, ((0 : Int), true), ((0 : Int), true), ((0 : Int), true), (0 : Int), (List.replicate a1.2.1.toNat (0 : Int)))))))) (
         O.bind (F_aqueductref04_Memory_note.S k a1.2.2.2 (ByteArray.size (Go.Aq.strOf (List.replicate (4 : Int).toNat (0 : Int))) : Int) true g0) fun r6 =>
         O.chk (decide (0 ≤ a1.2.2.2 ∧ a1.2.2.2 ≤ (ByteArray.size r6.1 : Int))) (
          O.chk (decide (((ByteArray.size (ByteArray.extract r6.1 0 a1.2.2.2.toNat) + ByteArray.size (Go.Aq.strOf (List.replicate (4 : Int).toNat (0 : Int))) : Nat) : Int) ≤ 9223372036854775807)) (
           O.chk (decide (0 ≤ (IntKind.i64.wrap (a1.2.2.2 + (ByteArray.size (Go.Aq.strOf (List.replicate (4 : Int).toNat (0 : Int))) : Int))) ∧ (IntKind.i64.wrap (a1.2.2.2 + (ByteArray.size (Go.Aq.strOf (List.replicate (4 : Int).toNat (0 : Int))) : Int))) ≤ (ByteArray.size r6.1 : Int))) (
            O.chk (decide (((ByteArray.size ((ByteArray.extract r6.1 0 a1.2.2.2.toNat) ++ (Go.Aq.strOf (List.replicate (4 : Int).toNat (0 : Int)))) + ByteArray.size (ByteArray.extract r6.1 (IntKind.i64.wrap (a1.2.2.2 + (ByteArray.size (Go.Aq.strOf (List.replicate (4 : Int).toNat (0 : Int))) : Int))).toNat (ByteArray.size r6.1)) : Nat) : Int) ≤ 9223372036854775807)) (
             O.chk (decide (0 ≤ a1.2.1 ∧ a1.2.1 = a1.2.1 ∧ a1.2.1 ≤ 1073741824)) (
              .ok (.inr ((0 : Int), (((((ByteArray.extract r6.1 0 a1.2.2.2.toNat) ++ (Go.Aq.strOf (List.replicate (4 : Int).toNat (0 : Int)))) ++ (ByteArray.extract r6.1 (IntKind.i64.wrap (a1.2.2.2 + (ByteArray.size (Go.Aq.strOf (List.replicate (4 : Int).toNat (0 : Int))) : Int))).toNat (ByteArray.size r6.1))), r6.2.1, r6.2.2), (a1, ((0 : Int), true), ((0 : Int), true), ((0 : Int), true), (0 : Int), (List.replicate a1.2.1.toNat (0 : Int)))))))))))))) (
       O.bind (F_aqueductref04_Memory_note.S k a1.2.2.1 (ByteArray.size (Go.Aq.strOf (List.replicate (4 : Int).toNat (0 : Int))) : Int) true g0) fun r7 =>
       O.chk (decide (0 ≤ a1.2.2.1 ∧ a1.2.2.1 ≤ (ByteArray.size r7.1 : Int))) (
        O.chk (decide (((ByteArray.size (ByteArray.extract r7.1 0 a1.2.2.1.toNat) + ByteArray.size (Go.Aq.strOf (List.replicate (4 : Int).toNat (0 : Int))) : Nat) : Int) ≤ 9223372036854775807)) (
         O.chk (decide (0 ≤ (IntKind.i64.wrap (a1.2.2.1 + (ByteArray.size (Go.Aq.strOf (List.replicate (4 : Int).toNat (0 : Int))) : Int))) ∧ (IntKind.i64.wrap (a1.2.2.1 + (ByteArray.size (Go.Aq.strOf (List.replicate (4 : Int).toNat (0 : Int))) : Int))) ≤ (ByteArray.size r7.1 : Int))) (
          O.chk (decide (((ByteArray.size ((ByteArray.extract r7.1 0 a1.2.2.1.toNat) ++ (Go.Aq.strOf (List.replicate (4 : Int).toNat (0 : Int)))) + ByteArray.size (ByteArray.extract r7.1 (IntKind.i64.wrap (a1.2.2.1 + (ByteArray.size (Go.Aq.strOf (List.replicate (4 : Int).toNat (0 : Int))) : Int))).toNat (ByteArray.size r7.1)) : Nat) : Int) ≤ 9223372036854775807)) (
           O.chk (decide (0 ≤ (4 : Int) ∧ (4 : Int) = (4 : Int) ∧ (4 : Int) ≤ 1073741824)) (
            O.bind (F_aqueductref04_Memory_May.S k a1.2.2.2 (ByteArray.size (Go.Aq.strOf (List.replicate (4 : Int).toNat (0 : Int))) : Int) ((((ByteArray.extract r7.1 0 a1.2.2.1.toNat) ++ (Go.Aq.strOf (List.replicate (4 : Int).toNat (0 : Int)))) ++ (ByteArray.extract r7.1 (IntKind.i64.wrap (a1.2.2.1 + (ByteArray.size (Go.Aq.strOf (List.replicate (4 : Int).toNat (0 : Int))) : Int))).toNat (ByteArray.size r7.1))), r7.2.1, r7.2.2)) fun r8 =>
            O.cond (!r8) (
             O.chk (decide (0 ≤ a1.2.1 ∧ a1.2.1 = a1.2.1 ∧ a1.2.1 ≤ 1073741824)) (
              .ok (.inr ((0 : Int), (((((ByteArray.extract r7.1 0 a1.2.2.1.toNat) ++ (Go.Aq.strOf (List.replicate (4 : Int).toNat (0 : Int)))) ++ (ByteArray.extract r7.1 (IntKind.i64.wrap (a1.2.2.1 + (ByteArray.size (Go.Aq.strOf (List.replicate (4 : Int).toNat (0 : Int))) : Int))).toNat (ByteArray.size r7.1))), r7.2.1, r7.2.2), (a1, ((0 : Int), true), ((0 : Int), true), ((0 : Int), true), (0 : Int), (List.replicate a1.2.1.toNat (0 : Int)))))))) (
             O.bind (F_aqueductref04_Memory_note.S k a1.2.2.2 (ByteArray.size (Go.Aq.strOf (List.replicate (4 : Int).toNat (0 : Int))) : Int) true ((((ByteArray.extract r7.1 0 a1.2.2.1.toNat) ++ (Go.Aq.strOf (List.replicate (4 : Int).toNat (0 : Int)))) ++ (ByteArray.extract r7.1 (IntKind.i64.wrap (a1.2.2.1 + (ByteArray.size (Go.Aq.strOf (List.replicate (4 : Int).toNat (0 : Int))) : Int))).toNat (ByteArray.size r7.1))), r7.2.1, r7.2.2)) fun r9 =>
             O.chk (decide (0 ≤ a1.2.2.2 ∧ a1.2.2.2 ≤ (ByteArray.size r9.1 : Int))) (
              O.chk (decide (((ByteArray.size (ByteArray.extract r9.1 0 a1.2.2.2.toNat) + ByteArray.size (Go.Aq.strOf (List.replicate (4 : Int).toNat (0 : Int))) : Nat) : Int) ≤ 9223372036854775807)) (
               O.chk (decide (0 ≤ (IntKind.i64.wrap (a1.2.2.2 + (ByteArray.size (Go.Aq.strOf (List.replicate (4 : Int).toNat (0 : Int))) : Int))) ∧ (IntKind.i64.wrap (a1.2.2.2 + (ByteArray.size (Go.Aq.strOf (List.replicate (4 : Int).toNat (0 : Int))) : Int))) ≤ (ByteArray.size r9.1 : Int))) (
                O.chk (decide (((ByteArray.size ((ByteArray.extract r9.1 0 a1.2.2.2.toNat) ++ (Go.Aq.strOf (List.replicate (4 : Int).toNat (0 : Int)))) + ByteArray.size (ByteArray.extract r9.1 (IntKind.i64.wrap (a1.2.2.2 + (ByteArray.size (Go.Aq.strOf (List.replicate (4 : Int).toNat (0 : Int))) : Int))).toNat (ByteArray.size r9.1)) : Nat) : Int) ≤ 9223372036854775807)) (
                 O.chk (decide (0 ≤ a1.2.1 ∧ a1.2.1 = a1.2.1 ∧ a1.2.1 ≤ 1073741824)) (
                  .ok (.inr ((0 : Int), (((((ByteArray.extract r9.1 0 a1.2.2.2.toNat) ++ (Go.Aq.strOf (List.replicate (4 : Int).toNat (0 : Int)))) ++ (ByteArray.extract r9.1 (IntKind.i64.wrap (a1.2.2.2 + (ByteArray.size (Go.Aq.strOf (List.replicate (4 : Int).toNat (0 : Int))) : Int))).toNat (ByteArray.size r9.1))), r9.2.1, r9.2.2), (a1, ((0 : Int), true), ((0 : Int), true), ((0 : Int), true), (0 : Int), (List.replicate a1.2.1.toNat (0 : Int)))))))))))))))))))) (
     O.bind (F_aqueductref04_Memory_note.S k a1.1 (ByteArray.size (Go.Aq.strOf (List.replicate (IntKind.i64.wrap ((16 : Int) * a1.2.1)).toNat (0 : Int))) : Int) true g0) fun r10 =>
     O.chk (decide (0 ≤ a1.1 ∧ a1.1 ≤ (ByteArray.size r10.1 : Int))) (
      O.chk (decide (((ByteArray.size (ByteArray.extract r10.1 0 a1.1.toNat) + ByteArray.size (Go.Aq.strOf (List.replicate (IntKind.i64.wrap ((16 : Int) * a1.2.1)).toNat (0 : Int))) : Nat) : Int) ≤ 9223372036854775807)) (
       O.chk (decide (0 ≤ (IntKind.i64.wrap (a1.1 + (ByteArray.size (Go.Aq.strOf (List.replicate (IntKind.i64.wrap ((16 : Int) * a1.2.1)).toNat (0 : Int))) : Int))) ∧ (IntKind.i64.wrap (a1.1 + (ByteArray.size (Go.Aq.strOf (List.replicate (IntKind.i64.wrap ((16 : Int) * a1.2.1)).toNat (0 : Int))) : Int))) ≤ (ByteArray.size r10.1 : Int))) (
        O.chk (decide (((ByteArray.size ((ByteArray.extract r10.1 0 a1.1.toNat) ++ (Go.Aq.strOf (List.replicate (IntKind.i64.wrap ((16 : Int) * a1.2.1)).toNat (0 : Int)))) + ByteArray.size (ByteArray.extract r10.1 (IntKind.i64.wrap (a1.1 + (ByteArray.size (Go.Aq.strOf (List.replicate (IntKind.i64.wrap ((16 : Int) * a1.2.1)).toNat (0 : Int))) : Int))).toNat (ByteArray.size r10.1)) : Nat) : Int) ≤ 9223372036854775807)) (
         O.chk (decide (0 ≤ (4 : Int) ∧ (4 : Int) = (4 : Int) ∧ (4 : Int) ≤ 1073741824)) (
          O.bind (F_aqueductref04_Memory_May.S k a1.2.2.1 (ByteArray.size (Go.Aq.strOf (List.replicate (4 : Int).toNat (0 : Int))) : Int) ((((ByteArray.extract r10.1 0 a1.1.toNat) ++ (Go.Aq.strOf (List.replicate (IntKind.i64.wrap ((16 : Int) * a1.2.1)).toNat (0 : Int)))) ++ (ByteArray.extract r10.1 (IntKind.i64.wrap (a1.1 + (ByteArray.size (Go.Aq.strOf (List.replicate (IntKind.i64.wrap ((16 : Int) * a1.2.1)).toNat (0 : Int))) : Int))).toNat (ByteArray.size r10.1))), r10.2.1, r10.2.2)) fun r11 =>
          O.cond (!r11) (
           O.chk (decide (0 ≤ (4 : Int) ∧ (4 : Int) = (4 : Int) ∧ (4 : Int) ≤ 1073741824)) (
            O.bind (F_aqueductref04_Memory_May.S k a1.2.2.2 (ByteArray.size (Go.Aq.strOf (List.replicate (4 : Int).toNat (0 : Int))) : Int) ((((ByteArray.extract r10.1 0 a1.1.toNat) ++ (Go.Aq.strOf (List.replicate (IntKind.i64.wrap ((16 : Int) * a1.2.1)).toNat (0 : Int)))) ++ (ByteArray.extract r10.1 (IntKind.i64.wrap (a1.1 + (ByteArray.size (Go.Aq.strOf (List.replicate (IntKind.i64.wrap ((16 : Int) * a1.2.1)).toNat (0 : Int))) : Int))).toNat (ByteArray.size r10.1))), r10.2.1, r10.2.2)) fun r12 =>
            O.cond (!r12) (
             O.chk (decide (0 ≤ a1.2.1 ∧ a1.2.1 = a1.2.1 ∧ a1.2.1 ≤ 1073741824)) (
              .ok (.inr ((0 : Int), (((((ByteArray.extract r10.1 0 a1.1.toNat) ++ (Go.Aq.strOf (List.replicate (IntKind.i64.wrap ((16 : Int) * a1.2.1)).toNat (0 : Int)))) ++ (ByteArray.extract r10.1 (IntKind.i64.wrap (a1.1 + (ByteArray.size (Go.Aq.strOf (List.replicate (IntKind.i64.wrap ((16 : Int) * a1.2.1)).toNat (0 : Int))) : Int))).toNat (ByteArray.size r10.1))), r10.2.1, r10.2.2), (a1, ((0 : Int), true), ((0 : Int), true), ((0 : Int), true), (0 : Int), (List.replicate a1.2.1.toNat (0 : Int)))))))) (
             O.bind (F_aqueductref04_Memory_note.S k a1.2.2.2 (ByteArray.size (Go.Aq.strOf (List.replicate (4 : Int).toNat (0 : Int))) : Int) true ((((ByteArray.extract r10.1 0 a1.1.toNat) ++ (Go.Aq.strOf (List.replicate (IntKind.i64.wrap ((16 : Int) * a1.2.1)).toNat (0 : Int)))) ++ (ByteArray.extract r10.1 (IntKind.i64.wrap (a1.1 + (ByteArray.size (Go.Aq.strOf (List.replicate (IntKind.i64.wrap ((16 : Int) * a1.2.1)).toNat (0 : Int))) : Int))).toNat (ByteArray.size r10.1))), r10.2.1, r10.2.2)) fun r13 =>
             O.chk (decide (0 ≤ a1.2.2.2 ∧ a1.2.2.2 ≤ (ByteArray.size r13.1 : Int))) (
              O.chk (decide (((ByteArray.size (ByteArray.extract r13.1 0 a1.2.2.2.toNat) + ByteArray.size (Go.Aq.strOf (List.replicate (4 : Int).toNat (0 : Int))) : Nat) : Int) ≤ 9223372036854775807)) (
               O.chk (decide (0 ≤ (IntKind.i64.wrap (a1.2.2.2 + (ByteArray.size (Go.Aq.strOf (List.replicate (4 : Int).toNat (0 : Int))) : Int))) ∧ (IntKind.i64.wrap (a1.2.2.2 + (ByteArray.size (Go.Aq.strOf (List.replicate (4 : Int).toNat (0 : Int))) : Int))) ≤ (ByteArray.size r13.1 : Int))) (
                O.chk (decide (((ByteArray.size ((ByteArray.extract r13.1 0 a1.2.2.2.toNat) ++ (Go.Aq.strOf (List.replicate (4 : Int).toNat (0 : Int)))) + ByteArray.size (ByteArray.extract r13.1 (IntKind.i64.wrap (a1.2.2.2 + (ByteArray.size (Go.Aq.strOf (List.replicate (4 : Int).toNat (0 : Int))) : Int))).toNat (ByteArray.size r13.1)) : Nat) : Int) ≤ 9223372036854775807)) (
                 O.chk (decide (0 ≤ a1.2.1 ∧ a1.2.1 = a1.2.1 ∧ a1.2.1 ≤ 1073741824)) (
                  .ok (.inr ((0 : Int), (((((ByteArray.extract r13.1 0 a1.2.2.2.toNat) ++ (Go.Aq.strOf (List.replicate (4 : Int).toNat (0 : Int)))) ++ (ByteArray.extract r13.1 (IntKind.i64.wrap (a1.2.2.2 + (ByteArray.size (Go.Aq.strOf (List.replicate (4 : Int).toNat (0 : Int))) : Int))).toNat (ByteArray.size r13.1))), r13.2.1, r13.2.2), (a1, ((0 : Int), true), ((0 : Int), true), ((0 : Int), true), (0 : Int), (List.replicate a1.2.1.toNat (0 : Int)))))))))))))) (
           O.bind (F_aqueductref04_Memory_note.S k a1.2.2.1 (ByteArray.size (Go.Aq.strOf (List.replicate (4 : Int).toNat (0 : Int))) : Int) true ((((ByteArray.extract r10.1 0 a1.1.toNat) ++ (Go.Aq.strOf (List.replicate (IntKind.i64.wrap ((16 : Int) * a1.2.1)).toNat (0 : Int)))) ++ (ByteArray.extract r10.1 (IntKind.i64.wrap (a1.1 + (ByteArray.size (Go.Aq.strOf (List.replicate (IntKind.i64.wrap ((16 : Int) * a1.2.1)).toNat (0 : Int))) : Int))).toNat (ByteArray.size r10.1))), r10.2.1, r10.2.2)) fun r14 =>
           O.chk (decide (0 ≤ a1.2.2.1 ∧ a1.2.2.1 ≤ (ByteArray.size r14.1 : Int))) (
            O.chk (decide (((ByteArray.size (ByteArray.extract r14.1 0 a1.2.2.1.toNat) + ByteArray.size (Go.Aq.strOf (List.replicate (4 : Int).toNat (0 : Int))) : Nat) : Int) ≤ 9223372036854775807)) (
             O.chk (decide (0 ≤ (IntKind.i64.wrap (a1.2.2.1 + (ByteArray.size (Go.Aq.strOf (List.replicate (4 : Int).toNat (0 : Int))) : Int))) ∧ (IntKind.i64.wrap (a1.2.2.1 + (ByteArray.size (Go.Aq.strOf (List.replicate (4 : Int).toNat (0 : Int))) : Int))) ≤ (ByteArray.size r14.1 : Int))) (
              O.chk (decide (((ByteArray.size ((ByteArray.extract r14.1 0 a1.2.2.1.toNat) ++ (Go.Aq.strOf (List.replicate (4 : Int).toNat (0 : Int)))) + ByteArray.size (ByteArray.extract r14.1 (IntKind.i64.wrap (a1.2.2.1 + (ByteArray.size (Go.Aq.strOf (List.replicate (4 : Int).toNat (0 : Int))) : Int))).toNat (ByteArray.size r14.1)) : Nat) : Int) ≤ 9223372036854775807)) (
               O.chk (decide (0 ≤ (4 : Int) ∧ (4 : Int) = (4 : Int) ∧ (4 : Int) ≤ 1073741824)) (
                O.bind (F_aqueductref04_Memory_May.S k a1.2.2.2 (ByteArray.size (Go.Aq.strOf (List.replicate (4 : Int).toNat (0 : Int))) : Int) ((((ByteArray.extract r14.1 0 a1.2.2.1.toNat) ++ (Go.Aq.strOf (List.replicate (4 : Int).toNat (0 : Int)))) ++ (ByteArray.extract r14.1 (IntKind.i64.wrap (a1.2.2.1 + (ByteArray.size (Go.Aq.strOf (List.replicate (4 : Int).toNat (0 : Int))) : Int))).toNat (ByteArray.size r14.1))), r14.2.1, r14.2.2)) fun r15 =>
                O.cond (!r15) (
                 O.chk (decide (0 ≤ a1.2.1 ∧ a1.2.1 = a1.2.1 ∧ a1.2.1 ≤ 1073741824)) (
                  .ok (.inr ((0 : Int), (((((ByteArray.extract r14.1 0 a1.2.2.1.toNat) ++ (Go.Aq.strOf (List.replicate (4 : Int).toNat (0 : Int)))) ++ (ByteArray.extract r14.1 (IntKind.i64.wrap (a1.2.2.1 + (ByteArray.size (Go.Aq.strOf (List.replicate (4 : Int).toNat (0 : Int))) : Int))).toNat (ByteArray.size r14.1))), r14.2.1, r14.2.2), (a1, ((0 : Int), true), ((0 : Int), true), ((0 : Int), true), (0 : Int), (List.replicate a1.2.1.toNat (0 : Int)))))))) (
                 O.bind (F_aqueductref04_Memory_note.S k a1.2.2.2 (ByteArray.size (Go.Aq.strOf (List.replicate (4 : Int).toNat (0 : Int))) : Int) true ((((ByteArray.extract r14.1 0 a1.2.2.1.toNat) ++ (Go.Aq.strOf (List.replicate (4 : Int).toNat (0 : Int)))) ++ (ByteArray.extract r14.1 (IntKind.i64.wrap (a1.2.2.1 + (ByteArray.size (Go.Aq.strOf (List.replicate (4 : Int).toNat (0 : Int))) : Int))).toNat (ByteArray.size r14.1))), r14.2.1, r14.2.2)) fun r16 =>
                 O.chk (decide (0 ≤ a1.2.2.2 ∧ a1.2.2.2 ≤ (ByteArray.size r16.1 : Int))) (
                  O.chk (decide (((ByteArray.size (ByteArray.extract r16.1 0 a1.2.2.2.toNat) + ByteArray.size (Go.Aq.strOf (List.replicate (4 : Int).toNat (0 : Int))) : Nat) : Int) ≤ 9223372036854775807)) (
                   O.chk (decide (0 ≤ (IntKind.i64.wrap (a1.2.2.2 + (ByteArray.size (Go.Aq.strOf (List.replicate (4 : Int).toNat (0 : Int))) : Int))) ∧ (IntKind.i64.wrap (a1.2.2.2 + (ByteArray.size (Go.Aq.strOf (List.replicate (4 : Int).toNat (0 : Int))) : Int))) ≤ (ByteArray.size r16.1 : Int))) (
                    O.chk (decide (((ByteArray.size ((ByteArray.extract r16.1 0 a1.2.2.2.toNat) ++ (Go.Aq.strOf (List.replicate (4 : Int).toNat (0 : Int)))) + ByteArray.size (ByteArray.extract r16.1 (IntKind.i64.wrap (a1.2.2.2 + (ByteArray.size (Go.Aq.strOf (List.replicate (4 : Int).toNat (0 : Int))) : Int))).toNat (ByteArray.size r16.1)) : Nat) : Int) ≤ 9223372036854775807)) (
                     O.chk (decide (0 ≤ a1.2.1 ∧ a1.2.1 = a1.2.1 ∧ a1.2.1 ≤ 1073741824)) (
                      .ok (.inr ((0 : Int), (((((ByteArray.extract r16.1 0 a1.2.2.2.toNat) ++ (Go.Aq.strOf (List.replicate (4 : Int).toNat (0 : Int)))) ++ (ByteArray.extract r16.1 (IntKind.i64.wrap (a1.2.2.2 + (ByteArray.size (Go.Aq.strOf (List.replicate (4 : Int).toNat (0 : Int))) : Int))).toNat (ByteArray.size r16.1))), r16.2.1, r16.2.2), (a1, ((0 : Int), true), ((0 : Int), true), ((0 : Int), true), (0 : Int), (List.replicate a1.2.1.toNat (0 : Int))))))))))))))))))))))))))
theorem eq (k : Nat) (a1 : Int × Int × Int × Int) (g0 : ByteArray × Int × TY1) : evFn (T := (Int × ByteArray × Int × TY1) ⊕ (Int × (ByteArray × Int × TY1) × (TY6 × (Int × Bool) × (Int × Bool) × (Int × Bool) × Int × List Int))) tab (calOf (cal k)) Go.Proofs.Try.f34 nt k 1 [.ptr 0 0, .agg [.int .i64 a1.1, .int .i64 a1.2.1, .int .i64 a1.2.2.1, .int .i64 a1.2.2.2]] [] ⟨2, false, [(0, .cells 90 [.str g0.1, .int .i64 g0.2.1, .osl 1]), (1, .row true 121 [.int .i64, .int .i64, .int .i64, .bool] g0.2.2)]⟩ (fun v st => outK ct.ob (γ0 ct) ct.outs v st .ok) (fun e st => outP ct.ob (γ0 ct) ct.outs e st .ok) = S k a1 g0 := by kernel_rfl
theorem ok (k : Nat) : FnOkC Try.prog 34 ct (fun (x : Int × Int × Int × Int) (g : ByteArray × Int × TY1) => S k x g) :=
 FnOkC.of_ev (C := ct) tab_ok rfl (calOf_ok (cal_ok k)) mixed Try.func34 nt k (fun _ _ => rfl) (fun (x : Int × Int × Int × Int) (g : ByteArray × Int × TY1) => eq k x g)
theorem hd {T : Type} (k : Nat) : HdOk Try.prog 34 (pureC (T := T) ct [.arg 0 0] (fun (x : Int × Int × Int × Int) (g : ByteArray × Int × TY1) => S k x g)) :=
 pureC_ok rfl [.arg 0 0] (ok k) Try.call34
end F_aqueductref15_New
namespace F_aqueductlaw15_laid
noncomputable def ct : Ct := ⟨.some (.one (.agg (.cons (.leaf (.int .i64)) (.cons (.agg (.cons (.leaf (.int .i64)) (.cons (.leaf (.int .i64)) (.cons (.leaf (.int .i64)) (.one (.leaf (.int .i64)) []))))) (.one (.tab false 36 (.cons (.leaf (.int .i64)) (.cons (.leaf (.int .i64)) (.cons (.leaf (.int .i64)) (.cons (.leaf (.int .i64)) (.cons (.row false 56 [.int .i64, .int .i64, .bool]) (.cons (.leaf .str) (.cons (.agg (.cons (.leaf (.int .i64)) (.cons (.leaf .bool) (.one (.leaf (.int .i64)) [])))) (.one (.leaf .bool) []))))))))) [])))) []), [], [⟨.tup (.pin (.nil) (.pin (.nil) (.pin (.nil) (.one (.leaf .bool) [])))), [], []⟩, ⟨.tup (.pin (.ref 0) (.pin (.nil) (.pin (.nil) (.one (.leaf .bool) [])))), [(92, .cons (.row true 5 [.int .u8]) (.cons (.leaf (.int .i64)) (.one (.row true 121 [.int .i64, .int .i64, .int .i64, .bool]) [])))], [.arg 0 0]⟩, ⟨.tup (.pin (.ref 0) (.pin (.nil) (.pin (.ref 1) (.one (.leaf .bool) [])))), [(92, .cons (.row true 5 [.int .u8]) (.cons (.leaf (.int .i64)) (.one (.row true 121 [.int .i64, .int .i64, .int .i64, .bool]) []))), (133, .pin (.ref 2) (.cons (.agg (.cons (.leaf (.int .i64)) (.cons (.leaf (.int .i64)) (.cons (.leaf (.int .i64)) (.one (.leaf (.int .i64)) []))))) (.cons (.agg (.cons (.leaf (.int .i64)) (.one (.leaf .bool) []))) (.cons (.agg (.cons (.leaf (.int .i64)) (.one (.leaf .bool) []))) (.cons (.agg (.cons (.leaf (.int .i64)) (.one (.leaf .bool) []))) (.cons (.leaf (.int .i64)) (.one (.row true 3 [.int .i64]) []))))))), (90, .cons (.leaf .str) (.cons (.leaf (.int .i64)) (.one (.row true 121 [.int .i64, .int .i64, .int .i64, .bool]) [])))], [.arg 0 0, .arg 2 0, .fld 1 0]⟩, ⟨.tup (.pin (.ref 0) (.pin (.ref 1) (.pin (.nil) (.one (.leaf .bool) [])))), [(92, .cons (.row true 5 [.int .u8]) (.cons (.leaf (.int .i64)) (.one (.row true 121 [.int .i64, .int .i64, .int .i64, .bool]) []))), (95, .pin (.ref 0) (.cons (.agg (.cons (.leaf (.int .i64)) (.cons (.leaf (.int .i64)) (.cons (.leaf (.int .i64)) (.one (.leaf (.int .i64)) []))))) (.cons (.agg (.cons (.leaf (.int .i64)) (.one (.leaf .bool) []))) (.cons (.agg (.cons (.leaf (.int .i64)) (.one (.leaf .bool) []))) (.cons (.agg (.cons (.leaf (.int .i64)) (.one (.leaf .bool) []))) (.cons (.leaf (.int .i64)) (.cons (.leaf (.int .i64)) (.one (.map 93 false false [.int .i64] [.int .i64]) []))))))))], [.arg 0 0, .arg 1 0]⟩, ⟨.tup (.pin (.ref 0) (.pin (.ref 1) (.pin (.ref 2) (.one (.leaf .bool) [])))), [(92, .cons (.row true 5 [.int .u8]) (.cons (.leaf (.int .i64)) (.one (.row true 121 [.int .i64, .int .i64, .int .i64, .bool]) []))), (95, .pin (.ref 0) (.cons (.agg (.cons (.leaf (.int .i64)) (.cons (.leaf (.int .i64)) (.cons (.leaf (.int .i64)) (.one (.leaf (.int .i64)) []))))) (.cons (.agg (.cons (.leaf (.int .i64)) (.one (.leaf .bool) []))) (.cons (.agg (.cons (.leaf (.int .i64)) (.one (.leaf .bool) []))) (.cons (.agg (.cons (.leaf (.int .i64)) (.one (.leaf .bool) []))) (.cons (.leaf (.int .i64)) (.cons (.leaf (.int .i64)) (.one (.map 93 false false [.int .i64] [.int .i64]) [])))))))), (133, .pin (.ref 3) (.cons (.agg (.cons (.leaf (.int .i64)) (.cons (.leaf (.int .i64)) (.cons (.leaf (.int .i64)) (.one (.leaf (.int .i64)) []))))) (.cons (.agg (.cons (.leaf (.int .i64)) (.one (.leaf .bool) []))) (.cons (.agg (.cons (.leaf (.int .i64)) (.one (.leaf .bool) []))) (.cons (.agg (.cons (.leaf (.int .i64)) (.one (.leaf .bool) []))) (.cons (.leaf (.int .i64)) (.one (.row true 3 [.int .i64]) []))))))), (90, .cons (.leaf .str) (.cons (.leaf (.int .i64)) (.one (.row true 121 [.int .i64, .int .i64, .int .i64, .bool]) [])))], [.arg 0 0, .arg 1 0, .arg 2 0, .fld 2 0]⟩]⟩
noncomputable def nt : Notes := ⟨[], [(9, ⟨[1, 7, 9], []⟩)], [(11, [0, 1, 2, 3, 4, 5, 6, 7, 8, 9, 10, 11, 12, 13, 14, 16, 17, 18, 19, 15, 20, 21, 22, 23, 24, 25])], [], []⟩
noncomputable def cal0 {T : Type} (k : Nat) : List (FuncId × Hd T) := [(16, pureC F_gmem_Memory_Write.ct [.arg 0 0] (fun (x : Int × ByteArray) (g : List Int × Int × TY1) => F_gmem_Memory_Write.S k x.1 x.2 g)), (22, pureC F_gmem_New.ct [] (fun (x : Int) (_ : Unit) => F_gmem_New.S k x)), (23, pureC F_drvq_New.ct [.arg 0 0] (fun (x : Int × Int × Int × Int) (g : List Int × Int × TY1) => F_drvq_New.S k x g)), (32, pureC F_aqueductref04_New.ct [] (fun (x : Int) (_ : Unit) => F_aqueductref04_New.S k x)), (34, pureC F_aqueductref15_New.ct [.arg 0 0] (fun (x : Int × Int × Int × Int) (g : ByteArray × Int × TY1) => F_aqueductref15_New.S k x g)), (59, pureR F_aqueductref04_Memory_May.ct [.arg 0 0] (fun (x : Int × Int) (g : ByteArray × Int × TY1) => F_aqueductref04_Memory_May.S k x.1 x.2 g)), (60, pureC F_aqueductref04_Memory_note.ct [.arg 0 0] (fun (x : Int × Int × Bool) (g : ByteArray × Int × TY1) => F_aqueductref04_Memory_note.S k x.1 x.2.1 x.2.2 g))]
theorem cal0_ok {T : Type} (k : Nat) : HdsOk Try.prog (cal0 (T := T) k) := ⟨F_gmem_Memory_Write.hd k, F_gmem_New.hd k, F_drvq_New.hd k, F_aqueductref04_New.hd k, F_aqueductref15_New.hd k, F_aqueductref04_Memory_May.hd k, F_aqueductref04_Memory_note.hd k, trivial⟩
noncomputable def nt8 : Notes := ⟨[], [], [], [], []⟩
noncomputable def cal1 {T : Type} (k : Nat) : List (FuncId × Hd T) := (8, inlH tab (calOf (cal0 k)) Go.Proofs.Try.f8 nt8 k) :: cal0 k
theorem cal1_ok {T : Type} (k : Nat) : HdsOk Try.prog (cal1 (T := T) k) := ⟨inlH_ok tab_ok (calOf_ok (cal0_ok k)) mixed Try.func8 nt8 k Try.call8, cal0_ok k⟩
noncomputable def nt33 : Notes := ⟨[], [], [(4, [0, 1, 2, 3, 4, 5, 6, 7, 8, 9, 10, 11, 12, 13, 14, 15, 16, 17, 18, 19, 20, 21])], [], []⟩
noncomputable def cal2 {T : Type} (k : Nat) : List (FuncId × Hd T) := (33, inlH tab (calOf (cal1 k)) Go.Proofs.Try.f33 nt33 k) :: cal1 k
theorem cal2_ok {T : Type} (k : Nat) : HdsOk Try.prog (cal2 (T := T) k) := ⟨inlH_ok tab_ok (calOf_ok (cal1_ok k)) mixed Try.func33 nt33 k Try.call33, cal1_ok k⟩
noncomputable def cal {T : Type} (k : Nat) : List (FuncId × Hd T) := cal2 k
theorem cal_ok {T : Type} (k : Nat) : HdsOk Try.prog (cal (T := T) k) := cal2_ok k
noncomputable abbrev ca (k : Nat) (Rs : List (Fr → St → O (Bool ⊕ TY16 ⊕ TY11 ⊕ TY12 ⊕ TY10))) (ds : List Dir) : Fr → St → O (Bool ⊕ TY16 ⊕ TY11 ⊕ TY12 ⊕ TY10) := codeAt tab (calOf (cal k)) Go.Proofs.Try.f7.ntmps nt k Rs ds (bodyOf Go.Proofs.Try.f7) (finK tab Go.Proofs.Try.f7.results.toList (fun v st => outK ct.ob (γ0 ct) ct.outs v st .ok) (fun e st => outP ct.ob (γ0 ct) ct.outs e st .ok))
noncomputable abbrev zj6 {α : Type} (X : Fr → St → α) (a0 : Int × TY6 × TY13) (v14 : Int) (v15 : List Int) (v16 : List TY5) (v17 : ByteArray) (v18 : Int) (v19 : List TY5) : α := X ⟨[(1, .ptr 0 0), (7, .ptr 1 0), (9, .ptr 2 0)], [], 0, []⟩ ⟨8, true, [(0, .cells 26 [.int .i64 a0.1, .int .i64 a0.2.1.1, .int .i64 a0.2.1.2.1, .int .i64 a0.2.1.2.2.1, .int .i64 a0.2.1.2.2.2, .osl 3]), (1, .cells 92 [.osl 4, .int .i64 v14, .osl 5]), (2, .cells 90 [.str v17, .int .i64 v18, .osl 6]), (3, .tab false 36 [] 7 (.cons (.leaf (.int .i64)) (.cons (.leaf (.int .i64)) (.cons (.leaf (.int .i64)) (.cons (.leaf (.int .i64)) (.cons (.row false 56 [.int .i64, .int .i64, .bool]) (.cons (.leaf .str) (.cons (.agg (.cons (.leaf (.int .i64)) (.cons (.leaf .bool) (.one (.leaf (.int .i64)) [])))) (.one (.leaf .bool) [])))))))) a0.2.2), (4, .row true 5 [.int .u8] v15), (5, .row true 121 [.int .i64, .int .i64, .int .i64, .bool] v16), (6, .row true 121 [.int .i64, .int .i64, .int .i64, .bool] v19), (7, .ghost)]⟩
noncomputable def j6_b (k : Nat) (a0 : Int × TY6 × TY13) (v14 : Int) (v17 : ByteArray) (v18 : Int) (v15 : List Int) (v16 : List TY5) (v19 : List TY5) : O (Bool ⊕ TY16 ⊕ TY11 ⊕ TY12 ⊕ TY10) :=
  O.sum (F_drvq_New.S k a0.2.1 (v15, v14, v16)) (fun r22 =>
   O.sum (F_aqueductref15_New.S k a0.2.1 (v17, v18, v19)) (fun r24 =>
    O.cond (decide (r22.1 = r24.1)) (
     .ok (.inr (.inl ((decide ((Go.Aq.strOf r22.2.1) = r24.2.1)), r22.2)))) (
     .ok (.inr (.inl (false, r22.2))))) fun r25 =>
   O.cond (decide (r22.1 = r25.1)) (
    .ok (.inr (.inr (.inl (false, (r22.2, r25.2.2, r25.2.1)))))) (
    .ok (.inr (.inr (.inl (false, (r22.2, r25.2.2, r25.2.1))))))) fun r23 =>
  O.sum (F_aqueductref15_New.S k a0.2.1 (v17, v18, v19)) (fun r26 =>
   O.cond (decide (r23.1 = r26.1)) (
    .ok (.inr (.inr (.inr (.inl (false, (r23.2.1, r23.2.2))))))) (
    .ok (.inr (.inr (.inr (.inl (false, (r23.2.1, r23.2.2)))))))) fun r27 =>
  O.cond (decide (r23.1 = r27.1)) (
   .ok (.inr (.inr (.inr (.inr ((decide ((Go.Aq.strOf r23.2.1.1) = r27.2.1.1)), (r23.2.1, r23.2.2, r27.2.2, r27.2.1))))))) (
   .ok (.inr (.inr (.inr (.inr (false, (r23.2.1, r23.2.2, r27.2.2, r27.2.1)))))))
noncomputable def j6 (k : Nat) (a0 : Int × TY6 × TY13) (v14 : Int) (v17 : ByteArray) (v18 : Int) (v15 : List Int) (v16 : List TY5) (v19 : List TY5) : O (Bool ⊕ TY16 ⊕ TY11 ⊕ TY12 ⊕ TY10) := j6_b k a0 v14 v17 v18 v15 v16 v19
theorem j6_eq (k : Nat) (a0 : Int × TY6 × TY13) (v14 : Int) (v17 : ByteArray) (v18 : Int) (v15 : List Int) (v16 : List TY5) (v19 : List TY5) : zj6 (ca k [] [.r, .r, .r, .r, .r, .r, .r]) a0 v14 v15 v16 v17 v18 v19 = j6 k a0 v14 v17 v18 v15 v16 v19 := by
  have h : zj6 (ca k [] [.r, .r, .r, .r, .r, .r, .r]) a0 v14 v15 v16 v17 v18 v19 = j6_b k a0 v14 v17 v18 v15 v16 v19 := (codeAt_eq _ _ _ _ _ _ _ _ _ _ _).trans (by show _ = _; kernel_rfl)
  exact h.trans (by rfl)
noncomputable def top (k : Nat) (a0 : Int × TY6 × TY13) (D_j6 : Int → ByteArray → Int → (List Int) → TY1 → TY1 → O (Bool ⊕ TY16 ⊕ TY11 ⊕ TY12 ⊕ TY10)) : O (Bool ⊕ TY16 ⊕ TY11 ⊕ TY12 ⊕ TY10) :=
  O.sum (F_gmem_New.S k (max (64 : Int) (min a0.1 (2048 : Int)))) (fun r3 =>
   O.sum (F_aqueductref04_New.S k (max (64 : Int) (min a0.1 (2048 : Int)))) (fun r7 =>
    .ok (.inl false)) fun r8 =>
   .ok (.inl false)) fun r4 =>
  O.sum (F_aqueductref04_New.S k (max (64 : Int) (min a0.1 (2048 : Int)))) (fun r9 =>
   .ok (.inl false)) fun r10 =>
  O.cond (decide (r4.1 ≠ (0 : Int))) (
   .ok (.inl false)) (
   O.cond (decide (r10.1 ≠ (0 : Int))) (
    .ok (.inl false)) (
    O.chk (decide (0 ≤ (30 : Int) ∧ (30 : Int) = (30 : Int) ∧ (30 : Int) ≤ 1073741824)) (
     O.chk (decide (((ByteArray.size (Go.Aq.strOf (List.replicate (30 : Int).toNat (0 : Int))) + ByteArray.size (⟨#[119, 104, 97, 116, 32, 115, 116, 111, 111, 100, 32, 116, 104, 101, 114, 101]⟩ : ByteArray) : Nat) : Int) ≤ 9223372036854775807)) (
      O.bind (F_gmem_Memory_Write.S k (0 : Int) ((Go.Aq.strOf (List.replicate (30 : Int).toNat (0 : Int))) ++ (⟨#[119, 104, 97, 116, 32, 115, 116, 111, 111, 100, 32, 116, 104, 101, 114, 101]⟩ : ByteArray)) r4.2) fun r20 =>
      O.cond (decide (r20.1 ≠ (0 : Int))) (
       .ok (.inl false)) (
       O.bind (F_aqueductref04_Memory_May.S k (0 : Int) (ByteArray.size ((Go.Aq.strOf (List.replicate (30 : Int).toNat (0 : Int))) ++ (⟨#[119, 104, 97, 116, 32, 115, 116, 111, 111, 100, 32, 116, 104, 101, 114, 101]⟩ : ByteArray)) : Int) r10.2) fun r21 =>
       O.cond (!r21) (
        O.cond true (
         .ok (.inl false)) (
         D_j6 r20.2.2.1 r10.2.1 r10.2.2.1 r20.2.1 r20.2.2.2 r10.2.2.2)) (
        O.bind (F_aqueductref04_Memory_note.S k (0 : Int) (ByteArray.size ((Go.Aq.strOf (List.replicate (30 : Int).toNat (0 : Int))) ++ (⟨#[119, 104, 97, 116, 32, 115, 116, 111, 111, 100, 32, 116, 104, 101, 114, 101]⟩ : ByteArray)) : Int) true r10.2) fun r28 =>
        O.chk (decide (0 ≤ (0 : Int) ∧ (0 : Int) ≤ (ByteArray.size r28.1 : Int))) (
         O.chk (decide (((ByteArray.size (ByteArray.extract r28.1 0 0) + ByteArray.size ((Go.Aq.strOf (List.replicate (30 : Int).toNat (0 : Int))) ++ (⟨#[119, 104, 97, 116, 32, 115, 116, 111, 111, 100, 32, 116, 104, 101, 114, 101]⟩ : ByteArray)) : Nat) : Int) ≤ 9223372036854775807)) (
          O.chk (decide (0 ≤ (IntKind.i64.wrap ((0 : Int) + (ByteArray.size ((Go.Aq.strOf (List.replicate (30 : Int).toNat (0 : Int))) ++ (⟨#[119, 104, 97, 116, 32, 115, 116, 111, 111, 100, 32, 116, 104, 101, 114, 101]⟩ : ByteArray)) : Int))) ∧ (IntKind.i64.wrap ((0 : Int) + (ByteArray.size ((Go.Aq.strOf (List.replicate (30 : Int).toNat (0 : Int))) ++ (⟨#[119, 104, 97, 116, 32, 115, 116, 111, 111, 100, 32, 116, 104, 101, 114, 101]⟩ : ByteArray)) : Int))) ≤ (ByteArray.size r28.1 : Int))) (
           O.chk (decide (((ByteArray.size ((ByteArray.extract r28.1 0 0) ++ ((Go.Aq.strOf (List.replicate (30 : Int).toNat (0 : Int))) ++ (⟨#[119, 104, 97, 116, 32, 115, 116, 111, 111, 100, 32, 116, 104, 101, 114, 101]⟩ : ByteArray))) + ByteArray.size (ByteArray.extract r28.1 (IntKind.i64.wrap ((0 : Int) + (ByteArray.size ((Go.Aq.strOf (List.replicate (30 : Int).toNat (0 : Int))) ++ (⟨#[119, 104, 97, 116, 32, 115, 116, 111, 111, 100, 32, 116, 104, 101, 114, 101]⟩ : ByteArray)) : Int))).toNat (ByteArray.size r28.1)) : Nat) : Int) ≤ 9223372036854775807)) (
            O.cond false (
             .ok (.inl false)) (
             D_j6 r20.2.2.1 (((ByteArray.extract r28.1 0 0) ++ ((Go.Aq.strOf (List.replicate (30 : Int).toNat (0 : Int))) ++ (⟨#[119, 104, 97, 116, 32, 115, 116, 111, 111, 100, 32, 116, 104, 101, 114, 101]⟩ : ByteArray))) ++ (ByteArray.extract r28.1 (IntKind.i64.wrap ((0 : Int) + (ByteArray.size ((Go.Aq.strOf (List.replicate (30 : Int).toNat (0 : Int))) ++ (⟨#[119, 104, 97, 116, 32, 115, 116, 111, 111, 100, 32, 116, 104, 101, 114, 101]⟩ : ByteArray)) : Int))).toNat (ByteArray.size r28.1))) r28.2.1 r20.2.1 r20.2.2.2 r28.2.2)))))))))))
noncomputable def S (k : Nat) (a0 : Int × TY6 × TY13) : O (Bool ⊕ TY16 ⊕ TY11 ⊕ TY12 ⊕ TY10) := top k a0 ((fun (v14 : Int) (v17 : ByteArray) (v18 : Int) (v15 : List Int) (v16 : List TY5) (v19 : List TY5) => j6 k a0 v14 v17 v18 v15 v16 v19))
theorem eq (k : Nat) (a0 : Int × TY6 × TY13) : evFn (T := Bool ⊕ TY16 ⊕ TY11 ⊕ TY12 ⊕ TY10) tab (calOf (cal k)) Go.Proofs.Try.f7 nt k 0 [.agg [.int .i64 a0.1, .int .i64 a0.2.1.1, .int .i64 a0.2.1.2.1, .int .i64 a0.2.1.2.2.1, .int .i64 a0.2.1.2.2.2, .osl 1]] [] ⟨2, false, [(1, .tab false 36 [] 0 (.cons (.leaf (.int .i64)) (.cons (.leaf (.int .i64)) (.cons (.leaf (.int .i64)) (.cons (.leaf (.int .i64)) (.cons (.row false 56 [.int .i64, .int .i64, .bool]) (.cons (.leaf .str) (.cons (.agg (.cons (.leaf (.int .i64)) (.cons (.leaf .bool) (.one (.leaf (.int .i64)) [])))) (.one (.leaf .bool) [])))))))) a0.2.2), (0, .ghost)]⟩ (fun v st => outK ct.ob (γ0 ct) ct.outs v st .ok) (fun e st => outP ct.ob (γ0 ct) ct.outs e st .ok) = S k a0 := by
 have e0 : (fun (v14 : Int) (v17 : ByteArray) (v18 : Int) (v15 : List Int) (v16 : List TY5) (v19 : List TY5) => zj6 (ca k [] [.r, .r, .r, .r, .r, .r, .r]) a0 v14 v15 v16 v17 v18 v19) = (fun (v14 : Int) (v17 : ByteArray) (v18 : Int) (v15 : List Int) (v16 : List TY5) (v19 : List TY5) => j6 k a0 v14 v17 v18 v15 v16 v19) := by funext v14 v17 v18 v15 v16 v19; exact j6_eq k a0 v14 v17 v18 v15 v16 v19
 have h : evFn (T := Bool ⊕ TY16 ⊕ TY11 ⊕ TY12 ⊕ TY10) tab (calOf (cal k)) Go.Proofs.Try.f7 nt k 0 [.agg [.int .i64 a0.1, .int .i64 a0.2.1.1, .int .i64 a0.2.1.2.1, .int .i64 a0.2.1.2.2.1, .int .i64 a0.2.1.2.2.2, .osl 1]] [] ⟨2, false, [(1, .tab false 36 [] 0 (.cons (.leaf (.int .i64)) (.cons (.leaf (.int .i64)) (.cons (.leaf (.int .i64)) (.cons (.leaf (.int .i64)) (.cons (.row false 56 [.int .i64, .int .i64, .bool]) (.cons (.leaf .str) (.cons (.agg (.cons (.leaf (.int .i64)) (.cons (.leaf .bool) (.one (.leaf (.int .i64)) [])))) (.one (.leaf .bool) [])))))))) a0.2.2), (0, .ghost)]⟩ (fun v st => outK ct.ob (γ0 ct) ct.outs v st .ok) (fun e st => outP ct.ob (γ0 ct) ct.outs e st .ok) = top k a0 ((fun (v14 : Int) (v17 : ByteArray) (v18 : Int) (v15 : List Int) (v16 : List TY5) (v19 : List TY5) => zj6 (ca k [] [.r, .r, .r, .r, .r, .r, .r]) a0 v14 v15 v16 v17 v18 v19)) := by kernel_rfl
 exact h.trans (by rw [e0]; rfl)
theorem ok (k : Nat) : FnOkC Try.prog 7 ct (fun (x : Int × TY6 × TY13) (_ : Unit) => S k x) :=
 FnOkC.of_ev (C := ct) tab_ok rfl (calOf_ok (cal_ok k)) mixed Try.func7 nt k (fun _ _ => rfl) (fun (x : Int × TY6 × TY13) (_ : Unit) => eq k x)
theorem hd {T : Type} (k : Nat) : HdOk Try.prog 7 (pureC (T := T) ct [] (fun (x : Int × TY6 × TY13) (_ : Unit) => S k x)) :=
 pureC_ok rfl [] (ok k) Try.call7
end F_aqueductlaw15_laid
namespace F_aqueductlaw15_fixed
noncomputable def ct : Ct := ⟨.none, [], [⟨.val (.leaf .bool), [], []⟩]⟩
noncomputable def nt : Notes := ⟨[], [(16, ⟨[3, 7, 8, 9, 11, 13, 15, 18, 19, 20, 21, 22, 23, 24, 25, 27], []⟩)], [(10, [0, 1, 2, 3, 4, 5, 6, 7, 8, 9, 10, 11, 12, 13])], [], []⟩
noncomputable def cal0 {T : Type} (k : Nat) : List (FuncId × Hd T) := [(7, pureC F_aqueductlaw15_laid.ct [] (fun (x : Int × TY6 × TY13) (_ : Unit) => F_aqueductlaw15_laid.S k x)), (10, F_drvq_Queue_Held.h), (12, pureC F_drvq_Queue_Post.ct [.arg 0 0, .fld 0 0] (fun (x : List TY9) (g : TY3 × TY4) => F_drvq_Queue_Post.S k x g.1 g.2)), (15, pureC F_drvq_Queue_Reap.ct [.arg 0 0, .fld 0 0] (fun (_ : Unit) (g : TY3 × TY4) => F_drvq_Queue_Reap.S k g.1 g.2)), (16, pureC F_gmem_Memory_Write.ct [.arg 0 0] (fun (x : Int × ByteArray) (g : List Int × Int × TY1) => F_gmem_Memory_Write.S k x.1 x.2 g)), (23, pureC F_drvq_New.ct [.arg 0 0] (fun (x : Int × Int × Int × Int) (g : List Int × Int × TY1) => F_drvq_New.S k x g)), (42, pureC F_gmem_Memory_Read.ct [.arg 0 0] (fun (x : Int × Int) (g : List Int × Int × TY1) => F_gmem_Memory_Read.S k x.1 x.2 g))]
theorem cal0_ok {T : Type} (k : Nat) : HdsOk Try.prog (cal0 (T := T) k) := ⟨F_aqueductlaw15_laid.hd k, F_drvq_Queue_Held.hd k, F_drvq_Queue_Post.hd k, F_drvq_Queue_Reap.hd k, F_gmem_Memory_Write.hd k, F_drvq_New.hd k, F_gmem_Memory_Read.hd k, trivial⟩
noncomputable def nt9 : Notes := ⟨[], [], [], [], []⟩
noncomputable def cal1 {T : Type} (k : Nat) : List (FuncId × Hd T) := (9, inlH tab (calOf (cal0 k)) Go.Proofs.Try.f9 nt9 k) :: cal0 k
theorem cal1_ok {T : Type} (k : Nat) : HdsOk Try.prog (cal1 (T := T) k) := ⟨inlH_ok tab_ok (calOf_ok (cal0_ok k)) mixed Try.func9 nt9 k Try.call9, cal0_ok k⟩
noncomputable def nt11 : Notes := ⟨[], [], [], [], []⟩
noncomputable def cal2 {T : Type} (k : Nat) : List (FuncId × Hd T) := (11, inlH tab (calOf (cal1 k)) Go.Proofs.Try.f11 nt11 k) :: cal1 k
theorem cal2_ok {T : Type} (k : Nat) : HdsOk Try.prog (cal2 (T := T) k) := ⟨inlH_ok tab_ok (calOf_ok (cal1_ok k)) mixed Try.func11 nt11 k Try.call11, cal1_ok k⟩
noncomputable def cal {T : Type} (k : Nat) : List (FuncId × Hd T) := cal2 k
theorem cal_ok {T : Type} (k : Nat) : HdsOk Try.prog (cal (T := T) k) := cal2_ok k
noncomputable abbrev ca (k : Nat) (Rs : List (Fr → St → O (Bool))) (ds : List Dir) : Fr → St → O (Bool) := codeAt tab (calOf (cal k)) Go.Proofs.Try.f18.ntmps nt k Rs ds (bodyOf Go.Proofs.Try.f18) (finK tab Go.Proofs.Try.f18.results.toList (fun v st => outK ct.ob (γ0 ct) ct.outs v st .ok) (fun e st => outP ct.ob (γ0 ct) ct.outs e st .ok))
noncomputable abbrev zj14 {α : Type} (X : Fr → St → α) (v35 : Int) (v36 : Int) (v37 : Int) (v38 : Int) (v39 : Int) (v40 : Int) (v41 : Bool) (v42 : Int) (v43 : ByteArray) (v44 : Int) (v45 : Int) (v46 : Int) (v47 : Bool) (v48 : Int) (v49 : Int) (v50 : Int) (v51 : Int) (v52 : Int) (v53 : Int) (v54 : Bool) (v55 : Int) (v56 : Bool) (v57 : Int) (v58 : Bool) (v59 : Int) (v60 : Int) (v61 : List (Int × Int)) (v62 : Int) (v63 : Int) (v64 : List Int) (v65 : List TY5) : α := X ⟨[(3, .ptr 0 0), (7, .int .i64 v35), (8, .int .i64 v36), (9, .int .i64 v37), (11, .int .i64 v38), (13, .int .i64 v39), (15, .int .i64 v40), (18, .bool v41), (19, .int .i64 v42), (20, .str v43), (21, .int .i64 v44), (22, .int .i64 v45), (23, .int .i64 v46), (24, .bool v47), (25, .int .i64 v48), (27, .int .i64 v62)], [], 0, []⟩ ⟨5, true, [(0, .cells 95 [.ptr 1 0, .int .i64 v49, .int .i64 v50, .int .i64 v51, .int .i64 v52, .int .i64 v53, .bool v54, .int .i64 v55, .bool v56, .int .i64 v57, .bool v58, .int .i64 v59, .int .i64 v60, .mp 2]), (1, .cells 92 [.osl 3, .int .i64 v63, .osl 4]), (2, .map 93 false false [.int .i64] [.int .i64] v61), (3, .row true 5 [.int .u8] v64), (4, .row true 121 [.int .i64, .int .i64, .int .i64, .bool] v65)]⟩
noncomputable def j14_b (k : Nat) (v35 : Int) (v36 : Int) (v37 : Int) (v38 : Int) (v39 : Int) (v40 : Int) (v41 : Bool) (v42 : Int) (v43 : ByteArray) (v44 : Int) (v45 : Int) (v46 : Int) (v47 : Bool) (v48 : Int) (v62 : Int) (v49 : Int) (v50 : Int) (v51 : Int) (v52 : Int) (v53 : Int) (v54 : Bool) (v55 : Int) (v56 : Bool) (v57 : Int) (v58 : Bool) (v59 : Int) (v60 : Int) (v63 : Int) (v61 : List (Int × Int)) (v64 : List Int) (v65 : List TY5) : O Bool :=
  O.cond (decide (v35 = (0 : Int))) (
   O.cond (decide (v36 = (0 : Int))) (
    O.cond (decide (v37 = (2 : Int))) (
     O.cond (decide (v38 = (151 : Int))) (
      O.cond (decide (v39 = (150 : Int))) (
       O.cond (decide (v40 = (150 : Int))) (
        O.cond (!v41) (
         O.cond (decide (v42 = (0 : Int))) (
          O.cond (decide (v44 = (0 : Int))) (
           O.cond (decide (v43 = (⟨#[128, 0, 0, 0, 0, 0, 0, 0, 5, 0, 0, 0, 0, 0, 129, 0, 140, 0, 0, 0, 0, 0, 0, 0, 6, 0, 0, 0, 0, 0, 130, 0]⟩ : ByteArray))) (
            O.cond (decide (v45 = (0 : Int))) (
             O.cond (decide (v46 = (7 : Int))) (
              O.cond v47 (
               O.cond (decide (v48 = (0 : Int))) (
                O.cond (decide (v60 = (4 : Int))) (
                 O.chk (heldOk v61) (
                  O.cond (decide ((List.length (heldL v61) : Int) = (0 : Int))) (
                   O.cond (decide (v62 = (140 : Int))) (
                    .ok (decide (v55 = (2 : Int)) && (decide (v56 = true) && true))) (
                    .ok false)) (
                   .ok false))) (
                 .ok false)) (
                .ok false)) (
               .ok false)) (
              .ok false)) (
             .ok false)) (
            .ok false)) (
           .ok false)) (
          .ok false)) (
         .ok false)) (
        .ok false)) (
       .ok false)) (
      .ok false)) (
     .ok false)) (
    .ok false)) (
   .ok false)
noncomputable def j14 (k : Nat) (v35 : Int) (v36 : Int) (v37 : Int) (v38 : Int) (v39 : Int) (v40 : Int) (v41 : Bool) (v42 : Int) (v43 : ByteArray) (v44 : Int) (v45 : Int) (v46 : Int) (v47 : Bool) (v48 : Int) (v62 : Int) (v49 : Int) (v50 : Int) (v51 : Int) (v52 : Int) (v53 : Int) (v54 : Bool) (v55 : Int) (v56 : Bool) (v57 : Int) (v58 : Bool) (v59 : Int) (v60 : Int) (v63 : Int) (v61 : List (Int × Int)) (v64 : List Int) (v65 : List TY5) : O Bool := j14_b k v35 v36 v37 v38 v39 v40 v41 v42 v43 v44 v45 v46 v47 v48 v62 v49 v50 v51 v52 v53 v54 v55 v56 v57 v58 v59 v60 v63 v61 v64 v65
theorem j14_eq (k : Nat) (v35 : Int) (v36 : Int) (v37 : Int) (v38 : Int) (v39 : Int) (v40 : Int) (v41 : Bool) (v42 : Int) (v43 : ByteArray) (v44 : Int) (v45 : Int) (v46 : Int) (v47 : Bool) (v48 : Int) (v62 : Int) (v49 : Int) (v50 : Int) (v51 : Int) (v52 : Int) (v53 : Int) (v54 : Bool) (v55 : Int) (v56 : Bool) (v57 : Int) (v58 : Bool) (v59 : Int) (v60 : Int) (v63 : Int) (v61 : List (Int × Int)) (v64 : List Int) (v65 : List TY5) : zj14 (ca k [] [.r, .r, .r, .r, .r, .r, .r, .r, .r, .r, .r, .r, .r, .r, .r]) v35 v36 v37 v38 v39 v40 v41 v42 v43 v44 v45 v46 v47 v48 v49 v50 v51 v52 v53 v54 v55 v56 v57 v58 v59 v60 v61 v62 v63 v64 v65 = j14 k v35 v36 v37 v38 v39 v40 v41 v42 v43 v44 v45 v46 v47 v48 v62 v49 v50 v51 v52 v53 v54 v55 v56 v57 v58 v59 v60 v63 v61 v64 v65 := by
  have h : zj14 (ca k [] [.r, .r, .r, .r, .r, .r, .r, .r, .r, .r, .r, .r, .r, .r, .r]) v35 v36 v37 v38 v39 v40 v41 v42 v43 v44 v45 v46 v47 v48 v49 v50 v51 v52 v53 v54 v55 v56 v57 v58 v59 v60 v61 v62 v63 v64 v65 = j14_b k v35 v36 v37 v38 v39 v40 v41 v42 v43 v44 v45 v46 v47 v48 v62 v49 v50 v51 v52 v53 v54 v55 v56 v57 v58 v59 v60 v63 v61 v64 v65 := (codeAt_eq _ _ _ _ _ _ _ _ _ _ _).trans (by show _ = _; kernel_rfl)
  exact h.trans (by rfl)
noncomputable def top (k : Nat) (D_j14 : Int → Int → Int → Int → Int → Int → Bool → Int → ByteArray → Int → Int → Int → Bool → Int → Int → Int → Int → Int → Int → Int → Bool → Int → Bool → Int → Bool → Int → Int → Int → TY7 → (List Int) → TY1 → O Bool) : O Bool :=
  O.sum (F_aqueductlaw15_laid.S k ((256 : Int), ((0 : Int), (4 : Int), (64 : Int), (68 : Int)), [])) (fun r9 =>
   O.cond (!r9) (
    .ok false) (
    .ok false)) fun z14 =>
  O.sum (.ok z14) (fun r10 =>
   O.cond (!r10.1) (
    .ok false) (
    .ok false)) fun z15 =>
  O.sum (.ok z15) (fun r11 =>
   O.cond (!r11.1) (
    .ok false) (
    .ok false)) fun z16 =>
  O.sum (.ok z16) (fun r12 =>
   O.cond (!r12.1) (
    .ok false) (
    O.bind (F_drvq_Queue_Post.S k [((128 : Int), (5 : Int), false), ((140 : Int), (6 : Int), true)] r12.2.2 r12.2.1) fun r18 =>
    O.chk (decide (List.length [((128 : Int), (5 : Int), false)] + List.length [((128 : Int), (5 : Int), false), ((140 : Int), (6 : Int), true)] ≤ 1073741824)) (
     O.bind (F_drvq_Queue_Post.S k [((128 : Int), (5 : Int), false), ((128 : Int), (5 : Int), false), ((140 : Int), (6 : Int), true)] r18.2.1 r18.2.2) fun r20 =>
     O.bind (F_drvq_Queue_Post.S k [] r20.2.1 r20.2.2) fun r22 =>
     O.chk (decide (0 ≤ (1 : Int) ∧ (1 : Int) < (2 : Int) ∧ (2 : Int) ≤ (List.length [((128 : Int), (5 : Int), false), ((140 : Int), (6 : Int), true)] : Int))) (
      O.chk (decide (0 ≤ (1 : Int) ∧ (1 : Int) < (List.length [((128 : Int), (5 : Int), false), ((140 : Int), (6 : Int), true)] : Int))) (
       O.chk (decide (0 ≤ (0 : Int) ∧ (0 : Int) < (2 : Int) ∧ (2 : Int) ≤ (List.length [((128 : Int), (5 : Int), false), ((140 : Int), (6 : Int), true)] : Int))) (
        O.chk (decide (0 ≤ (0 : Int) ∧ (0 : Int) < (List.length [((128 : Int), (5 : Int), false), ((140 : Int), (6 : Int), true)] : Int))) (
         O.bind (F_drvq_Queue_Post.S k [((140 : Int), (6 : Int), true), ((128 : Int), (5 : Int), false)] r22.2.1 r22.2.2) fun r24 =>
         O.bind (F_drvq_Queue_Reap.S k r24.2.1 r24.2.2) fun r26 =>
         O.bind (F_gmem_Memory_Read.S k (0 : Int) (32 : Int) r26.2.2) fun r28 =>
         O.bind (F_gmem_Memory_Write.S k (8 : Int) (⟨#[7, 0, 0, 0, 0, 0, 128, 128]⟩ : ByteArray) r28.2) fun r30 =>
         O.bind (F_drvq_Queue_Reap.S k r26.2.1 r30.2) fun r32 =>
         O.sum (F_drvq_New.S k ((0 : Int), (0 : Int), (0 : Int), (0 : Int)) r32.2.2) (fun r66 =>
          D_j14 r18.1.1 r18.1.2 r18.2.1.2.2.2.2.2.1 r20.1.2 r22.1.2 r24.1.2 r26.1.2.2.1 r26.1.2.2.2 r28.1.1 r28.1.2 r32.1.1 r32.1.2.1 r32.1.2.2.1 r32.1.2.2.2 r66.1 r32.2.1.1.1 r32.2.1.1.2.1 r32.2.1.1.2.2.1 r32.2.1.1.2.2.2 r32.2.1.2.1.1 r32.2.1.2.1.2 r32.2.1.2.2.1.1 r32.2.1.2.2.1.2 r32.2.1.2.2.2.1.1 r32.2.1.2.2.2.1.2 r32.2.1.2.2.2.2.1 r32.2.1.2.2.2.2.2.1 r66.2.2.1 r32.2.1.2.2.2.2.2.2 r66.2.1 r66.2.2.2) fun r67 =>
         D_j14 r18.1.1 r18.1.2 r18.2.1.2.2.2.2.2.1 r20.1.2 r22.1.2 r24.1.2 r26.1.2.2.1 r26.1.2.2.2 r28.1.1 r28.1.2 r32.1.1 r32.1.2.1 r32.1.2.2.1 r32.1.2.2.2 r67.1 r32.2.1.1.1 r32.2.1.1.2.1 r32.2.1.1.2.2.1 r32.2.1.1.2.2.2 r32.2.1.2.1.1 r32.2.1.2.1.2 r32.2.1.2.2.1.1 r32.2.1.2.2.1.2 r32.2.1.2.2.2.1.1 r32.2.1.2.2.2.1.2 r32.2.1.2.2.2.2.1 r32.2.1.2.2.2.2.2.1 r67.2.1.2.1 r32.2.1.2.2.2.2.2.2 r67.2.1.1 r67.2.1.2.2))))))) fun r13 =>
  O.cond (!r13.1) (
   .ok false) (
   O.bind (F_drvq_Queue_Post.S k [((128 : Int), (5 : Int), false), ((140 : Int), (6 : Int), true)] r13.2.2.1 r13.2.1) fun r68 =>
   O.chk (decide (List.length [((128 : Int), (5 : Int), false)] + List.length [((128 : Int), (5 : Int), false), ((140 : Int), (6 : Int), true)] ≤ 1073741824)) (
    O.bind (F_drvq_Queue_Post.S k [((128 : Int), (5 : Int), false), ((128 : Int), (5 : Int), false), ((140 : Int), (6 : Int), true)] r68.2.1 r68.2.2) fun r69 =>
    O.bind (F_drvq_Queue_Post.S k [] r69.2.1 r69.2.2) fun r70 =>
    O.chk (decide (0 ≤ (1 : Int) ∧ (1 : Int) < (2 : Int) ∧ (2 : Int) ≤ (List.length [((128 : Int), (5 : Int), false), ((140 : Int), (6 : Int), true)] : Int))) (
     O.chk (decide (0 ≤ (1 : Int) ∧ (1 : Int) < (List.length [((128 : Int), (5 : Int), false), ((140 : Int), (6 : Int), true)] : Int))) (
      O.chk (decide (0 ≤ (0 : Int) ∧ (0 : Int) < (2 : Int) ∧ (2 : Int) ≤ (List.length [((128 : Int), (5 : Int), false), ((140 : Int), (6 : Int), true)] : Int))) (
       O.chk (decide (0 ≤ (0 : Int) ∧ (0 : Int) < (List.length [((128 : Int), (5 : Int), false), ((140 : Int), (6 : Int), true)] : Int))) (
        O.bind (F_drvq_Queue_Post.S k [((140 : Int), (6 : Int), true), ((128 : Int), (5 : Int), false)] r70.2.1 r70.2.2) fun r71 =>
        O.bind (F_drvq_Queue_Reap.S k r71.2.1 r71.2.2) fun r72 =>
        O.bind (F_gmem_Memory_Read.S k (0 : Int) (32 : Int) r72.2.2) fun r73 =>
        O.bind (F_gmem_Memory_Write.S k (8 : Int) (⟨#[7, 0, 0, 0, 0, 0, 128, 128]⟩ : ByteArray) r73.2) fun r74 =>
        O.bind (F_drvq_Queue_Reap.S k r72.2.1 r74.2) fun r75 =>
        O.sum (F_drvq_New.S k ((0 : Int), (0 : Int), (0 : Int), (0 : Int)) r75.2.2) (fun r76 =>
         D_j14 r68.1.1 r68.1.2 r68.2.1.2.2.2.2.2.1 r69.1.2 r70.1.2 r71.1.2 r72.1.2.2.1 r72.1.2.2.2 r73.1.1 r73.1.2 r75.1.1 r75.1.2.1 r75.1.2.2.1 r75.1.2.2.2 r76.1 r75.2.1.1.1 r75.2.1.1.2.1 r75.2.1.1.2.2.1 r75.2.1.1.2.2.2 r75.2.1.2.1.1 r75.2.1.2.1.2 r75.2.1.2.2.1.1 r75.2.1.2.2.1.2 r75.2.1.2.2.2.1.1 r75.2.1.2.2.2.1.2 r75.2.1.2.2.2.2.1 r75.2.1.2.2.2.2.2.1 r76.2.2.1 r75.2.1.2.2.2.2.2.2 r76.2.1 r76.2.2.2) fun r77 =>
        D_j14 r68.1.1 r68.1.2 r68.2.1.2.2.2.2.2.1 r69.1.2 r70.1.2 r71.1.2 r72.1.2.2.1 r72.1.2.2.2 r73.1.1 r73.1.2 r75.1.1 r75.1.2.1 r75.1.2.2.1 r75.1.2.2.2 r77.1 r75.2.1.1.1 r75.2.1.1.2.1 r75.2.1.1.2.2.1 r75.2.1.1.2.2.2 r75.2.1.2.1.1 r75.2.1.2.1.2 r75.2.1.2.2.1.1 r75.2.1.2.2.1.2 r75.2.1.2.2.2.1.1 r75.2.1.2.2.2.1.2 r75.2.1.2.2.2.2.1 r75.2.1.2.2.2.2.2.1 r77.2.1.2.1 r75.2.1.2.2.2.2.2.2 r77.2.1.1 r77.2.1.2.2))))))
noncomputable def S (k : Nat) : O Bool := top k ((fun (v35 : Int) (v36 : Int) (v37 : Int) (v38 : Int) (v39 : Int) (v40 : Int) (v41 : Bool) (v42 : Int) (v43 : ByteArray) (v44 : Int) (v45 : Int) (v46 : Int) (v47 : Bool) (v48 : Int) (v62 : Int) (v49 : Int) (v50 : Int) (v51 : Int) (v52 : Int) (v53 : Int) (v54 : Bool) (v55 : Int) (v56 : Bool) (v57 : Int) (v58 : Bool) (v59 : Int) (v60 : Int) (v63 : Int) (v61 : List (Int × Int)) (v64 : List Int) (v65 : List TY5) => j14 k v35 v36 v37 v38 v39 v40 v41 v42 v43 v44 v45 v46 v47 v48 v62 v49 v50 v51 v52 v53 v54 v55 v56 v57 v58 v59 v60 v63 v61 v64 v65))
theorem eq (k : Nat) : evFn (T := Bool) tab (calOf (cal k)) Go.Proofs.Try.f18 nt k 0 [] [] ⟨0, false, []⟩ (fun v st => outK ct.ob (γ0 ct) ct.outs v st .ok) (fun e st => outP ct.ob (γ0 ct) ct.outs e st .ok) = S k := by
 have e0 : (fun (v35 : Int) (v36 : Int) (v37 : Int) (v38 : Int) (v39 : Int) (v40 : Int) (v41 : Bool) (v42 : Int) (v43 : ByteArray) (v44 : Int) (v45 : Int) (v46 : Int) (v47 : Bool) (v48 : Int) (v62 : Int) (v49 : Int) (v50 : Int) (v51 : Int) (v52 : Int) (v53 : Int) (v54 : Bool) (v55 : Int) (v56 : Bool) (v57 : Int) (v58 : Bool) (v59 : Int) (v60 : Int) (v63 : Int) (v61 : List (Int × Int)) (v64 : List Int) (v65 : List TY5) => zj14 (ca k [] [.r, .r, .r, .r, .r, .r, .r, .r, .r, .r, .r, .r, .r, .r, .r]) v35 v36 v37 v38 v39 v40 v41 v42 v43 v44 v45 v46 v47 v48 v49 v50 v51 v52 v53 v54 v55 v56 v57 v58 v59 v60 v61 v62 v63 v64 v65) = (fun (v35 : Int) (v36 : Int) (v37 : Int) (v38 : Int) (v39 : Int) (v40 : Int) (v41 : Bool) (v42 : Int) (v43 : ByteArray) (v44 : Int) (v45 : Int) (v46 : Int) (v47 : Bool) (v48 : Int) (v62 : Int) (v49 : Int) (v50 : Int) (v51 : Int) (v52 : Int) (v53 : Int) (v54 : Bool) (v55 : Int) (v56 : Bool) (v57 : Int) (v58 : Bool) (v59 : Int) (v60 : Int) (v63 : Int) (v61 : List (Int × Int)) (v64 : List Int) (v65 : List TY5) => j14 k v35 v36 v37 v38 v39 v40 v41 v42 v43 v44 v45 v46 v47 v48 v62 v49 v50 v51 v52 v53 v54 v55 v56 v57 v58 v59 v60 v63 v61 v64 v65) := by funext v35 v36 v37 v38 v39 v40 v41 v42 v43 v44 v45 v46 v47 v48 v62 v49 v50 v51 v52 v53 v54 v55 v56 v57 v58 v59 v60 v63 v61 v64 v65; exact j14_eq k v35 v36 v37 v38 v39 v40 v41 v42 v43 v44 v45 v46 v47 v48 v62 v49 v50 v51 v52 v53 v54 v55 v56 v57 v58 v59 v60 v63 v61 v64 v65
 have h : evFn (T := Bool) tab (calOf (cal k)) Go.Proofs.Try.f18 nt k 0 [] [] ⟨0, false, []⟩ (fun v st => outK ct.ob (γ0 ct) ct.outs v st .ok) (fun e st => outP ct.ob (γ0 ct) ct.outs e st .ok) = top k ((fun (v35 : Int) (v36 : Int) (v37 : Int) (v38 : Int) (v39 : Int) (v40 : Int) (v41 : Bool) (v42 : Int) (v43 : ByteArray) (v44 : Int) (v45 : Int) (v46 : Int) (v47 : Bool) (v48 : Int) (v62 : Int) (v49 : Int) (v50 : Int) (v51 : Int) (v52 : Int) (v53 : Int) (v54 : Bool) (v55 : Int) (v56 : Bool) (v57 : Int) (v58 : Bool) (v59 : Int) (v60 : Int) (v63 : Int) (v61 : List (Int × Int)) (v64 : List Int) (v65 : List TY5) => zj14 (ca k [] [.r, .r, .r, .r, .r, .r, .r, .r, .r, .r, .r, .r, .r, .r, .r]) v35 v36 v37 v38 v39 v40 v41 v42 v43 v44 v45 v46 v47 v48 v49 v50 v51 v52 v53 v54 v55 v56 v57 v58 v59 v60 v61 v62 v63 v64 v65)) := by kernel_rfl
 exact h.trans (by rw [e0]; rfl)
theorem ok (k : Nat) : FnOkC Try.prog 18 ct (fun (_ : Unit) (_ : Unit) => S k) :=
 FnOkC.of_ev (C := ct) tab_ok rfl (calOf_ok (cal_ok k)) mixed Try.func18 nt k (fun _ _ => rfl) (fun (_ : Unit) (_ : Unit) => eq k)
theorem hd {T : Type} (k : Nat) : HdOk Try.prog 18 (pureC (T := T) ct [] (fun (_ : Unit) (_ : Unit) => S k)) :=
 pureC_ok rfl [] (ok k) Try.call18
end F_aqueductlaw15_fixed
namespace F_aqueductlaw15_inside
noncomputable def ct : Ct := ⟨.some (.one (.row false 56 [.int .i64, .int .i64, .bool]) []), [], [⟨.val (.row true 56 [.int .i64, .int .i64, .bool]), [], []⟩]⟩
noncomputable def nt : Notes := ⟨[(3, ⟨[0, 3, 4], []⟩)], [], [(5, [0, 1, 2, 3, 4, 5, 6, 7, 8, 9, 10, 11, 12, 13, 14, 15, 16, 17, 18, 19, 20, 21, 22, 23, 24, 25, 26, 27, 28, 29, 30, 31, 32, 33])], [], []⟩
noncomputable def cal0 {T : Type} (k : Nat) : List (FuncId × Hd T) := []
theorem cal0_ok {T : Type} (k : Nat) : HdsOk Try.prog (cal0 (T := T) k) := trivial
noncomputable def cal {T : Type} (k : Nat) : List (FuncId × Hd T) := cal0 k
theorem cal_ok {T : Type} (k : Nat) : HdsOk Try.prog (cal (T := T) k) := cal0_ok k
noncomputable abbrev la (k : Nat) (Rs : List (Fr → St → O (List TY9))) (ds : List Dir) (j : Nat) : Fr → St → O (List TY9) := loopAt tab (calOf (cal k)) Go.Proofs.Try.f25.ntmps nt k Rs ds (bodyOf Go.Proofs.Try.f25) (finK tab Go.Proofs.Try.f25.results.toList (fun v st => outK ct.ob (γ0 ct) ct.outs v st .ok) (fun e st => outP ct.ob (γ0 ct) ct.outs e st .ok)) j
noncomputable abbrev zl0 {α : Type} (X : Fr → St → α) (a0 : List TY9) (v1 : Int) (v2 : List TY9) : α := X ⟨[(0, .osl 0), (3, .osl 1), (4, .int .i64 v1)], [], 0, []⟩ ⟨2, true, [(0, .row false 56 [.int .i64, .int .i64, .bool] a0), (1, .row true 56 [.int .i64, .int .i64, .bool] v2)]⟩
noncomputable def l0_b (k : Nat) (a0 : List TY9) (R_l0 : Int → (List TY9) → O (List TY9)) (v1 : Int) (v2 : List TY9) : O (List TY9) :=
  O.cond (decide (v1 < (List.length a0 : Int))) (
   O.cond (decide (v1 < (5 : Int))) (
    O.chk (decide (0 ≤ v1 ∧ v1 < (List.length a0 : Int) ∧ (List.length a0 : Int) ≤ (List.length a0 : Int))) (
     O.chk (decide (0 ≤ v1 ∧ v1 < (List.length a0 : Int))) (
      O.chk (decide (0 ≤ v1 ∧ v1 < (List.length a0 : Int) ∧ (List.length a0 : Int) ≤ (List.length a0 : Int))) (
       O.chk (decide (0 ≤ v1 ∧ v1 < (List.length a0 : Int))) (
        O.chk (decide (0 ≤ v1 ∧ v1 < (List.length a0 : Int) ∧ (List.length a0 : Int) ≤ (List.length a0 : Int))) (
         O.chk (decide (0 ≤ v1 ∧ v1 < (List.length a0 : Int))) (
          O.cond ((gt ((0 : Int), (0 : Int), false) a0 v1).2.2) (
           O.chk (decide (List.length v2 + List.length [((IntKind.i64.wrap ((520 : Int) + (bAnd .i64 (gt ((0 : Int), (0 : Int), false) a0 v1).1 (255 : Int)))), (IntKind.i64.wrap ((1 : Int) + (bAnd .i64 (gt ((0 : Int), (0 : Int), false) a0 v1).2.1 (127 : Int)))), true)] ≤ 1073741824)) (
            R_l0 (IntKind.i64.wrap (v1 + (1 : Int))) (v2 ++ [((IntKind.i64.wrap ((520 : Int) + (bAnd .i64 (gt ((0 : Int), (0 : Int), false) a0 v1).1 (255 : Int)))), (IntKind.i64.wrap ((1 : Int) + (bAnd .i64 (gt ((0 : Int), (0 : Int), false) a0 v1).2.1 (127 : Int)))), true)]))) (
           O.cond (decide (v1 > (0 : Int))) (
            O.chk (decide (0 ≤ (IntKind.i64.wrap (v1 - (1 : Int))) ∧ (IntKind.i64.wrap (v1 - (1 : Int))) < (List.length v2 : Int) ∧ (List.length v2 : Int) ≤ (List.length v2 : Int))) (
             O.chk (decide (0 ≤ (IntKind.i64.wrap (v1 - (1 : Int))) ∧ (IntKind.i64.wrap (v1 - (1 : Int))) < (List.length v2 : Int))) (
              O.chk (decide (List.length v2 + List.length [((IntKind.i64.wrap ((520 : Int) + (bAnd .i64 (gt ((0 : Int), (0 : Int), false) a0 v1).1 (255 : Int)))), (IntKind.i64.wrap ((1 : Int) + (bAnd .i64 (gt ((0 : Int), (0 : Int), false) a0 v1).2.1 (127 : Int)))), (gt ((0 : Int), (0 : Int), false) v2 (IntKind.i64.wrap (v1 - (1 : Int)))).2.2)] ≤ 1073741824)) (
               R_l0 (IntKind.i64.wrap (v1 + (1 : Int))) (v2 ++ [((IntKind.i64.wrap ((520 : Int) + (bAnd .i64 (gt ((0 : Int), (0 : Int), false) a0 v1).1 (255 : Int)))), (IntKind.i64.wrap ((1 : Int) + (bAnd .i64 (gt ((0 : Int), (0 : Int), false) a0 v1).2.1 (127 : Int)))), (gt ((0 : Int), (0 : Int), false) v2 (IntKind.i64.wrap (v1 - (1 : Int)))).2.2)]))))) (
            O.chk (decide (List.length v2 + List.length [((IntKind.i64.wrap ((520 : Int) + (bAnd .i64 (gt ((0 : Int), (0 : Int), false) a0 v1).1 (255 : Int)))), (IntKind.i64.wrap ((1 : Int) + (bAnd .i64 (gt ((0 : Int), (0 : Int), false) a0 v1).2.1 (127 : Int)))), false)] ≤ 1073741824)) (
             R_l0 (IntKind.i64.wrap (v1 + (1 : Int))) (v2 ++ [((IntKind.i64.wrap ((520 : Int) + (bAnd .i64 (gt ((0 : Int), (0 : Int), false) a0 v1).1 (255 : Int)))), (IntKind.i64.wrap ((1 : Int) + (bAnd .i64 (gt ((0 : Int), (0 : Int), false) a0 v1).2.1 (127 : Int)))), false)]))))))))))) (
    .ok v2)) (
   .ok v2)
noncomputable def l0 (k : Nat) (a0 : List TY9) : Nat → Int → (List TY9) → O (List TY9)
 | 0, _, _ => .no
 | j + 1, v1, v2 => l0_b k a0 (l0 k a0 j) v1 v2
theorem l0_eq (k : Nat) (a0 : List TY9) : ∀ (j : Nat) (v1 : Int) (v2 : List TY9), zl0 (la k [] [.r, .r, .l, .r, .b] j) a0 v1 v2 = l0 k a0 j v1 v2 := by
 intro j
 induction j with
 | zero => intro v1 v2; rfl
 | succ j ih =>
  intro v1 v2
  have rs : (fun (v1' : Int) (v2' : List TY9) => zl0 (la k [] [.r, .r, .l, .r, .b] j) a0 v1' v2') = l0 k a0 j := by funext v1' v2'; exact ih v1' v2'
  have h : zl0 (la k [] [.r, .r, .l, .r, .b] (j + 1)) a0 v1 v2 = l0_b k a0 ((fun (v1' : Int) (v2' : List TY9) => zl0 (la k [] [.r, .r, .l, .r, .b] j) a0 v1' v2')) v1 v2 := by kernel_rfl
  exact h.trans (by rw [rs]; rfl)
noncomputable def top (k : Nat) (a0 : List TY9) (D_l0 : Int → (List TY9) → O (List TY9)) : O (List TY9) :=
 D_l0 (0 : Int) []
noncomputable def S (k : Nat) (a0 : List TY9) : O (List TY9) := top k a0 ((fun (v1 : Int) (v2 : List TY9) => l0 k a0 k v1 v2))
theorem eq (k : Nat) (a0 : List TY9) : evFn (T := List TY9) tab (calOf (cal k)) Go.Proofs.Try.f25 nt k 0 [.osl 0] [] ⟨1, false, [(0, .row false 56 [.int .i64, .int .i64, .bool] a0)]⟩ (fun v st => outK ct.ob (γ0 ct) ct.outs v st .ok) (fun e st => outP ct.ob (γ0 ct) ct.outs e st .ok) = S k a0 := by
 have e0 : (fun (v1 : Int) (v2 : List TY9) => zl0 (la k [] [.r, .r, .l, .r, .b] k) a0 v1 v2) = (fun (v1 : Int) (v2 : List TY9) => l0 k a0 k v1 v2) := by funext v1 v2; exact l0_eq k a0 k v1 v2
 have h : evFn (T := List TY9) tab (calOf (cal k)) Go.Proofs.Try.f25 nt k 0 [.osl 0] [] ⟨1, false, [(0, .row false 56 [.int .i64, .int .i64, .bool] a0)]⟩ (fun v st => outK ct.ob (γ0 ct) ct.outs v st .ok) (fun e st => outP ct.ob (γ0 ct) ct.outs e st .ok) = top k a0 ((fun (v1 : Int) (v2 : List TY9) => zl0 (la k [] [.r, .r, .l, .r, .b] k) a0 v1 v2)) := by kernel_rfl
 exact h.trans (by rw [e0]; rfl)
theorem ok (k : Nat) : FnOkC Try.prog 25 ct (fun (x : List TY9) (_ : Unit) => S k x) :=
 FnOkC.of_ev (C := ct) tab_ok rfl (calOf_ok (cal_ok k)) mixed Try.func25 nt k (fun _ _ => rfl) (fun (x : List TY9) (_ : Unit) => eq k x)
theorem hd {T : Type} (k : Nat) : HdOk Try.prog 25 (pureC (T := T) ct [] (fun (x : List TY9) (_ : Unit) => S k x)) :=
 pureC_ok rfl [] (ok k) Try.call25
end F_aqueductlaw15_inside
namespace F_desc_Avail
noncomputable def ct : Ct := ⟨.some (.cons (.leaf (.int .i64)) (.one (.leaf .bool) [])), [], [⟨.val (.leaf .bool), [], []⟩]⟩
noncomputable def nt : Notes := ⟨[], [], [], [], []⟩
noncomputable def cal0 {T : Type} (k : Nat) : List (FuncId × Hd T) := [(70, pureC F_desc_says.ct [] (fun (x : Int × Bool) (_ : Unit) => F_desc_says.S k x.1 x.2))]
theorem cal0_ok {T : Type} (k : Nat) : HdsOk Try.prog (cal0 (T := T) k) := ⟨F_desc_says.hd k, trivial⟩
noncomputable def cal {T : Type} (k : Nat) : List (FuncId × Hd T) := cal0 k
theorem cal_ok {T : Type} (k : Nat) : HdsOk Try.prog (cal (T := T) k) := cal0_ok k
noncomputable def S (k : Nat) (a0 : Int) (a1 : Bool) : O Bool :=
 O.bind (F_desc_says.S k a0 a1) fun r1 =>
 .ok (decide (r1 = (1 : Int)))
theorem eq (k : Nat) (a0 : Int) (a1 : Bool) : evFn (T := Bool) tab (calOf (cal k)) Go.Proofs.Try.f56 nt k 0 [.int .i64 a0, .bool a1] [] ⟨0, false, []⟩ (fun v st => outK ct.ob (γ0 ct) ct.outs v st .ok) (fun e st => outP ct.ob (γ0 ct) ct.outs e st .ok) = S k a0 a1 := by kernel_rfl
theorem ok (k : Nat) : FnOkC Try.prog 56 ct (fun (x : Int × Bool) (_ : Unit) => S k x.1 x.2) :=
 FnOkC.of_ev (C := ct) tab_ok rfl (calOf_ok (cal_ok k)) mixed Try.func56 nt k (fun _ _ => rfl) (fun (x : Int × Bool) (_ : Unit) => eq k x.1 x.2)
theorem hd {T : Type} (k : Nat) : HdOk Try.prog 56 (pureC (T := T) ct [] (fun (x : Int × Bool) (_ : Unit) => S k x.1 x.2)) :=
 pureC_ok rfl [] (ok k) Try.call56
end F_desc_Avail
namespace F_devq_Queue_table
noncomputable def ct : Ct := ⟨.some (.pin (.ref 0) (.one (.agg (.cons (.leaf (.int .u64)) (.cons (.leaf (.int .u32)) (.cons (.leaf (.int .i64)) (.one (.leaf (.int .i64)) []))))) [])), [(126, .pin (.ref 1) (.cons (.agg (.cons (.leaf (.int .i64)) (.cons (.leaf (.int .i64)) (.cons (.leaf (.int .i64)) (.one (.leaf (.int .i64)) []))))) (.cons (.agg (.cons (.leaf (.int .i64)) (.one (.leaf .bool) []))) (.cons (.agg (.cons (.leaf (.int .i64)) (.one (.leaf .bool) []))) (.cons (.agg (.cons (.leaf (.int .i64)) (.one (.leaf .bool) []))) (.cons (.leaf (.int .i64)) (.cons (.leaf (.int .i64)) (.one (.leaf .bool) [])))))))), (92, .cons (.row true 5 [.int .u8]) (.cons (.leaf (.int .i64)) (.one (.row true 121 [.int .i64, .int .i64, .int .i64, .bool]) [])))], [⟨.pan0 128 true, [], []⟩, ⟨.val (.row true 110 [.int .u64, .int .u32, .int .i64, .int .i64]), [], []⟩]⟩
noncomputable def nt : Notes := ⟨[(5, ⟨[0, 3, 5, 6, 7], [(.slot 6 [], 110, .pl [.int .u64, .int .u32, .int .i64, .int .i64])]⟩)], [], [(2, [0, 1, 2, 3, 4, 5, 6, 7, 8, 9, 10, 11, 12, 13, 14, 15, 16, 17, 18, 19, 20, 21, 22, 23, 24, 25, 26, 27, 28])], [], []⟩
noncomputable def cal0 {T : Type} (k : Nat) : List (FuncId × Hd T) := [(42, pureC F_gmem_Memory_Read.ct [.arg 0 0] (fun (x : Int × Int) (g : List Int × Int × TY1) => F_gmem_Memory_Read.S k x.1 x.2 g)), (43, pureC F_desc_Parse.ct [] (fun (x : ByteArray) (_ : Unit) => F_desc_Parse.S k x)), (45, pureR F_gmem_Memory_May.ct [.arg 0 0] (fun (x : Int × Int) (g : List Int × Int × TY1) => F_gmem_Memory_May.S k x.1 x.2 g))]
theorem cal0_ok {T : Type} (k : Nat) : HdsOk Try.prog (cal0 (T := T) k) := ⟨F_gmem_Memory_Read.hd k, F_desc_Parse.hd k, F_gmem_Memory_May.hd k, trivial⟩
noncomputable def nt79 : Notes := ⟨[], [], [], [], []⟩
noncomputable def cal1 {T : Type} (k : Nat) : List (FuncId × Hd T) := (79, inlH tab (calOf (cal0 k)) Go.Proofs.Try.f79 nt79 k) :: cal0 k
theorem cal1_ok {T : Type} (k : Nat) : HdsOk Try.prog (cal1 (T := T) k) := ⟨inlH_ok tab_ok (calOf_ok (cal0_ok k)) mixed Try.func79 nt79 k Try.call79, cal0_ok k⟩
noncomputable def nt55 : Notes := ⟨[], [], [], [], []⟩
noncomputable def cal2 {T : Type} (k : Nat) : List (FuncId × Hd T) := (55, inlH tab (calOf (cal1 k)) Go.Proofs.Try.f55 nt55 k) :: cal1 k
theorem cal2_ok {T : Type} (k : Nat) : HdsOk Try.prog (cal2 (T := T) k) := ⟨inlH_ok tab_ok (calOf_ok (cal1_ok k)) mixed Try.func55 nt55 k Try.call55, cal1_ok k⟩
noncomputable def cal {T : Type} (k : Nat) : List (FuncId × Hd T) := cal2 k
theorem cal_ok {T : Type} (k : Nat) : HdsOk Try.prog (cal (T := T) k) := cal2_ok k
noncomputable abbrev la (k : Nat) (Rs : List (Fr → St → O (TY19 ⊕ TY18))) (ds : List Dir) (j : Nat) : Fr → St → O (TY19 ⊕ TY18) := loopAt tab (calOf (cal k)) Go.Proofs.Try.f80.ntmps nt k Rs ds (bodyOf Go.Proofs.Try.f80) (finK tab Go.Proofs.Try.f80.results.toList (fun v st => outK ct.ob (γ0 ct) ct.outs v st .ok) (fun e st => outP ct.ob (γ0 ct) ct.outs e st .ok)) j
noncomputable abbrev zl0 {α : Type} (X : Fr → St → α) (a1 : Int × Int × Int × Int) (g0 : TY6 × (Int × Bool) × (Int × Bool) × (Int × Bool) × Int × Int × Bool) (v6 : Int) (v7 : List TY6) (v8 : List Int) (v9 : List TY5) (v10 : Int) : α := X ⟨[(0, .ptr 0 0), (3, .ptr 2 0), (5, .int .i64 (IntKind.i64.wrap a1.2.1)), (6, .osl 3), (7, .int .i64 v6)], [], 2, []⟩ ⟨6, true, [(2, .cells 110 [.int .u64 a1.1, .int .u32 a1.2.1, .int .i64 a1.2.2.1, .int .i64 a1.2.2.2]), (3, .row true 110 [.int .u64, .int .u32, .int .i64, .int .i64] v7), (4, .row true 5 [.int .u8] v8), (5, .row true 121 [.int .i64, .int .i64, .int .i64, .bool] v9), (0, .cells 126 [.ptr 1 0, .int .i64 g0.1.1, .int .i64 g0.1.2.1, .int .i64 g0.1.2.2.1, .int .i64 g0.1.2.2.2, .int .i64 g0.2.1.1, .bool g0.2.1.2, .int .i64 g0.2.2.1.1, .bool g0.2.2.1.2, .int .i64 g0.2.2.2.1.1, .bool g0.2.2.2.1.2, .int .i64 g0.2.2.2.2.1, .int .i64 g0.2.2.2.2.2.1, .bool g0.2.2.2.2.2.2]), (1, .cells 92 [.osl 4, .int .i64 v10, .osl 5])]⟩
noncomputable def l0_b (k : Nat) (a1 : Int × Int × Int × Int) (g0 : TY6 × (Int × Bool) × (Int × Bool) × (Int × Bool) × Int × Int × Bool) (R_l0 : Int → TY21 → (List Int) → TY1 → Int → O (TY19 ⊕ TY18)) (v6 : Int) (v7 : List TY6) (v8 : List Int) (v9 : List TY5) (v10 : Int) : O (TY19 ⊕ TY18) :=
  O.cond (decide (v6 < (IntKind.i64.wrap a1.2.1))) (
   O.bind (F_gmem_Memory_Read.S k (IntKind.i64.wrap ((IntKind.i64.wrap a1.1) + v6)) (16 : Int) (v8, v10, v9)) fun r13 =>
   O.cond (!(decide (r13.1.2 = (0 : Int)))) (
    .ok (.inl (g0, r13.2))) (
    O.bind (F_desc_Parse.S k r13.1.1) fun r14 =>
    O.cond (!(decide ((bAnd .i64 r14.1.2.2.2 (4 : Int)) = (0 : Int)))) (
     .ok (.inl (g0, r13.2))) (
     O.chk (decide (List.length v7 + List.length [r14.1] ≤ 1073741824)) (
      R_l0 (IntKind.i64.wrap (v6 + (16 : Int))) (v7 ++ [r14.1]) r13.2.1 r13.2.2.2 r13.2.2.1)))) (
   .ok (.inr (v7, (g0, (v8, v10, v9)))))
noncomputable def l0 (k : Nat) (a1 : Int × Int × Int × Int) (g0 : TY6 × (Int × Bool) × (Int × Bool) × (Int × Bool) × Int × Int × Bool) : Nat → Int → TY21 → (List Int) → TY1 → Int → O (TY19 ⊕ TY18)
 | 0, _, _, _, _, _ => .no
 | j + 1, v6, v7, v8, v9, v10 => l0_b k a1 g0 (l0 k a1 g0 j) v6 v7 v8 v9 v10
theorem l0_eq (k : Nat) (a1 : Int × Int × Int × Int) (g0 : TY6 × (Int × Bool) × (Int × Bool) × (Int × Bool) × Int × Int × Bool) : ∀ (j : Nat) (v6 : Int) (v7 : List TY6) (v8 : List Int) (v9 : List TY5) (v10 : Int), zl0 (la k [] [.r, .r, .r, .r, .l, .r, .b] j) a1 g0 v6 v7 v8 v9 v10 = l0 k a1 g0 j v6 v7 v8 v9 v10 := by
 intro j
 induction j with
 | zero => intro v6 v7 v8 v9 v10; rfl
 | succ j ih =>
  intro v6 v7 v8 v9 v10
  have rs : (fun (v6' : Int) (v7' : List TY6) (v8' : List Int) (v9' : List TY5) (v10' : Int) => zl0 (la k [] [.r, .r, .r, .r, .l, .r, .b] j) a1 g0 v6' v7' v8' v9' v10') = l0 k a1 g0 j := by funext v6' v7' v8' v9' v10'; exact ih v6' v7' v8' v9' v10'
  have h : zl0 (la k [] [.r, .r, .r, .r, .l, .r, .b] (j + 1)) a1 g0 v6 v7 v8 v9 v10 = l0_b k a1 g0 ((fun (v6' : Int) (v7' : List TY6) (v8' : List Int) (v9' : List TY5) (v10' : Int) => zl0 (la k [] [.r, .r, .r, .r, .l, .r, .b] j) a1 g0 v6' v7' v8' v9' v10')) v6 v7 v8 v9 v10 := by kernel_rfl
  exact h.trans (by rw [rs]; rfl)
noncomputable def top (k : Nat) (a1 : Int × Int × Int × Int) (g0 : TY6 × (Int × Bool) × (Int × Bool) × (Int × Bool) × Int × Int × Bool) (g1 : List Int × Int × TY1) (D_l0 : Int → TY21 → (List Int) → TY1 → Int → O (TY19 ⊕ TY18)) : O (TY19 ⊕ TY18) :=
  O.cond (decide (a1.2.1 ≤ (1024 : Int))) (
   O.cond (decide ((IntKind.i64.wrap a1.2.1) > (0 : Int))) (
    O.cond (decide ((Int.tmod (IntKind.i64.wrap a1.2.1) (16 : Int)) = (0 : Int))) (
     O.cond (decide (a1.1 < (1048576 : Int))) (
      O.bind (F_gmem_Memory_May.S k (IntKind.i64.wrap a1.1) (IntKind.i64.wrap a1.2.1) g1) fun r1 =>
      O.cond (!r1) (
       .ok (.inl (g0, g1))) (
       D_l0 (0 : Int) [] g1.1 g1.2.2 g1.2.1)) (
      .ok (.inl (g0, g1)))) (
     .ok (.inl (g0, g1)))) (
    .ok (.inl (g0, g1)))) (
   .ok (.inl (g0, g1)))
noncomputable def S (k : Nat) (a1 : Int × Int × Int × Int) (g0 : TY6 × (Int × Bool) × (Int × Bool) × (Int × Bool) × Int × Int × Bool) (g1 : List Int × Int × TY1) : O (TY19 ⊕ TY18) := top k a1 g0 g1 ((fun (v6 : Int) (v7 : List TY6) (v8 : List Int) (v9 : List TY5) (v10 : Int) => l0 k a1 g0 k v6 v7 v8 v9 v10))
theorem eq (k : Nat) (a1 : Int × Int × Int × Int) (g0 : TY6 × (Int × Bool) × (Int × Bool) × (Int × Bool) × Int × Int × Bool) (g1 : List Int × Int × TY1) : evFn (T := TY19 ⊕ TY18) tab (calOf (cal k)) Go.Proofs.Try.f80 nt k 2 [.ptr 0 0, .agg [.int .u64 a1.1, .int .u32 a1.2.1, .int .i64 a1.2.2.1, .int .i64 a1.2.2.2]] [] ⟨4, false, [(1, .cells 92 [.osl 2, .int .i64 g1.2.1, .osl 3]), (3, .row true 121 [.int .i64, .int .i64, .int .i64, .bool] g1.2.2), (2, .row true 5 [.int .u8] g1.1), (0, .cells 126 [.ptr 1 0, .int .i64 g0.1.1, .int .i64 g0.1.2.1, .int .i64 g0.1.2.2.1, .int .i64 g0.1.2.2.2, .int .i64 g0.2.1.1, .bool g0.2.1.2, .int .i64 g0.2.2.1.1, .bool g0.2.2.1.2, .int .i64 g0.2.2.2.1.1, .bool g0.2.2.2.1.2, .int .i64 g0.2.2.2.2.1, .int .i64 g0.2.2.2.2.2.1, .bool g0.2.2.2.2.2.2])]⟩ (fun v st => outK ct.ob (γ0 ct) ct.outs v st .ok) (fun e st => outP ct.ob (γ0 ct) ct.outs e st .ok) = S k a1 g0 g1 := by
 have e0 : (fun (v6 : Int) (v7 : List TY6) (v8 : List Int) (v9 : List TY5) (v10 : Int) => zl0 (la k [] [.r, .r, .r, .r, .l, .r, .b] k) a1 g0 v6 v7 v8 v9 v10) = (fun (v6 : Int) (v7 : List TY6) (v8 : List Int) (v9 : List TY5) (v10 : Int) => l0 k a1 g0 k v6 v7 v8 v9 v10) := by funext v6 v7 v8 v9 v10; exact l0_eq k a1 g0 k v6 v7 v8 v9 v10
 have h : evFn (T := TY19 ⊕ TY18) tab (calOf (cal k)) Go.Proofs.Try.f80 nt k 2 [.ptr 0 0, .agg [.int .u64 a1.1, .int .u32 a1.2.1, .int .i64 a1.2.2.1, .int .i64 a1.2.2.2]] [] ⟨4, false, [(1, .cells 92 [.osl 2, .int .i64 g1.2.1, .osl 3]), (3, .row true 121 [.int .i64, .int .i64, .int .i64, .bool] g1.2.2), (2, .row true 5 [.int .u8] g1.1), (0, .cells 126 [.ptr 1 0, .int .i64 g0.1.1, .int .i64 g0.1.2.1, .int .i64 g0.1.2.2.1, .int .i64 g0.1.2.2.2, .int .i64 g0.2.1.1, .bool g0.2.1.2, .int .i64 g0.2.2.1.1, .bool g0.2.2.1.2, .int .i64 g0.2.2.2.1.1, .bool g0.2.2.2.1.2, .int .i64 g0.2.2.2.2.1, .int .i64 g0.2.2.2.2.2.1, .bool g0.2.2.2.2.2.2])]⟩ (fun v st => outK ct.ob (γ0 ct) ct.outs v st .ok) (fun e st => outP ct.ob (γ0 ct) ct.outs e st .ok) = top k a1 g0 g1 ((fun (v6 : Int) (v7 : List TY6) (v8 : List Int) (v9 : List TY5) (v10 : Int) => zl0 (la k [] [.r, .r, .r, .r, .l, .r, .b] k) a1 g0 v6 v7 v8 v9 v10)) := by kernel_rfl
 exact h.trans (by rw [e0]; rfl)
theorem ok (k : Nat) : FnOkC Try.prog 80 ct (fun (x : Int × Int × Int × Int) (g : TY20 × TY4) => S k x g.1 g.2) :=
 FnOkC.of_ev (C := ct) tab_ok rfl (calOf_ok (cal_ok k)) mixed Try.func80 nt k (fun _ _ => rfl) (fun (x : Int × Int × Int × Int) (g : TY20 × TY4) => eq k x g.1 g.2)
theorem hd {T : Type} (k : Nat) : HdOk Try.prog 80 (pureC (T := T) ct [.arg 0 0, .fld 0 0] (fun (x : Int × Int × Int × Int) (g : TY20 × TY4) => S k x g.1 g.2)) :=
 pureC_ok rfl [.arg 0 0, .fld 0 0] (ok k) Try.call80
end F_devq_Queue_table
namespace F_devq_Queue_part
noncomputable def ct : Ct := ⟨.some (.pin (.ref 0) (.one (.agg (.cons (.leaf (.int .u64)) (.cons (.leaf (.int .u32)) (.cons (.leaf (.int .i64)) (.one (.leaf (.int .i64)) []))))) [])), [(126, .pin (.ref 1) (.cons (.agg (.cons (.leaf (.int .i64)) (.cons (.leaf (.int .i64)) (.cons (.leaf (.int .i64)) (.one (.leaf (.int .i64)) []))))) (.cons (.agg (.cons (.leaf (.int .i64)) (.one (.leaf .bool) []))) (.cons (.agg (.cons (.leaf (.int .i64)) (.one (.leaf .bool) []))) (.cons (.agg (.cons (.leaf (.int .i64)) (.one (.leaf .bool) []))) (.cons (.leaf (.int .i64)) (.cons (.leaf (.int .i64)) (.one (.leaf .bool) [])))))))), (92, .cons (.row true 5 [.int .u8]) (.cons (.leaf (.int .i64)) (.one (.row true 121 [.int .i64, .int .i64, .int .i64, .bool]) [])))], [⟨.pan0 128 true, [], []⟩, ⟨.val (.agg (.cons (.leaf (.int .i64)) (.cons (.leaf (.int .i64)) (.one (.leaf .bool) [])))), [], []⟩]⟩
noncomputable def nt : Notes := ⟨[], [], [(3, [0, 1, 2, 3, 4, 5, 6, 7, 8, 9])], [], []⟩
noncomputable def cal0 {T : Type} (k : Nat) : List (FuncId × Hd T) := [(45, pureR F_gmem_Memory_May.ct [.arg 0 0] (fun (x : Int × Int) (g : List Int × Int × TY1) => F_gmem_Memory_May.S k x.1 x.2 g))]
theorem cal0_ok {T : Type} (k : Nat) : HdsOk Try.prog (cal0 (T := T) k) := ⟨F_gmem_Memory_May.hd k, trivial⟩
noncomputable def nt79 : Notes := ⟨[], [], [], [], []⟩
noncomputable def cal1 {T : Type} (k : Nat) : List (FuncId × Hd T) := (79, inlH tab (calOf (cal0 k)) Go.Proofs.Try.f79 nt79 k) :: cal0 k
theorem cal1_ok {T : Type} (k : Nat) : HdsOk Try.prog (cal1 (T := T) k) := ⟨inlH_ok tab_ok (calOf_ok (cal0_ok k)) mixed Try.func79 nt79 k Try.call79, cal0_ok k⟩
noncomputable def cal {T : Type} (k : Nat) : List (FuncId × Hd T) := cal1 k
theorem cal_ok {T : Type} (k : Nat) : HdsOk Try.prog (cal (T := T) k) := cal1_ok k
noncomputable def S (k : Nat) (a1 : Int × Int × Int × Int) (g0 : TY6 × (Int × Bool) × (Int × Bool) × (Int × Bool) × Int × Int × Bool) (g1 : List Int × Int × TY1) : O (TY19 ⊕ TY22) :=
  O.cond (decide (a1.1 < (1048576 : Int))) (
   O.cond (decide (a1.2.1 > (0 : Int))) (
    O.cond (!(decide (a1.2.1 ≤ (1048576 : Int)))) (
     .ok (.inl (g0, g1))) (
     O.bind (F_gmem_Memory_May.S k (IntKind.i64.wrap a1.1) (IntKind.i64.wrap a1.2.1) g1) fun r1 =>
     O.cond (!r1) (
      .ok (.inl (g0, g1))) (
      .ok (.inr (((IntKind.i64.wrap a1.1), (IntKind.i64.wrap a1.2.1), (decide ((bAnd .i64 a1.2.2.2 (2 : Int)) ≠ (0 : Int)))), (g0, g1)))))) (
    .ok (.inl (g0, g1)))) (
   .ok (.inl (g0, g1)))
theorem eq (k : Nat) (a1 : Int × Int × Int × Int) (g0 : TY6 × (Int × Bool) × (Int × Bool) × (Int × Bool) × Int × Int × Bool) (g1 : List Int × Int × TY1) : evFn (T := TY19 ⊕ TY22) tab (calOf (cal k)) Go.Proofs.Try.f81 nt k 2 [.ptr 0 0, .agg [.int .u64 a1.1, .int .u32 a1.2.1, .int .i64 a1.2.2.1, .int .i64 a1.2.2.2]] [] ⟨4, false, [(1, .cells 92 [.osl 2, .int .i64 g1.2.1, .osl 3]), (3, .row true 121 [.int .i64, .int .i64, .int .i64, .bool] g1.2.2), (2, .row true 5 [.int .u8] g1.1), (0, .cells 126 [.ptr 1 0, .int .i64 g0.1.1, .int .i64 g0.1.2.1, .int .i64 g0.1.2.2.1, .int .i64 g0.1.2.2.2, .int .i64 g0.2.1.1, .bool g0.2.1.2, .int .i64 g0.2.2.1.1, .bool g0.2.2.1.2, .int .i64 g0.2.2.2.1.1, .bool g0.2.2.2.1.2, .int .i64 g0.2.2.2.2.1, .int .i64 g0.2.2.2.2.2.1, .bool g0.2.2.2.2.2.2])]⟩ (fun v st => outK ct.ob (γ0 ct) ct.outs v st .ok) (fun e st => outP ct.ob (γ0 ct) ct.outs e st .ok) = S k a1 g0 g1 := by kernel_rfl
theorem ok (k : Nat) : FnOkC Try.prog 81 ct (fun (x : Int × Int × Int × Int) (g : TY20 × TY4) => S k x g.1 g.2) :=
 FnOkC.of_ev (C := ct) tab_ok rfl (calOf_ok (cal_ok k)) mixed Try.func81 nt k (fun _ _ => rfl) (fun (x : Int × Int × Int × Int) (g : TY20 × TY4) => eq k x g.1 g.2)
theorem hd {T : Type} (k : Nat) : HdOk Try.prog 81 (pureC (T := T) ct [.arg 0 0, .fld 0 0] (fun (x : Int × Int × Int × Int) (g : TY20 × TY4) => S k x g.1 g.2)) :=
 pureC_ok rfl [.arg 0 0, .fld 0 0] (ok k) Try.call81
end F_devq_Queue_part
end Go.Proofs.Ytpfddjdkafjjfaa
end
section
namespace Go.Proofs.Ytpfddjdkafjjfaa
open Go.Aq
set_option linter.unusedVariables false
set_option maxRecDepth 100000
namespace F_devq_Queue_chain
noncomputable def ct : Ct := ⟨.some (.pin (.ref 0) (.one (.agg (.cons (.leaf (.int .u64)) (.cons (.leaf (.int .u32)) (.cons (.leaf (.int .i64)) (.one (.leaf (.int .i64)) []))))) [])), [(126, .pin (.ref 1) (.cons (.agg (.cons (.leaf (.int .i64)) (.cons (.leaf (.int .i64)) (.cons (.leaf (.int .i64)) (.one (.leaf (.int .i64)) []))))) (.cons (.agg (.cons (.leaf (.int .i64)) (.one (.leaf .bool) []))) (.cons (.agg (.cons (.leaf (.int .i64)) (.one (.leaf .bool) []))) (.cons (.agg (.cons (.leaf (.int .i64)) (.one (.leaf .bool) []))) (.cons (.leaf (.int .i64)) (.cons (.leaf (.int .i64)) (.one (.leaf .bool) [])))))))), (92, .cons (.row true 5 [.int .u8]) (.cons (.leaf (.int .i64)) (.one (.row true 121 [.int .i64, .int .i64, .int .i64, .bool]) [])))], [⟨.pan0 128 true, [], []⟩, ⟨.val (.agg (.cons (.leaf (.int .i64)) (.cons (.leaf (.int .i64)) (.one (.row true 56 [.int .i64, .int .i64, .bool]) [])))), [], []⟩]⟩
noncomputable def nt : Notes := ⟨[(4, ⟨[0, 3, 4, 5, 6, 7], []⟩), (11, ⟨[0, 3, 4, 6, 8, 71, 72, 73], []⟩), (19, ⟨[0, 4, 8, 11, 95, 96, 97], [(.slot 8 [2], 56, .pl [.int .i64, .int .i64, .bool])]⟩), (19, ⟨[0, 4, 8, 11, 95, 96, 97], [(.slot 8 [2], 56, .pl [.int .i64, .int .i64, .bool])]⟩)], [], [(1, [0, 1, 2, 3, 4, 5, 6, 7, 8, 9, 10, 11]), (6, [0, 1, 2, 3, 4, 5, 6, 7, 8, 9, 10]), (7, [0, 1, 2, 3, 4, 5, 6, 7, 8, 9, 10, 11])], [], []⟩
noncomputable def cal0 {T : Type} (k : Nat) : List (FuncId × Hd T) := [(41, pureC F_spot_Next.ct [] (fun (x : (Int × Bool) × Int × Int) (_ : Unit) => F_spot_Next.S k x.1 x.2.1 x.2.2)), (42, pureC F_gmem_Memory_Read.ct [.arg 0 0] (fun (x : Int × Int) (g : List Int × Int × TY1) => F_gmem_Memory_Read.S k x.1 x.2 g)), (43, pureC F_desc_Parse.ct [] (fun (x : ByteArray) (_ : Unit) => F_desc_Parse.S k x)), (80, pureC F_devq_Queue_table.ct [.arg 0 0, .fld 0 0] (fun (x : Int × Int × Int × Int) (g : TY20 × TY4) => F_devq_Queue_table.S k x g.1 g.2)), (81, pureC F_devq_Queue_part.ct [.arg 0 0, .fld 0 0] (fun (x : Int × Int × Int × Int) (g : TY20 × TY4) => F_devq_Queue_part.S k x g.1 g.2))]
theorem cal0_ok {T : Type} (k : Nat) : HdsOk Try.prog (cal0 (T := T) k) := ⟨F_spot_Next.hd k, F_gmem_Memory_Read.hd k, F_desc_Parse.hd k, F_devq_Queue_table.hd k, F_devq_Queue_part.hd k, trivial⟩
noncomputable def nt79 : Notes := ⟨[], [], [], [], []⟩
noncomputable def cal1 {T : Type} (k : Nat) : List (FuncId × Hd T) := (79, inlH tab (calOf (cal0 k)) Go.Proofs.Try.f79 nt79 k) :: cal0 k
theorem cal1_ok {T : Type} (k : Nat) : HdsOk Try.prog (cal1 (T := T) k) := ⟨inlH_ok tab_ok (calOf_ok (cal0_ok k)) mixed Try.func79 nt79 k Try.call79, cal0_ok k⟩
noncomputable def nt55 : Notes := ⟨[], [], [], [], []⟩
noncomputable def cal2 {T : Type} (k : Nat) : List (FuncId × Hd T) := (55, inlH tab (calOf (cal1 k)) Go.Proofs.Try.f55 nt55 k) :: cal1 k
theorem cal2_ok {T : Type} (k : Nat) : HdsOk Try.prog (cal2 (T := T) k) := ⟨inlH_ok tab_ok (calOf_ok (cal1_ok k)) mixed Try.func55 nt55 k Try.call55, cal1_ok k⟩
noncomputable def cal {T : Type} (k : Nat) : List (FuncId × Hd T) := cal2 k
theorem cal_ok {T : Type} (k : Nat) : HdsOk Try.prog (cal (T := T) k) := cal2_ok k
noncomputable abbrev la (k : Nat) (Rs : List (Fr → St → O (TY19 ⊕ TY23))) (ds : List Dir) (j : Nat) : Fr → St → O (TY19 ⊕ TY23) := loopAt tab (calOf (cal k)) Go.Proofs.Try.f57.ntmps nt k Rs ds (bodyOf Go.Proofs.Try.f57) (finK tab Go.Proofs.Try.f57.results.toList (fun v st => outK ct.ob (γ0 ct) ct.outs v st .ok) (fun e st => outP ct.ob (γ0 ct) ct.outs e st .ok)) j
noncomputable abbrev zl0 {α : Type} (X : Fr → St → α) (g0 : TY6 × (Int × Bool) × (Int × Bool) × (Int × Bool) × Int × Int × Bool) (v23 : Int) (v24 : Int) (v25 : Int) (v26 : Int) (v27 : List TY6) (v28 : Int) (v29 : Bool) (v30 : List Int) (v31 : List TY5) (v32 : Int) : α := X ⟨[(0, .ptr 0 0), (3, .ptr 2 0), (4, .ptr 3 0), (5, .int .i64 (min (64 : Int) (IntKind.i64.wrap (g0.1.2.1 - g0.2.2.2.2.2.1)))), (6, .osl 4), (7, .ptr 5 0)], [], 2, []⟩ ⟨8, true, [(2, .cells 110 [.int .u64 v23, .int .u32 v24, .int .i64 v25, .int .i64 v26]), (3, .cells 74 [.int .i64 (0 : Int), .int .i64 (0 : Int), .nilsl]), (4, .row true 110 [.int .u64, .int .u32, .int .i64, .int .i64] v27), (5, .cells 42 [.int .i64 v28, .bool v29]), (6, .row true 5 [.int .u8] v30), (7, .row true 121 [.int .i64, .int .i64, .int .i64, .bool] v31), (0, .cells 126 [.ptr 1 0, .int .i64 g0.1.1, .int .i64 g0.1.2.1, .int .i64 g0.1.2.2.1, .int .i64 g0.1.2.2.2, .int .i64 g0.2.1.1, .bool g0.2.1.2, .int .i64 g0.2.2.1.1, .bool g0.2.2.1.2, .int .i64 g0.2.2.2.1.1, .bool g0.2.2.2.1.2, .int .i64 g0.2.2.2.2.1, .int .i64 g0.2.2.2.2.2.1, .bool g0.2.2.2.2.2.2]), (1, .cells 92 [.osl 6, .int .i64 v32, .osl 7])]⟩
noncomputable abbrev zl1 {α : Type} (X : Fr → St → α) (g0 : TY6 × (Int × Bool) × (Int × Bool) × (Int × Bool) × Int × Int × Bool) (v23 : Int) (v24 : Int) (v25 : Int) (v26 : Int) (v27 : List TY6) (v30 : List Int) (v31 : List TY5) (v32 : Int) (v40 : Int) : α := X ⟨[(0, .ptr 0 0), (3, .ptr 2 0), (4, .ptr 3 0), (6, .osl 4), (8, .ptr 5 0), (71, .osl 4), (72, .int .i64 (List.length v27 : Int)), (73, .int .i64 v40)], [], 2, []⟩ ⟨8, true, [(2, .cells 110 [.int .u64 v23, .int .u32 v24, .int .i64 v25, .int .i64 v26]), (3, .cells 74 [.int .i64 (0 : Int), .int .i64 (0 : Int), .nilsl]), (4, .row true 110 [.int .u64, .int .u32, .int .i64, .int .i64] v27), (5, .cells 74 [.int .i64 v25, .int .i64 (List.length v27 : Int), .nilsl]), (6, .row true 5 [.int .u8] v30), (7, .row true 121 [.int .i64, .int .i64, .int .i64, .bool] v31), (0, .cells 126 [.ptr 1 0, .int .i64 g0.1.1, .int .i64 g0.1.2.1, .int .i64 g0.1.2.2.1, .int .i64 g0.1.2.2.2, .int .i64 g0.2.1.1, .bool g0.2.1.2, .int .i64 g0.2.2.1.1, .bool g0.2.2.1.2, .int .i64 g0.2.2.2.1.1, .bool g0.2.2.2.1.2, .int .i64 g0.2.2.2.2.1, .int .i64 g0.2.2.2.2.2.1, .bool g0.2.2.2.2.2.2]), (1, .cells 92 [.osl 6, .int .i64 v32, .osl 7])]⟩
noncomputable abbrev zl2 {α : Type} (X : Fr → St → α) (v25 : Int) (v27 : List TY6) (r42 : TY21 × TY20 × TY4) (v47 : Bool) (v48 : Int) (v49 : List Int) (v50 : List TY5) (v51 : List TY9) (v52 : Int) (v53 : Int) (v54 : Int) (v55 : Int) (v56 : Int) (v57 : Bool) (v58 : Int) (v59 : Bool) (v60 : Int) (v61 : Bool) (v62 : Int) (v63 : Int) (v64 : Bool) (v65 : Int) : α := X ⟨[(0, .ptr 0 0), (4, .ptr 2 0), (8, .ptr 3 0), (11, .bool v47), (95, .osl 4), (96, .int .i64 (List.length r42.1 : Int)), (97, .int .i64 v48)], [], 2, []⟩ ⟨8, true, [(2, .cells 74 [.int .i64 (0 : Int), .int .i64 (0 : Int), .nilsl]), (3, .cells 74 [.int .i64 v25, .int .i64 (List.length v27 : Int), .osl 7]), (4, .row true 110 [.int .u64, .int .u32, .int .i64, .int .i64] r42.1), (5, .row true 5 [.int .u8] v49), (6, .row true 121 [.int .i64, .int .i64, .int .i64, .bool] v50), (7, .row true 56 [.int .i64, .int .i64, .bool] v51), (0, .cells 126 [.ptr 1 0, .int .i64 v52, .int .i64 v53, .int .i64 v54, .int .i64 v55, .int .i64 v56, .bool v57, .int .i64 v58, .bool v59, .int .i64 v60, .bool v61, .int .i64 v62, .int .i64 v63, .bool v64]), (1, .cells 92 [.osl 5, .int .i64 v65, .osl 6])]⟩
noncomputable abbrev zl3 {α : Type} (X : Fr → St → α) (v25 : Int) (v27 : List TY6) (v74 : Bool) (v75 : Int) (v76 : List Int) (v77 : List TY5) (v78 : List TY9) (v79 : Int) (v80 : Int) (v81 : Int) (v82 : Int) (v83 : Int) (v84 : Bool) (v85 : Int) (v86 : Bool) (v87 : Int) (v88 : Bool) (v89 : Int) (v90 : Int) (v91 : Bool) (v92 : Int) : α := X ⟨[(0, .ptr 0 0), (4, .ptr 2 0), (8, .ptr 3 0), (11, .bool v74), (95, .osl 4), (96, .int .i64 (List.length v27 : Int)), (97, .int .i64 v75)], [], 2, []⟩ ⟨8, true, [(2, .cells 74 [.int .i64 (0 : Int), .int .i64 (0 : Int), .nilsl]), (3, .cells 74 [.int .i64 v25, .int .i64 (List.length v27 : Int), .osl 7]), (4, .row true 110 [.int .u64, .int .u32, .int .i64, .int .i64] v27), (5, .row true 5 [.int .u8] v76), (6, .row true 121 [.int .i64, .int .i64, .int .i64, .bool] v77), (7, .row true 56 [.int .i64, .int .i64, .bool] v78), (0, .cells 126 [.ptr 1 0, .int .i64 v79, .int .i64 v80, .int .i64 v81, .int .i64 v82, .int .i64 v83, .bool v84, .int .i64 v85, .bool v86, .int .i64 v87, .bool v88, .int .i64 v89, .int .i64 v90, .bool v91]), (1, .cells 92 [.osl 5, .int .i64 v92, .osl 6])]⟩
noncomputable def l2_b (k : Nat) (v25 : Int) (v27 : List TY6) (r42 : TY21 × TY20 × TY4) (R_l0 : Int → Int → Int → Int → TY21 → Int → Bool → (List Int) → TY1 → Int → O (TY19 ⊕ TY23)) (R_l1 : Int → O (TY19 ⊕ TY23)) (R_l2 : Bool → Int → (List Int) → TY1 → TY25 → Int → Int → Int → Int → Int → Bool → Int → Bool → Int → Bool → Int → Int → Bool → Int → O (TY19 ⊕ TY23)) (v47 : Bool) (v48 : Int) (v49 : List Int) (v50 : List TY5) (v51 : List TY9) (v52 : Int) (v53 : Int) (v54 : Int) (v55 : Int) (v56 : Int) (v57 : Bool) (v58 : Int) (v59 : Bool) (v60 : Int) (v61 : Bool) (v62 : Int) (v63 : Int) (v64 : Bool) (v65 : Int) : O (TY19 ⊕ TY23) :=
  O.cond (decide (v48 < (List.length r42.1 : Int))) (
   O.chk (decide (0 ≤ v48 ∧ v48 < (List.length r42.1 : Int) ∧ (List.length r42.1 : Int) ≤ (List.length r42.1 : Int))) (
    O.chk (decide (0 ≤ v48 ∧ v48 < (List.length r42.1 : Int))) (
     O.sum (F_devq_Queue_part.S k (gt ((0 : Int), (0 : Int), (0 : Int), (0 : Int)) r42.1 v48) ((v52, v53, v54, v55), (v56, v57), (v58, v59), (v60, v61), v62, v63, v64) (v49, v65, v50)) (fun e68 =>
      .ok (.inl (e68.1, e68.2))) fun r69 =>
     O.cond r69.1.2.2 (
      O.chk (decide (List.length v51 + List.length [r69.1] ≤ 1073741824)) (
       R_l2 r69.1.2.2 (IntKind.i64.wrap (v48 + (1 : Int))) r69.2.2.1 r69.2.2.2.2 (v51 ++ [r69.1]) r69.2.1.1.1 r69.2.1.1.2.1 r69.2.1.1.2.2.1 r69.2.1.1.2.2.2 r69.2.1.2.1.1 r69.2.1.2.1.2 r69.2.1.2.2.1.1 r69.2.1.2.2.1.2 r69.2.1.2.2.2.1.1 r69.2.1.2.2.2.1.2 r69.2.1.2.2.2.2.1 r69.2.1.2.2.2.2.2.1 r69.2.1.2.2.2.2.2.2 r69.2.2.2.1)) (
      O.cond (!(!v47)) (
       .ok (.inl (r69.2.1, r69.2.2))) (
       O.chk (decide (List.length v51 + List.length [r69.1] ≤ 1073741824)) (
        R_l2 r69.1.2.2 (IntKind.i64.wrap (v48 + (1 : Int))) r69.2.2.1 r69.2.2.2.2 (v51 ++ [r69.1]) r69.2.1.1.1 r69.2.1.1.2.1 r69.2.1.1.2.2.1 r69.2.1.1.2.2.2 r69.2.1.2.1.1 r69.2.1.2.1.2 r69.2.1.2.2.1.1 r69.2.1.2.2.1.2 r69.2.1.2.2.2.1.1 r69.2.1.2.2.2.1.2 r69.2.1.2.2.2.2.1 r69.2.1.2.2.2.2.2.1 r69.2.1.2.2.2.2.2.2 r69.2.2.2.1)))))) (
   .ok (.inr ((v25, (List.length v27 : Int), v51), (((v52, v53, v54, v55), (v56, v57), (v58, v59), (v60, v61), v62, v63, v64), (v49, v65, v50)))))
noncomputable def l2 (k : Nat) (v25 : Int) (v27 : List TY6) (r42 : TY21 × TY20 × TY4) (R_l0 : Int → Int → Int → Int → TY21 → Int → Bool → (List Int) → TY1 → Int → O (TY19 ⊕ TY23)) (R_l1 : Int → O (TY19 ⊕ TY23)) : Nat → Bool → Int → (List Int) → TY1 → TY25 → Int → Int → Int → Int → Int → Bool → Int → Bool → Int → Bool → Int → Int → Bool → Int → O (TY19 ⊕ TY23)
 | 0, _, _, _, _, _, _, _, _, _, _, _, _, _, _, _, _, _, _, _ => .no
 | j + 1, v47, v48, v49, v50, v51, v52, v53, v54, v55, v56, v57, v58, v59, v60, v61, v62, v63, v64, v65 => l2_b k v25 v27 r42 R_l0 R_l1 (l2 k v25 v27 r42 R_l0 R_l1 j) v47 v48 v49 v50 v51 v52 v53 v54 v55 v56 v57 v58 v59 v60 v61 v62 v63 v64 v65
theorem l2_eq (k : Nat) (v25 : Int) (v27 : List TY6) (r42 : TY21 × TY20 × TY4) (g0 : TY6 × (Int × Bool) × (Int × Bool) × (Int × Bool) × Int × Int × Bool) (v23 : Int) (v24 : Int) (v26 : Int) (v30 : List Int) (v31 : List TY5) (v32 : Int) (RR_l0 : Fr → St → O (TY19 ⊕ TY23)) (R_l0 : Int → Int → Int → Int → TY21 → Int → Bool → (List Int) → TY1 → Int → O (TY19 ⊕ TY23)) (hR_l0 : ∀ (v23' : Int) (v24' : Int) (v25' : Int) (v26' : Int) (v27' : List TY6) (v28' : Int) (v29' : Bool) (v30' : List Int) (v31' : List TY5) (v32' : Int), zl0 RR_l0 g0 v23' v24' v25' v26' v27' v28' v29' v30' v31' v32' = R_l0 v23' v24' v25' v26' v27' v28' v29' v30' v31' v32') (RR_l1 : Fr → St → O (TY19 ⊕ TY23)) (R_l1 : Int → O (TY19 ⊕ TY23)) (hR_l1 : ∀ (v40' : Int), zl1 RR_l1 g0 v23 v24 v25 v26 v27 v30 v31 v32 v40' = R_l1 v40') : ∀ (j : Nat) (v47 : Bool) (v48 : Int) (v49 : List Int) (v50 : List TY5) (v51 : List TY9) (v52 : Int) (v53 : Int) (v54 : Int) (v55 : Int) (v56 : Int) (v57 : Bool) (v58 : Int) (v59 : Bool) (v60 : Int) (v61 : Bool) (v62 : Int) (v63 : Int) (v64 : Bool) (v65 : Int), zl2 (la k [] [.r, .r, .r, .r, .r, .r, .r, .r, .r, .l, .r, .b] j) v25 v27 r42 v47 v48 v49 v50 v51 v52 v53 v54 v55 v56 v57 v58 v59 v60 v61 v62 v63 v64 v65 = l2 k v25 v27 r42 R_l0 R_l1 j v47 v48 v49 v50 v51 v52 v53 v54 v55 v56 v57 v58 v59 v60 v61 v62 v63 v64 v65 := by
 intro j
 induction j with
 | zero => intro v47 v48 v49 v50 v51 v52 v53 v54 v55 v56 v57 v58 v59 v60 v61 v62 v63 v64 v65; rfl
 | succ j ih =>
  intro v47 v48 v49 v50 v51 v52 v53 v54 v55 v56 v57 v58 v59 v60 v61 v62 v63 v64 v65
  have rs : (fun (v47' : Bool) (v48' : Int) (v49' : List Int) (v50' : List TY5) (v51' : List TY9) (v52' : Int) (v53' : Int) (v54' : Int) (v55' : Int) (v56' : Int) (v57' : Bool) (v58' : Int) (v59' : Bool) (v60' : Int) (v61' : Bool) (v62' : Int) (v63' : Int) (v64' : Bool) (v65' : Int) => zl2 (la k [] [.r, .r, .r, .r, .r, .r, .r, .r, .r, .l, .r, .b] j) v25 v27 r42 v47' v48' v49' v50' v51' v52' v53' v54' v55' v56' v57' v58' v59' v60' v61' v62' v63' v64' v65') = l2 k v25 v27 r42 R_l0 R_l1 j := by funext v47' v48' v49' v50' v51' v52' v53' v54' v55' v56' v57' v58' v59' v60' v61' v62' v63' v64' v65'; exact ih v47' v48' v49' v50' v51' v52' v53' v54' v55' v56' v57' v58' v59' v60' v61' v62' v63' v64' v65'
  have r0 : (fun (v23' : Int) (v24' : Int) (v25' : Int) (v26' : Int) (v27' : List TY6) (v28' : Int) (v29' : Bool) (v30' : List Int) (v31' : List TY5) (v32' : Int) => zl0 RR_l0 g0 v23' v24' v25' v26' v27' v28' v29' v30' v31' v32') = R_l0 := by funext v23' v24' v25' v26' v27' v28' v29' v30' v31' v32'; exact hR_l0 v23' v24' v25' v26' v27' v28' v29' v30' v31' v32'
  have r1 : (fun (v40' : Int) => zl1 RR_l1 g0 v23 v24 v25 v26 v27 v30 v31 v32 v40') = R_l1 := by funext v40'; exact hR_l1 v40'
  have h : zl2 (la k [] [.r, .r, .r, .r, .r, .r, .r, .r, .r, .l, .r, .b] (j + 1)) v25 v27 r42 v47 v48 v49 v50 v51 v52 v53 v54 v55 v56 v57 v58 v59 v60 v61 v62 v63 v64 v65 = l2_b k v25 v27 r42 ((fun (v23' : Int) (v24' : Int) (v25' : Int) (v26' : Int) (v27' : List TY6) (v28' : Int) (v29' : Bool) (v30' : List Int) (v31' : List TY5) (v32' : Int) => zl0 RR_l0 g0 v23' v24' v25' v26' v27' v28' v29' v30' v31' v32')) ((fun (v40' : Int) => zl1 RR_l1 g0 v23 v24 v25 v26 v27 v30 v31 v32 v40')) ((fun (v47' : Bool) (v48' : Int) (v49' : List Int) (v50' : List TY5) (v51' : List TY9) (v52' : Int) (v53' : Int) (v54' : Int) (v55' : Int) (v56' : Int) (v57' : Bool) (v58' : Int) (v59' : Bool) (v60' : Int) (v61' : Bool) (v62' : Int) (v63' : Int) (v64' : Bool) (v65' : Int) => zl2 (la k [] [.r, .r, .r, .r, .r, .r, .r, .r, .r, .l, .r, .b] j) v25 v27 r42 v47' v48' v49' v50' v51' v52' v53' v54' v55' v56' v57' v58' v59' v60' v61' v62' v63' v64' v65')) v47 v48 v49 v50 v51 v52 v53 v54 v55 v56 v57 v58 v59 v60 v61 v62 v63 v64 v65 := by kernel_rfl
  exact h.trans (by rw [rs, r0, r1]; rfl)
noncomputable def l3_b (k : Nat) (v25 : Int) (v27 : List TY6) (R_l0 : Int → Int → Int → Int → TY21 → Int → Bool → (List Int) → TY1 → Int → O (TY19 ⊕ TY23)) (R_l1 : Int → O (TY19 ⊕ TY23)) (R_l3 : Bool → Int → (List Int) → TY1 → TY25 → Int → Int → Int → Int → Int → Bool → Int → Bool → Int → Bool → Int → Int → Bool → Int → O (TY19 ⊕ TY23)) (v74 : Bool) (v75 : Int) (v76 : List Int) (v77 : List TY5) (v78 : List TY9) (v79 : Int) (v80 : Int) (v81 : Int) (v82 : Int) (v83 : Int) (v84 : Bool) (v85 : Int) (v86 : Bool) (v87 : Int) (v88 : Bool) (v89 : Int) (v90 : Int) (v91 : Bool) (v92 : Int) : O (TY19 ⊕ TY23) :=
  O.cond (decide (v75 < (List.length v27 : Int))) (
   O.chk (decide (0 ≤ v75 ∧ v75 < (List.length v27 : Int) ∧ (List.length v27 : Int) ≤ (List.length v27 : Int))) (
    O.chk (decide (0 ≤ v75 ∧ v75 < (List.length v27 : Int))) (
     O.sum (F_devq_Queue_part.S k (gt ((0 : Int), (0 : Int), (0 : Int), (0 : Int)) v27 v75) ((v79, v80, v81, v82), (v83, v84), (v85, v86), (v87, v88), v89, v90, v91) (v76, v92, v77)) (fun e95 =>
      .ok (.inl (e95.1, e95.2))) fun r96 =>
     O.cond r96.1.2.2 (
      O.chk (decide (List.length v78 + List.length [r96.1] ≤ 1073741824)) (
       R_l3 r96.1.2.2 (IntKind.i64.wrap (v75 + (1 : Int))) r96.2.2.1 r96.2.2.2.2 (v78 ++ [r96.1]) r96.2.1.1.1 r96.2.1.1.2.1 r96.2.1.1.2.2.1 r96.2.1.1.2.2.2 r96.2.1.2.1.1 r96.2.1.2.1.2 r96.2.1.2.2.1.1 r96.2.1.2.2.1.2 r96.2.1.2.2.2.1.1 r96.2.1.2.2.2.1.2 r96.2.1.2.2.2.2.1 r96.2.1.2.2.2.2.2.1 r96.2.1.2.2.2.2.2.2 r96.2.2.2.1)) (
      O.cond (!(!v74)) (
       .ok (.inl (r96.2.1, r96.2.2))) (
       O.chk (decide (List.length v78 + List.length [r96.1] ≤ 1073741824)) (
        R_l3 r96.1.2.2 (IntKind.i64.wrap (v75 + (1 : Int))) r96.2.2.1 r96.2.2.2.2 (v78 ++ [r96.1]) r96.2.1.1.1 r96.2.1.1.2.1 r96.2.1.1.2.2.1 r96.2.1.1.2.2.2 r96.2.1.2.1.1 r96.2.1.2.1.2 r96.2.1.2.2.1.1 r96.2.1.2.2.1.2 r96.2.1.2.2.2.1.1 r96.2.1.2.2.2.1.2 r96.2.1.2.2.2.2.1 r96.2.1.2.2.2.2.2.1 r96.2.1.2.2.2.2.2.2 r96.2.2.2.1)))))) (
   .ok (.inr ((v25, (List.length v27 : Int), v78), (((v79, v80, v81, v82), (v83, v84), (v85, v86), (v87, v88), v89, v90, v91), (v76, v92, v77)))))
noncomputable def l3 (k : Nat) (v25 : Int) (v27 : List TY6) (R_l0 : Int → Int → Int → Int → TY21 → Int → Bool → (List Int) → TY1 → Int → O (TY19 ⊕ TY23)) (R_l1 : Int → O (TY19 ⊕ TY23)) : Nat → Bool → Int → (List Int) → TY1 → TY25 → Int → Int → Int → Int → Int → Bool → Int → Bool → Int → Bool → Int → Int → Bool → Int → O (TY19 ⊕ TY23)
 | 0, _, _, _, _, _, _, _, _, _, _, _, _, _, _, _, _, _, _, _ => .no
 | j + 1, v74, v75, v76, v77, v78, v79, v80, v81, v82, v83, v84, v85, v86, v87, v88, v89, v90, v91, v92 => l3_b k v25 v27 R_l0 R_l1 (l3 k v25 v27 R_l0 R_l1 j) v74 v75 v76 v77 v78 v79 v80 v81 v82 v83 v84 v85 v86 v87 v88 v89 v90 v91 v92
theorem l3_eq (k : Nat) (v25 : Int) (v27 : List TY6) (g0 : TY6 × (Int × Bool) × (Int × Bool) × (Int × Bool) × Int × Int × Bool) (v23 : Int) (v24 : Int) (v26 : Int) (v30 : List Int) (v31 : List TY5) (v32 : Int) (RR_l0 : Fr → St → O (TY19 ⊕ TY23)) (R_l0 : Int → Int → Int → Int → TY21 → Int → Bool → (List Int) → TY1 → Int → O (TY19 ⊕ TY23)) (hR_l0 : ∀ (v23' : Int) (v24' : Int) (v25' : Int) (v26' : Int) (v27' : List TY6) (v28' : Int) (v29' : Bool) (v30' : List Int) (v31' : List TY5) (v32' : Int), zl0 RR_l0 g0 v23' v24' v25' v26' v27' v28' v29' v30' v31' v32' = R_l0 v23' v24' v25' v26' v27' v28' v29' v30' v31' v32') (RR_l1 : Fr → St → O (TY19 ⊕ TY23)) (R_l1 : Int → O (TY19 ⊕ TY23)) (hR_l1 : ∀ (v40' : Int), zl1 RR_l1 g0 v23 v24 v25 v26 v27 v30 v31 v32 v40' = R_l1 v40') : ∀ (j : Nat) (v74 : Bool) (v75 : Int) (v76 : List Int) (v77 : List TY5) (v78 : List TY9) (v79 : Int) (v80 : Int) (v81 : Int) (v82 : Int) (v83 : Int) (v84 : Bool) (v85 : Int) (v86 : Bool) (v87 : Int) (v88 : Bool) (v89 : Int) (v90 : Int) (v91 : Bool) (v92 : Int), zl3 (la k [] [.r, .r, .r, .r, .r, .r, .r, .r, .r, .l, .r, .b] j) v25 v27 v74 v75 v76 v77 v78 v79 v80 v81 v82 v83 v84 v85 v86 v87 v88 v89 v90 v91 v92 = l3 k v25 v27 R_l0 R_l1 j v74 v75 v76 v77 v78 v79 v80 v81 v82 v83 v84 v85 v86 v87 v88 v89 v90 v91 v92 := by
 intro j
 induction j with
 | zero => intro v74 v75 v76 v77 v78 v79 v80 v81 v82 v83 v84 v85 v86 v87 v88 v89 v90 v91 v92; rfl
 | succ j ih =>
  intro v74 v75 v76 v77 v78 v79 v80 v81 v82 v83 v84 v85 v86 v87 v88 v89 v90 v91 v92
  have rs : (fun (v74' : Bool) (v75' : Int) (v76' : List Int) (v77' : List TY5) (v78' : List TY9) (v79' : Int) (v80' : Int) (v81' : Int) (v82' : Int) (v83' : Int) (v84' : Bool) (v85' : Int) (v86' : Bool) (v87' : Int) (v88' : Bool) (v89' : Int) (v90' : Int) (v91' : Bool) (v92' : Int) => zl3 (la k [] [.r, .r, .r, .r, .r, .r, .r, .r, .r, .l, .r, .b] j) v25 v27 v74' v75' v76' v77' v78' v79' v80' v81' v82' v83' v84' v85' v86' v87' v88' v89' v90' v91' v92') = l3 k v25 v27 R_l0 R_l1 j := by funext v74' v75' v76' v77' v78' v79' v80' v81' v82' v83' v84' v85' v86' v87' v88' v89' v90' v91' v92'; exact ih v74' v75' v76' v77' v78' v79' v80' v81' v82' v83' v84' v85' v86' v87' v88' v89' v90' v91' v92'
  have r0 : (fun (v23' : Int) (v24' : Int) (v25' : Int) (v26' : Int) (v27' : List TY6) (v28' : Int) (v29' : Bool) (v30' : List Int) (v31' : List TY5) (v32' : Int) => zl0 RR_l0 g0 v23' v24' v25' v26' v27' v28' v29' v30' v31' v32') = R_l0 := by funext v23' v24' v25' v26' v27' v28' v29' v30' v31' v32'; exact hR_l0 v23' v24' v25' v26' v27' v28' v29' v30' v31' v32'
  have r1 : (fun (v40' : Int) => zl1 RR_l1 g0 v23 v24 v25 v26 v27 v30 v31 v32 v40') = R_l1 := by funext v40'; exact hR_l1 v40'
  have h : zl3 (la k [] [.r, .r, .r, .r, .r, .r, .r, .r, .r, .l, .r, .b] (j + 1)) v25 v27 v74 v75 v76 v77 v78 v79 v80 v81 v82 v83 v84 v85 v86 v87 v88 v89 v90 v91 v92 = l3_b k v25 v27 ((fun (v23' : Int) (v24' : Int) (v25' : Int) (v26' : Int) (v27' : List TY6) (v28' : Int) (v29' : Bool) (v30' : List Int) (v31' : List TY5) (v32' : Int) => zl0 RR_l0 g0 v23' v24' v25' v26' v27' v28' v29' v30' v31' v32')) ((fun (v40' : Int) => zl1 RR_l1 g0 v23 v24 v25 v26 v27 v30 v31 v32 v40')) ((fun (v74' : Bool) (v75' : Int) (v76' : List Int) (v77' : List TY5) (v78' : List TY9) (v79' : Int) (v80' : Int) (v81' : Int) (v82' : Int) (v83' : Int) (v84' : Bool) (v85' : Int) (v86' : Bool) (v87' : Int) (v88' : Bool) (v89' : Int) (v90' : Int) (v91' : Bool) (v92' : Int) => zl3 (la k [] [.r, .r, .r, .r, .r, .r, .r, .r, .r, .l, .r, .b] j) v25 v27 v74' v75' v76' v77' v78' v79' v80' v81' v82' v83' v84' v85' v86' v87' v88' v89' v90' v91' v92')) v74 v75 v76 v77 v78 v79 v80 v81 v82 v83 v84 v85 v86 v87 v88 v89 v90 v91 v92 := by kernel_rfl
  exact h.trans (by rw [rs, r0, r1]; rfl)
noncomputable def l1_b (k : Nat) (g0 : TY6 × (Int × Bool) × (Int × Bool) × (Int × Bool) × Int × Int × Bool) (v23 : Int) (v24 : Int) (v25 : Int) (v26 : Int) (v27 : List TY6) (v30 : List Int) (v31 : List TY5) (v32 : Int) (R_l0 : Int → Int → Int → Int → TY21 → Int → Bool → (List Int) → TY1 → Int → O (TY19 ⊕ TY23)) (R_l1 : Int → O (TY19 ⊕ TY23)) (D_l2 : TY18 → Bool → Int → (List Int) → TY1 → TY25 → Int → Int → Int → Int → Int → Bool → Int → Bool → Int → Bool → Int → Int → Bool → Int → O (TY19 ⊕ TY23)) (D_l3 : Bool → Int → (List Int) → TY1 → TY25 → Int → Int → Int → Int → Int → Bool → Int → Bool → Int → Bool → Int → Int → Bool → Int → O (TY19 ⊕ TY23)) (v40 : Int) : O (TY19 ⊕ TY23) :=
  O.cond (decide (v40 < (List.length v27 : Int))) (
   O.chk (decide (0 ≤ v40 ∧ v40 < (List.length v27 : Int) ∧ (List.length v27 : Int) ≤ (List.length v27 : Int))) (
    O.chk (decide (0 ≤ v40 ∧ v40 < (List.length v27 : Int))) (
     O.cond (decide ((bAnd .i64 (gt ((0 : Int), (0 : Int), (0 : Int), (0 : Int)) v27 v40).2.2.2 (4 : Int)) = (0 : Int))) (
      R_l1 (IntKind.i64.wrap (v40 + (1 : Int)))) (
      O.cond (!(decide ((List.length v27 : Int) = (1 : Int)))) (
       .ok (.inl (g0, (v30, v32, v31)))) (
       R_l1 (IntKind.i64.wrap (v40 + (1 : Int)))))))) (
   O.cond (decide ((bAnd .i64 v26 (4 : Int)) ≠ (0 : Int))) (
    O.sum (F_devq_Queue_table.S k (v23, v24, v25, v26) g0 (v30, v32, v31)) (fun e41 =>
     .ok (.inl (e41.1, e41.2))) fun r42 =>
    D_l2 r42 false (0 : Int) r42.2.2.1 r42.2.2.2.2 [] r42.2.1.1.1 r42.2.1.1.2.1 r42.2.1.1.2.2.1 r42.2.1.1.2.2.2 r42.2.1.2.1.1 r42.2.1.2.1.2 r42.2.1.2.2.1.1 r42.2.1.2.2.1.2 r42.2.1.2.2.2.1.1 r42.2.1.2.2.2.1.2 r42.2.1.2.2.2.2.1 r42.2.1.2.2.2.2.2.1 r42.2.1.2.2.2.2.2.2 r42.2.2.2.1) (
    D_l3 false (0 : Int) v30 v31 [] g0.1.1 g0.1.2.1 g0.1.2.2.1 g0.1.2.2.2 g0.2.1.1 g0.2.1.2 g0.2.2.1.1 g0.2.2.1.2 g0.2.2.2.1.1 g0.2.2.2.1.2 g0.2.2.2.2.1 g0.2.2.2.2.2.1 g0.2.2.2.2.2.2 v32))
noncomputable def l1 (k : Nat) (g0 : TY6 × (Int × Bool) × (Int × Bool) × (Int × Bool) × Int × Int × Bool) (v23 : Int) (v24 : Int) (v25 : Int) (v26 : Int) (v27 : List TY6) (v30 : List Int) (v31 : List TY5) (v32 : Int) (R_l0 : Int → Int → Int → Int → TY21 → Int → Bool → (List Int) → TY1 → Int → O (TY19 ⊕ TY23)) : Nat → Int → O (TY19 ⊕ TY23)
 | 0, _ => .no
 | j + 1, v40 => l1_b k g0 v23 v24 v25 v26 v27 v30 v31 v32 R_l0 (l1 k g0 v23 v24 v25 v26 v27 v30 v31 v32 R_l0 j) ((fun (r42 : TY21 × TY20 × TY4) (v47 : Bool) (v48 : Int) (v49 : List Int) (v50 : List TY5) (v51 : List TY9) (v52 : Int) (v53 : Int) (v54 : Int) (v55 : Int) (v56 : Int) (v57 : Bool) (v58 : Int) (v59 : Bool) (v60 : Int) (v61 : Bool) (v62 : Int) (v63 : Int) (v64 : Bool) (v65 : Int) => l2 k v25 v27 r42 R_l0 (l1 k g0 v23 v24 v25 v26 v27 v30 v31 v32 R_l0 j) k v47 v48 v49 v50 v51 v52 v53 v54 v55 v56 v57 v58 v59 v60 v61 v62 v63 v64 v65)) ((fun (v74 : Bool) (v75 : Int) (v76 : List Int) (v77 : List TY5) (v78 : List TY9) (v79 : Int) (v80 : Int) (v81 : Int) (v82 : Int) (v83 : Int) (v84 : Bool) (v85 : Int) (v86 : Bool) (v87 : Int) (v88 : Bool) (v89 : Int) (v90 : Int) (v91 : Bool) (v92 : Int) => l3 k v25 v27 R_l0 (l1 k g0 v23 v24 v25 v26 v27 v30 v31 v32 R_l0 j) k v74 v75 v76 v77 v78 v79 v80 v81 v82 v83 v84 v85 v86 v87 v88 v89 v90 v91 v92)) v40
theorem l1_eq (k : Nat) (g0 : TY6 × (Int × Bool) × (Int × Bool) × (Int × Bool) × Int × Int × Bool) (v23 : Int) (v24 : Int) (v25 : Int) (v26 : Int) (v27 : List TY6) (v30 : List Int) (v31 : List TY5) (v32 : Int) (RR_l0 : Fr → St → O (TY19 ⊕ TY23)) (R_l0 : Int → Int → Int → Int → TY21 → Int → Bool → (List Int) → TY1 → Int → O (TY19 ⊕ TY23)) (hR_l0 : ∀ (v23' : Int) (v24' : Int) (v25' : Int) (v26' : Int) (v27' : List TY6) (v28' : Int) (v29' : Bool) (v30' : List Int) (v31' : List TY5) (v32' : Int), zl0 RR_l0 g0 v23' v24' v25' v26' v27' v28' v29' v30' v31' v32' = R_l0 v23' v24' v25' v26' v27' v28' v29' v30' v31' v32') : ∀ (j : Nat) (v40 : Int), zl1 (la k [] [.r, .r, .r, .r, .r, .r, .l, .r, .b] j) g0 v23 v24 v25 v26 v27 v30 v31 v32 v40 = l1 k g0 v23 v24 v25 v26 v27 v30 v31 v32 R_l0 j v40 := by
 intro j
 induction j with
 | zero => intro v40; rfl
 | succ j ih =>
  intro v40
  have rs : (fun (v40' : Int) => zl1 (la k [] [.r, .r, .r, .r, .r, .r, .l, .r, .b] j) g0 v23 v24 v25 v26 v27 v30 v31 v32 v40') = l1 k g0 v23 v24 v25 v26 v27 v30 v31 v32 R_l0 j := by funext v40'; exact ih v40'
  have e0 : (fun (r42 : TY21 × TY20 × TY4) (v47 : Bool) (v48 : Int) (v49 : List Int) (v50 : List TY5) (v51 : List TY9) (v52 : Int) (v53 : Int) (v54 : Int) (v55 : Int) (v56 : Int) (v57 : Bool) (v58 : Int) (v59 : Bool) (v60 : Int) (v61 : Bool) (v62 : Int) (v63 : Int) (v64 : Bool) (v65 : Int) => zl2 (la k [] [.r, .r, .r, .r, .r, .r, .r, .r, .r, .l, .r, .b] k) v25 v27 r42 v47 v48 v49 v50 v51 v52 v53 v54 v55 v56 v57 v58 v59 v60 v61 v62 v63 v64 v65) = (fun (r42 : TY21 × TY20 × TY4) (v47 : Bool) (v48 : Int) (v49 : List Int) (v50 : List TY5) (v51 : List TY9) (v52 : Int) (v53 : Int) (v54 : Int) (v55 : Int) (v56 : Int) (v57 : Bool) (v58 : Int) (v59 : Bool) (v60 : Int) (v61 : Bool) (v62 : Int) (v63 : Int) (v64 : Bool) (v65 : Int) => l2 k v25 v27 r42 R_l0 (l1 k g0 v23 v24 v25 v26 v27 v30 v31 v32 R_l0 j) k v47 v48 v49 v50 v51 v52 v53 v54 v55 v56 v57 v58 v59 v60 v61 v62 v63 v64 v65) := by funext r42 v47 v48 v49 v50 v51 v52 v53 v54 v55 v56 v57 v58 v59 v60 v61 v62 v63 v64 v65; exact l2_eq k v25 v27 r42 g0 v23 v24 v26 v30 v31 v32 RR_l0 R_l0 hR_l0 (la k [] [.r, .r, .r, .r, .r, .r, .l, .r, .b] j) (l1 k g0 v23 v24 v25 v26 v27 v30 v31 v32 R_l0 j) (fun v40 => ih v40) k v47 v48 v49 v50 v51 v52 v53 v54 v55 v56 v57 v58 v59 v60 v61 v62 v63 v64 v65
  have e1 : (fun (v74 : Bool) (v75 : Int) (v76 : List Int) (v77 : List TY5) (v78 : List TY9) (v79 : Int) (v80 : Int) (v81 : Int) (v82 : Int) (v83 : Int) (v84 : Bool) (v85 : Int) (v86 : Bool) (v87 : Int) (v88 : Bool) (v89 : Int) (v90 : Int) (v91 : Bool) (v92 : Int) => zl3 (la k [] [.r, .r, .r, .r, .r, .r, .r, .r, .r, .l, .r, .b] k) v25 v27 v74 v75 v76 v77 v78 v79 v80 v81 v82 v83 v84 v85 v86 v87 v88 v89 v90 v91 v92) = (fun (v74 : Bool) (v75 : Int) (v76 : List Int) (v77 : List TY5) (v78 : List TY9) (v79 : Int) (v80 : Int) (v81 : Int) (v82 : Int) (v83 : Int) (v84 : Bool) (v85 : Int) (v86 : Bool) (v87 : Int) (v88 : Bool) (v89 : Int) (v90 : Int) (v91 : Bool) (v92 : Int) => l3 k v25 v27 R_l0 (l1 k g0 v23 v24 v25 v26 v27 v30 v31 v32 R_l0 j) k v74 v75 v76 v77 v78 v79 v80 v81 v82 v83 v84 v85 v86 v87 v88 v89 v90 v91 v92) := by funext v74 v75 v76 v77 v78 v79 v80 v81 v82 v83 v84 v85 v86 v87 v88 v89 v90 v91 v92; exact l3_eq k v25 v27 g0 v23 v24 v26 v30 v31 v32 RR_l0 R_l0 hR_l0 (la k [] [.r, .r, .r, .r, .r, .r, .l, .r, .b] j) (l1 k g0 v23 v24 v25 v26 v27 v30 v31 v32 R_l0 j) (fun v40 => ih v40) k v74 v75 v76 v77 v78 v79 v80 v81 v82 v83 v84 v85 v86 v87 v88 v89 v90 v91 v92
  have r0 : (fun (v23' : Int) (v24' : Int) (v25' : Int) (v26' : Int) (v27' : List TY6) (v28' : Int) (v29' : Bool) (v30' : List Int) (v31' : List TY5) (v32' : Int) => zl0 RR_l0 g0 v23' v24' v25' v26' v27' v28' v29' v30' v31' v32') = R_l0 := by funext v23' v24' v25' v26' v27' v28' v29' v30' v31' v32'; exact hR_l0 v23' v24' v25' v26' v27' v28' v29' v30' v31' v32'
  have h : zl1 (la k [] [.r, .r, .r, .r, .r, .r, .l, .r, .b] (j + 1)) g0 v23 v24 v25 v26 v27 v30 v31 v32 v40 = l1_b k g0 v23 v24 v25 v26 v27 v30 v31 v32 ((fun (v23' : Int) (v24' : Int) (v25' : Int) (v26' : Int) (v27' : List TY6) (v28' : Int) (v29' : Bool) (v30' : List Int) (v31' : List TY5) (v32' : Int) => zl0 RR_l0 g0 v23' v24' v25' v26' v27' v28' v29' v30' v31' v32')) ((fun (v40' : Int) => zl1 (la k [] [.r, .r, .r, .r, .r, .r, .l, .r, .b] j) g0 v23 v24 v25 v26 v27 v30 v31 v32 v40')) ((fun (r42 : TY21 × TY20 × TY4) (v47 : Bool) (v48 : Int) (v49 : List Int) (v50 : List TY5) (v51 : List TY9) (v52 : Int) (v53 : Int) (v54 : Int) (v55 : Int) (v56 : Int) (v57 : Bool) (v58 : Int) (v59 : Bool) (v60 : Int) (v61 : Bool) (v62 : Int) (v63 : Int) (v64 : Bool) (v65 : Int) => zl2 (la k [] [.r, .r, .r, .r, .r, .r, .r, .r, .r, .l, .r, .b] k) v25 v27 r42 v47 v48 v49 v50 v51 v52 v53 v54 v55 v56 v57 v58 v59 v60 v61 v62 v63 v64 v65)) ((fun (v74 : Bool) (v75 : Int) (v76 : List Int) (v77 : List TY5) (v78 : List TY9) (v79 : Int) (v80 : Int) (v81 : Int) (v82 : Int) (v83 : Int) (v84 : Bool) (v85 : Int) (v86 : Bool) (v87 : Int) (v88 : Bool) (v89 : Int) (v90 : Int) (v91 : Bool) (v92 : Int) => zl3 (la k [] [.r, .r, .r, .r, .r, .r, .r, .r, .r, .l, .r, .b] k) v25 v27 v74 v75 v76 v77 v78 v79 v80 v81 v82 v83 v84 v85 v86 v87 v88 v89 v90 v91 v92)) v40 := by kernel_rfl
  exact h.trans (by rw [rs, r0, e0, e1]; rfl)
noncomputable def l0_b (k : Nat) (g0 : TY6 × (Int × Bool) × (Int × Bool) × (Int × Bool) × Int × Int × Bool) (R_l0 : Int → Int → Int → Int → TY21 → Int → Bool → (List Int) → TY1 → Int → O (TY19 ⊕ TY23)) (D_l1 : Int → Int → Int → Int → TY21 → (List Int) → TY1 → Int → Int → O (TY19 ⊕ TY23)) (v23 : Int) (v24 : Int) (v25 : Int) (v26 : Int) (v27 : List TY6) (v28 : Int) (v29 : Bool) (v30 : List Int) (v31 : List TY5) (v32 : Int) : O (TY19 ⊕ TY23) :=
  O.cond (decide ((bAnd .i64 v26 (1 : Int)) ≠ (0 : Int))) (
   O.cond (!(decide ((List.length v27 : Int) < (min (64 : Int) (IntKind.i64.wrap (g0.1.2.1 - g0.2.2.2.2.2.1)))))) (
    .ok (.inl (g0, (v30, v32, v31)))) (
    O.bind (F_spot_Next.S k (v28, v29) (1 : Int) g0.1.2.1) fun r36 =>
    O.bind (F_gmem_Memory_Read.S k (IntKind.i64.wrap (g0.1.1 + (IntKind.i64.wrap ((16 : Int) * r36.1.1)))) (16 : Int) (v30, v32, v31)) fun r37 =>
    O.cond (!(decide (r37.1.2 = (0 : Int)))) (
     .ok (.inl (g0, r37.2))) (
     O.bind (F_desc_Parse.S k r37.1.1) fun r38 =>
     O.chk (decide (List.length v27 + List.length [r38.1] ≤ 1073741824)) (
      R_l0 r38.1.1 r38.1.2.1 r38.1.2.2.1 r38.1.2.2.2 (v27 ++ [r38.1]) r36.1.1 r36.1.2 r37.2.1 r37.2.2.2 r37.2.2.1)))) (
   D_l1 v23 v24 v25 v26 v27 v30 v31 v32 (0 : Int))
noncomputable def l0 (k : Nat) (g0 : TY6 × (Int × Bool) × (Int × Bool) × (Int × Bool) × Int × Int × Bool) : Nat → Int → Int → Int → Int → TY21 → Int → Bool → (List Int) → TY1 → Int → O (TY19 ⊕ TY23)
 | 0, _, _, _, _, _, _, _, _, _, _ => .no
 | j + 1, v23, v24, v25, v26, v27, v28, v29, v30, v31, v32 => l0_b k g0 (l0 k g0 j) ((fun (v23 : Int) (v24 : Int) (v25 : Int) (v26 : Int) (v27 : List TY6) (v30 : List Int) (v31 : List TY5) (v32 : Int) (v40 : Int) => l1 k g0 v23 v24 v25 v26 v27 v30 v31 v32 (l0 k g0 j) k v40)) v23 v24 v25 v26 v27 v28 v29 v30 v31 v32
theorem l0_eq (k : Nat) (g0 : TY6 × (Int × Bool) × (Int × Bool) × (Int × Bool) × Int × Int × Bool) : ∀ (j : Nat) (v23 : Int) (v24 : Int) (v25 : Int) (v26 : Int) (v27 : List TY6) (v28 : Int) (v29 : Bool) (v30 : List Int) (v31 : List TY5) (v32 : Int), zl0 (la k [] [.r, .r, .r, .r, .l, .b] j) g0 v23 v24 v25 v26 v27 v28 v29 v30 v31 v32 = l0 k g0 j v23 v24 v25 v26 v27 v28 v29 v30 v31 v32 := by
 intro j
 induction j with
 | zero => intro v23 v24 v25 v26 v27 v28 v29 v30 v31 v32; rfl
 | succ j ih =>
  intro v23 v24 v25 v26 v27 v28 v29 v30 v31 v32
  have rs : (fun (v23' : Int) (v24' : Int) (v25' : Int) (v26' : Int) (v27' : List TY6) (v28' : Int) (v29' : Bool) (v30' : List Int) (v31' : List TY5) (v32' : Int) => zl0 (la k [] [.r, .r, .r, .r, .l, .b] j) g0 v23' v24' v25' v26' v27' v28' v29' v30' v31' v32') = l0 k g0 j := by funext v23' v24' v25' v26' v27' v28' v29' v30' v31' v32'; exact ih v23' v24' v25' v26' v27' v28' v29' v30' v31' v32'
  have e0 : (fun (v23 : Int) (v24 : Int) (v25 : Int) (v26 : Int) (v27 : List TY6) (v30 : List Int) (v31 : List TY5) (v32 : Int) (v40 : Int) => zl1 (la k [] [.r, .r, .r, .r, .r, .r, .l, .r, .b] k) g0 v23 v24 v25 v26 v27 v30 v31 v32 v40) = (fun (v23 : Int) (v24 : Int) (v25 : Int) (v26 : Int) (v27 : List TY6) (v30 : List Int) (v31 : List TY5) (v32 : Int) (v40 : Int) => l1 k g0 v23 v24 v25 v26 v27 v30 v31 v32 (l0 k g0 j) k v40) := by funext v23 v24 v25 v26 v27 v30 v31 v32 v40; exact l1_eq k g0 v23 v24 v25 v26 v27 v30 v31 v32 (la k [] [.r, .r, .r, .r, .l, .b] j) (l0 k g0 j) (fun v23 v24 v25 v26 v27 v28 v29 v30 v31 v32 => ih v23 v24 v25 v26 v27 v28 v29 v30 v31 v32) k v40
  have h : zl0 (la k [] [.r, .r, .r, .r, .l, .b] (j + 1)) g0 v23 v24 v25 v26 v27 v28 v29 v30 v31 v32 = l0_b k g0 ((fun (v23' : Int) (v24' : Int) (v25' : Int) (v26' : Int) (v27' : List TY6) (v28' : Int) (v29' : Bool) (v30' : List Int) (v31' : List TY5) (v32' : Int) => zl0 (la k [] [.r, .r, .r, .r, .l, .b] j) g0 v23' v24' v25' v26' v27' v28' v29' v30' v31' v32')) ((fun (v23 : Int) (v24 : Int) (v25 : Int) (v26 : Int) (v27 : List TY6) (v30 : List Int) (v31 : List TY5) (v32 : Int) (v40 : Int) => zl1 (la k [] [.r, .r, .r, .r, .r, .r, .l, .r, .b] k) g0 v23 v24 v25 v26 v27 v30 v31 v32 v40)) v23 v24 v25 v26 v27 v28 v29 v30 v31 v32 := by kernel_rfl
  exact h.trans (by rw [rs, e0]; rfl)
noncomputable def top (k : Nat) (a1 : Int × Int × Int × Int) (g0 : TY6 × (Int × Bool) × (Int × Bool) × (Int × Bool) × Int × Int × Bool) (g1 : List Int × Int × TY1) (D_l0 : Int → Int → Int → Int → TY21 → Int → Bool → (List Int) → TY1 → Int → O (TY19 ⊕ TY23)) : O (TY19 ⊕ TY23) :=
 D_l0 a1.1 a1.2.1 a1.2.2.1 a1.2.2.2 [a1] g0.2.1.1 g0.2.1.2 g1.1 g1.2.2 g1.2.1
noncomputable def S (k : Nat) (a1 : Int × Int × Int × Int) (g0 : TY6 × (Int × Bool) × (Int × Bool) × (Int × Bool) × Int × Int × Bool) (g1 : List Int × Int × TY1) : O (TY19 ⊕ TY23) := top k a1 g0 g1 ((fun (v23 : Int) (v24 : Int) (v25 : Int) (v26 : Int) (v27 : List TY6) (v28 : Int) (v29 : Bool) (v30 : List Int) (v31 : List TY5) (v32 : Int) => l0 k g0 k v23 v24 v25 v26 v27 v28 v29 v30 v31 v32))
theorem eq (k : Nat) (a1 : Int × Int × Int × Int) (g0 : TY6 × (Int × Bool) × (Int × Bool) × (Int × Bool) × Int × Int × Bool) (g1 : List Int × Int × TY1) : evFn (T := TY19 ⊕ TY23) tab (calOf (cal k)) Go.Proofs.Try.f57 nt k 2 [.ptr 0 0, .agg [.int .u64 a1.1, .int .u32 a1.2.1, .int .i64 a1.2.2.1, .int .i64 a1.2.2.2]] [] ⟨4, false, [(1, .cells 92 [.osl 2, .int .i64 g1.2.1, .osl 3]), (3, .row true 121 [.int .i64, .int .i64, .int .i64, .bool] g1.2.2), (2, .row true 5 [.int .u8] g1.1), (0, .cells 126 [.ptr 1 0, .int .i64 g0.1.1, .int .i64 g0.1.2.1, .int .i64 g0.1.2.2.1, .int .i64 g0.1.2.2.2, .int .i64 g0.2.1.1, .bool g0.2.1.2, .int .i64 g0.2.2.1.1, .bool g0.2.2.1.2, .int .i64 g0.2.2.2.1.1, .bool g0.2.2.2.1.2, .int .i64 g0.2.2.2.2.1, .int .i64 g0.2.2.2.2.2.1, .bool g0.2.2.2.2.2.2])]⟩ (fun v st => outK ct.ob (γ0 ct) ct.outs v st .ok) (fun e st => outP ct.ob (γ0 ct) ct.outs e st .ok) = S k a1 g0 g1 := by
 have e0 : (fun (v23 : Int) (v24 : Int) (v25 : Int) (v26 : Int) (v27 : List TY6) (v28 : Int) (v29 : Bool) (v30 : List Int) (v31 : List TY5) (v32 : Int) => zl0 (la k [] [.r, .r, .r, .r, .l, .b] k) g0 v23 v24 v25 v26 v27 v28 v29 v30 v31 v32) = (fun (v23 : Int) (v24 : Int) (v25 : Int) (v26 : Int) (v27 : List TY6) (v28 : Int) (v29 : Bool) (v30 : List Int) (v31 : List TY5) (v32 : Int) => l0 k g0 k v23 v24 v25 v26 v27 v28 v29 v30 v31 v32) := by funext v23 v24 v25 v26 v27 v28 v29 v30 v31 v32; exact l0_eq k g0 k v23 v24 v25 v26 v27 v28 v29 v30 v31 v32
 have h : evFn (T := TY19 ⊕ TY23) tab (calOf (cal k)) Go.Proofs.Try.f57 nt k 2 [.ptr 0 0, .agg [.int .u64 a1.1, .int .u32 a1.2.1, .int .i64 a1.2.2.1, .int .i64 a1.2.2.2]] [] ⟨4, false, [(1, .cells 92 [.osl 2, .int .i64 g1.2.1, .osl 3]), (3, .row true 121 [.int .i64, .int .i64, .int .i64, .bool] g1.2.2), (2, .row true 5 [.int .u8] g1.1), (0, .cells 126 [.ptr 1 0, .int .i64 g0.1.1, .int .i64 g0.1.2.1, .int .i64 g0.1.2.2.1, .int .i64 g0.1.2.2.2, .int .i64 g0.2.1.1, .bool g0.2.1.2, .int .i64 g0.2.2.1.1, .bool g0.2.2.1.2, .int .i64 g0.2.2.2.1.1, .bool g0.2.2.2.1.2, .int .i64 g0.2.2.2.2.1, .int .i64 g0.2.2.2.2.2.1, .bool g0.2.2.2.2.2.2])]⟩ (fun v st => outK ct.ob (γ0 ct) ct.outs v st .ok) (fun e st => outP ct.ob (γ0 ct) ct.outs e st .ok) = top k a1 g0 g1 ((fun (v23 : Int) (v24 : Int) (v25 : Int) (v26 : Int) (v27 : List TY6) (v28 : Int) (v29 : Bool) (v30 : List Int) (v31 : List TY5) (v32 : Int) => zl0 (la k [] [.r, .r, .r, .r, .l, .b] k) g0 v23 v24 v25 v26 v27 v28 v29 v30 v31 v32)) := by kernel_rfl
 exact h.trans (by rw [e0]; rfl)
theorem ok (k : Nat) : FnOkC Try.prog 57 ct (fun (x : Int × Int × Int × Int) (g : TY20 × TY4) => S k x g.1 g.2) :=
 FnOkC.of_ev (C := ct) tab_ok rfl (calOf_ok (cal_ok k)) mixed Try.func57 nt k (fun _ _ => rfl) (fun (x : Int × Int × Int × Int) (g : TY20 × TY4) => eq k x g.1 g.2)
theorem hd {T : Type} (k : Nat) : HdOk Try.prog 57 (pureC (T := T) ct [.arg 0 0, .fld 0 0] (fun (x : Int × Int × Int × Int) (g : TY20 × TY4) => S k x g.1 g.2)) :=
 pureC_ok rfl [.arg 0 0, .fld 0 0] (ok k) Try.call57
end F_devq_Queue_chain
namespace F_devq_Queue_Next
noncomputable def ct : Ct := ⟨.some (.pins [.ref 0]), [(126, .pin (.ref 1) (.cons (.agg (.cons (.leaf (.int .i64)) (.cons (.leaf (.int .i64)) (.cons (.leaf (.int .i64)) (.one (.leaf (.int .i64)) []))))) (.cons (.agg (.cons (.leaf (.int .i64)) (.one (.leaf .bool) []))) (.cons (.agg (.cons (.leaf (.int .i64)) (.one (.leaf .bool) []))) (.cons (.agg (.cons (.leaf (.int .i64)) (.one (.leaf .bool) []))) (.cons (.leaf (.int .i64)) (.cons (.leaf (.int .i64)) (.one (.leaf .bool) [])))))))), (92, .cons (.row true 5 [.int .u8]) (.cons (.leaf (.int .i64)) (.one (.row true 121 [.int .i64, .int .i64, .int .i64, .bool]) [])))], [⟨.tup (.cons (.agg (.cons (.leaf (.int .i64)) (.cons (.leaf (.int .i64)) (.one (.row true 56 [.int .i64, .int .i64, .bool]) [])))) (.cons (.leaf .bool) (.one (.leaf (.int .i64)) []))), [], []⟩]⟩
noncomputable def nt : Notes := ⟨[], [(7, ⟨[1, 2, 3, 4, 5], []⟩)], [(3, [0, 1, 2, 3, 4, 5, 6, 7, 8, 9]), (6, [0, 1, 2, 3, 4, 5, 6, 7, 8, 9, 10, 11, 12, 13, 14, 15]), (7, [0, 1, 2, 3, 4, 5, 6, 7, 8]), (10, [0, 1, 2, 3, 4, 5, 6, 7, 8, 9, 10, 11, 12, 13, 14, 15, 16, 17, 18]), (11, [0, 1, 2, 3, 4, 5, 6, 7, 8, 9])], [], []⟩
noncomputable def cal0 {T : Type} (k : Nat) : List (FuncId × Hd T) := [(41, pureC F_spot_Next.ct [] (fun (x : (Int × Bool) × Int × Int) (_ : Unit) => F_spot_Next.S k x.1 x.2.1 x.2.2)), (42, pureC F_gmem_Memory_Read.ct [.arg 0 0] (fun (x : Int × Int) (g : List Int × Int × TY1) => F_gmem_Memory_Read.S k x.1 x.2 g)), (43, pureC F_desc_Parse.ct [] (fun (x : ByteArray) (_ : Unit) => F_desc_Parse.S k x)), (56, pureC F_desc_Avail.ct [] (fun (x : Int × Bool) (_ : Unit) => F_desc_Avail.S k x.1 x.2)), (57, pureC F_devq_Queue_chain.ct [.arg 0 0, .fld 0 0] (fun (x : Int × Int × Int × Int) (g : TY20 × TY4) => F_devq_Queue_chain.S k x g.1 g.2))]
theorem cal0_ok {T : Type} (k : Nat) : HdsOk Try.prog (cal0 (T := T) k) := ⟨F_spot_Next.hd k, F_gmem_Memory_Read.hd k, F_desc_Parse.hd k, F_desc_Avail.hd k, F_devq_Queue_chain.hd k, trivial⟩
noncomputable def nt79 : Notes := ⟨[], [], [], [], []⟩
noncomputable def cal1 {T : Type} (k : Nat) : List (FuncId × Hd T) := (79, inlH tab (calOf (cal0 k)) Go.Proofs.Try.f79 nt79 k) :: cal0 k
theorem cal1_ok {T : Type} (k : Nat) : HdsOk Try.prog (cal1 (T := T) k) := ⟨inlH_ok tab_ok (calOf_ok (cal0_ok k)) mixed Try.func79 nt79 k Try.call79, cal0_ok k⟩
noncomputable def nt55 : Notes := ⟨[], [], [], [], []⟩
noncomputable def cal2 {T : Type} (k : Nat) : List (FuncId × Hd T) := (55, inlH tab (calOf (cal1 k)) Go.Proofs.Try.f55 nt55 k) :: cal1 k
theorem cal2_ok {T : Type} (k : Nat) : HdsOk Try.prog (cal2 (T := T) k) := ⟨inlH_ok tab_ok (calOf_ok (cal1_ok k)) mixed Try.func55 nt55 k Try.call55, cal1_ok k⟩
noncomputable def cal {T : Type} (k : Nat) : List (FuncId × Hd T) := cal2 k
theorem cal_ok {T : Type} (k : Nat) : HdsOk Try.prog (cal (T := T) k) := cal2_ok k
noncomputable def nt54 : Notes := ⟨[], [], [], [], []⟩
noncomputable def D : Dfs := [(54, Go.Proofs.Try.f54, nt54)]
theorem D_ok : DfsOk Try.prog D := ⟨⟨Try.func54, Try.call54⟩, trivial⟩
noncomputable abbrev ca (k : Nat) (Rs : List (Fr → St → O TY26)) (ds : List Dir) : Fr → St → O TY26 := codeAt tab (calOf (cal k)) Go.Proofs.Try.f26.ntmps nt k Rs ds (bodyOf Go.Proofs.Try.f26) (finD tab (calOf (cal k)) D k Go.Proofs.Try.f26.results.toList (fun v st => outK ct.ob (γ0 ct) ct.outs v st .ok) (fun e st => outP ct.ob (γ0 ct) ct.outs e st .ok))
noncomputable abbrev zj4 {α : Type} (X : Fr → St → α) (g0 : TY6 × (Int × Bool) × (Int × Bool) × (Int × Bool) × Int × Int × Bool) (v5 : Int) (v6 : Int) (v7 : Int) (v8 : Int) (v9 : List Int) (v10 : List TY5) (v11 : Int) : α := X ⟨[(1, .ptr 2 0), (2, .ptr 3 0), (3, .ptr 4 0), (4, .ptr 5 0), (5, .ptr 6 0)], [.clo 54 [.ptr 2 0, .ptr 3 0, .ptr 4 0, .ptr 5 0]], 2, []⟩ ⟨9, true, [(2, .cells 66 [.ptr 0 0]), (3, .cells 74 [.int .i64 (0 : Int), .int .i64 (0 : Int), .nilsl]), (4, .cells 4 [.bool false]), (5, .cells 44 [.int .i64 (0 : Int)]), (6, .cells 110 [.int .u64 v5, .int .u32 v6, .int .i64 v7, .int .i64 v8]), (7, .row true 5 [.int .u8] v9), (8, .row true 121 [.int .i64, .int .i64, .int .i64, .bool] v10), (0, .cells 126 [.ptr 1 0, .int .i64 g0.1.1, .int .i64 g0.1.2.1, .int .i64 g0.1.2.2.1, .int .i64 g0.1.2.2.2, .int .i64 g0.2.1.1, .bool g0.2.1.2, .int .i64 g0.2.2.1.1, .bool g0.2.2.1.2, .int .i64 g0.2.2.2.1.1, .bool g0.2.2.2.1.2, .int .i64 g0.2.2.2.2.1, .int .i64 g0.2.2.2.2.2.1, .bool g0.2.2.2.2.2.2]), (1, .cells 92 [.osl 7, .int .i64 v11, .osl 8])]⟩
noncomputable def j4_b (k : Nat) (g0 : TY6 × (Int × Bool) × (Int × Bool) × (Int × Bool) × Int × Int × Bool) (v5 : Int) (v6 : Int) (v7 : Int) (v8 : Int) (v9 : List Int) (v10 : List TY5) (v11 : Int) : O TY26 :=
  O.bind (F_desc_Avail.S k v8 g0.2.1.2) fun r14 =>
  O.cond (!r14) (
   .ok ((((0 : Int), (0 : Int), []), false, (0 : Int)), (g0, (v9, v11, v10)))) (
   O.sum (F_devq_Queue_chain.S k (v5, v6, v7, v8) g0 (v9, v11, v10)) (fun e15 =>
    .ok ((((0 : Int), (0 : Int), []), false, (141 : Int)), ((e15.1.1, e15.1.2.1, e15.1.2.2.1, e15.1.2.2.2.1, e15.1.2.2.2.2.1, e15.1.2.2.2.2.2.1, true), e15.2))) fun r16 =>
   O.bind (F_spot_Next.S k r16.2.1.2.1 r16.1.2.1 r16.2.1.1.2.1) fun r17 =>
   .ok ((r16.1, true, (0 : Int)), ((r16.2.1.1, r17.1, r16.2.1.2.2.1, r16.2.1.2.2.2.1, r16.2.1.2.2.2.2.1, (IntKind.i64.wrap (r16.2.1.2.2.2.2.2.1 + r16.1.2.1)), r16.2.1.2.2.2.2.2.2), r16.2.2)))
noncomputable def j4 (k : Nat) (g0 : TY6 × (Int × Bool) × (Int × Bool) × (Int × Bool) × Int × Int × Bool) (v5 : Int) (v6 : Int) (v7 : Int) (v8 : Int) (v9 : List Int) (v10 : List TY5) (v11 : Int) : O TY26 := j4_b k g0 v5 v6 v7 v8 v9 v10 v11
theorem j4_eq (k : Nat) (g0 : TY6 × (Int × Bool) × (Int × Bool) × (Int × Bool) × Int × Int × Bool) (v5 : Int) (v6 : Int) (v7 : Int) (v8 : Int) (v9 : List Int) (v10 : List TY5) (v11 : Int) : zj4 (ca k [] [.r, .r, .r, .r, .r]) g0 v5 v6 v7 v8 v9 v10 v11 = j4 k g0 v5 v6 v7 v8 v9 v10 v11 := by
  have h : zj4 (ca k [] [.r, .r, .r, .r, .r]) g0 v5 v6 v7 v8 v9 v10 v11 = j4_b k g0 v5 v6 v7 v8 v9 v10 v11 := (codeAt_eq _ _ _ _ _ _ _ _ _ _ _).trans (by show _ = _; kernel_rfl)
  exact h.trans (by rfl)
noncomputable def top (k : Nat) (g0 : TY6 × (Int × Bool) × (Int × Bool) × (Int × Bool) × Int × Int × Bool) (g1 : List Int × Int × TY1) (D_j4 : Int → Int → Int → Int → (List Int) → TY1 → Int → O TY26) : O TY26 :=
  O.cond g0.2.2.2.2.2.2 (
   .ok ((((0 : Int), (0 : Int), []), false, (141 : Int)), (g0, g1))) (
   O.cond (decide (g0.2.2.2.2.2.1 ≥ g0.1.2.1)) (
    .ok ((((0 : Int), (0 : Int), []), false, (0 : Int)), (g0, g1))) (
    O.twice (
     O.bind (F_gmem_Memory_Read.S k (IntKind.i64.wrap (g0.1.1 + (IntKind.i64.wrap ((16 : Int) * g0.2.1.1)))) (16 : Int) g1) fun r12 =>
     O.cond (!(decide (r12.1.2 = (0 : Int)))) (
      .ok ((((0 : Int), (0 : Int), []), false, (141 : Int)), ((g0.1, g0.2.1, g0.2.2.1, g0.2.2.2.1, g0.2.2.2.2.1, g0.2.2.2.2.2.1, true), r12.2))) (
      O.bind (F_desc_Parse.S k r12.1.1) fun r13 =>
      D_j4 r13.1.1 r13.1.2.1 r13.1.2.2.1 r13.1.2.2.2 r12.2.1 r12.2.2.2 r12.2.2.1))))
noncomputable def S (k : Nat) (g0 : TY6 × (Int × Bool) × (Int × Bool) × (Int × Bool) × Int × Int × Bool) (g1 : List Int × Int × TY1) : O TY26 := top k g0 g1 ((fun (v5 : Int) (v6 : Int) (v7 : Int) (v8 : Int) (v9 : List Int) (v10 : List TY5) (v11 : Int) => j4 k g0 v5 v6 v7 v8 v9 v10 v11))
theorem eq (k : Nat) (g0 : TY6 × (Int × Bool) × (Int × Bool) × (Int × Bool) × Int × Int × Bool) (g1 : List Int × Int × TY1) : evFnD (T := TY27 × TY20 × TY4) tab (calOf (cal k)) D Go.Proofs.Try.f26 nt k 2 [.ptr 0 0] ⟨4, false, [(1, .cells 92 [.osl 2, .int .i64 g1.2.1, .osl 3]), (3, .row true 121 [.int .i64, .int .i64, .int .i64, .bool] g1.2.2), (2, .row true 5 [.int .u8] g1.1), (0, .cells 126 [.ptr 1 0, .int .i64 g0.1.1, .int .i64 g0.1.2.1, .int .i64 g0.1.2.2.1, .int .i64 g0.1.2.2.2, .int .i64 g0.2.1.1, .bool g0.2.1.2, .int .i64 g0.2.2.1.1, .bool g0.2.2.1.2, .int .i64 g0.2.2.2.1.1, .bool g0.2.2.2.1.2, .int .i64 g0.2.2.2.2.1, .int .i64 g0.2.2.2.2.2.1, .bool g0.2.2.2.2.2.2])]⟩ (fun v st => outK ct.ob (γ0 ct) ct.outs v st .ok) (fun e st => outP ct.ob (γ0 ct) ct.outs e st .ok) = S k g0 g1 := by
 have e0 : (fun (v5 : Int) (v6 : Int) (v7 : Int) (v8 : Int) (v9 : List Int) (v10 : List TY5) (v11 : Int) => zj4 (ca k [] [.r, .r, .r, .r, .r]) g0 v5 v6 v7 v8 v9 v10 v11) = (fun (v5 : Int) (v6 : Int) (v7 : Int) (v8 : Int) (v9 : List Int) (v10 : List TY5) (v11 : Int) => j4 k g0 v5 v6 v7 v8 v9 v10 v11) := by funext v5 v6 v7 v8 v9 v10 v11; exact j4_eq k g0 v5 v6 v7 v8 v9 v10 v11
 have h : evFnD (T := TY27 × TY20 × TY4) tab (calOf (cal k)) D Go.Proofs.Try.f26 nt k 2 [.ptr 0 0] ⟨4, false, [(1, .cells 92 [.osl 2, .int .i64 g1.2.1, .osl 3]), (3, .row true 121 [.int .i64, .int .i64, .int .i64, .bool] g1.2.2), (2, .row true 5 [.int .u8] g1.1), (0, .cells 126 [.ptr 1 0, .int .i64 g0.1.1, .int .i64 g0.1.2.1, .int .i64 g0.1.2.2.1, .int .i64 g0.1.2.2.2, .int .i64 g0.2.1.1, .bool g0.2.1.2, .int .i64 g0.2.2.1.1, .bool g0.2.2.1.2, .int .i64 g0.2.2.2.1.1, .bool g0.2.2.2.1.2, .int .i64 g0.2.2.2.2.1, .int .i64 g0.2.2.2.2.2.1, .bool g0.2.2.2.2.2.2])]⟩ (fun v st => outK ct.ob (γ0 ct) ct.outs v st .ok) (fun e st => outP ct.ob (γ0 ct) ct.outs e st .ok) = top k g0 g1 ((fun (v5 : Int) (v6 : Int) (v7 : Int) (v8 : Int) (v9 : List Int) (v10 : List TY5) (v11 : Int) => zj4 (ca k [] [.r, .r, .r, .r, .r]) g0 v5 v6 v7 v8 v9 v10 v11)) := by kernel_rfl
 exact h.trans (by rw [e0]; rfl)
theorem ok (k : Nat) : FnOkC Try.prog 26 ct (fun (_ : Unit) (g : TY20 × TY4) => S k g.1 g.2) :=
 FnOkC.of_evD (C := ct) tab_ok rfl (calOf_ok (cal_ok k)) mixed D_ok Try.func26 nt k (fun _ _ => rfl) (fun (_ : Unit) (g : TY20 × TY4) => eq k g.1 g.2)
theorem hd {T : Type} (k : Nat) : HdOk Try.prog 26 (pureC (T := T) ct [.arg 0 0, .fld 0 0] (fun (_ : Unit) (g : TY20 × TY4) => S k g.1 g.2)) :=
 pureC_ok rfl [.arg 0 0, .fld 0 0] (ok k) Try.call26
end F_devq_Queue_Next
namespace F_aqueductref14_Same
noncomputable def ct : Ct := ⟨.some (.cons (.agg (.cons (.leaf (.int .i64)) (.cons (.leaf (.int .i64)) (.one (.row false 56 [.int .i64, .int .i64, .bool]) [])))) (.one (.agg (.cons (.leaf (.int .i64)) (.cons (.leaf (.int .i64)) (.one (.row false 56 [.int .i64, .int .i64, .bool]) [])))) [])), [], [⟨.val (.leaf .bool), [], []⟩]⟩
noncomputable def nt : Notes := ⟨[(4, ⟨[2, 3, 5], []⟩)], [], [(6, [0, 1, 2, 3, 4, 5, 6, 7, 8, 9, 10])], [], []⟩
noncomputable def cal0 {T : Type} (k : Nat) : List (FuncId × Hd T) := []
theorem cal0_ok {T : Type} (k : Nat) : HdsOk Try.prog (cal0 (T := T) k) := trivial
noncomputable def cal {T : Type} (k : Nat) : List (FuncId × Hd T) := cal0 k
theorem cal_ok {T : Type} (k : Nat) : HdsOk Try.prog (cal (T := T) k) := cal0_ok k
noncomputable abbrev la (k : Nat) (Rs : List (Fr → St → O (Bool))) (ds : List Dir) (j : Nat) : Fr → St → O (Bool) := loopAt tab (calOf (cal k)) Go.Proofs.Try.f27.ntmps nt k Rs ds (bodyOf Go.Proofs.Try.f27) (finK tab Go.Proofs.Try.f27.results.toList (fun v st => outK ct.ob (γ0 ct) ct.outs v st .ok) (fun e st => outP ct.ob (γ0 ct) ct.outs e st .ok)) j
noncomputable abbrev zl0 {α : Type} (X : Fr → St → α) (a0 : Int × Int × TY25) (a1 : Int × Int × TY25) (v1 : Int) : α := X ⟨[(2, .ptr 0 0), (3, .ptr 1 0), (5, .int .i64 v1)], [], 0, []⟩ ⟨4, true, [(0, .cells 74 [.int .i64 a0.1, .int .i64 a0.2.1, .osl 2]), (1, .cells 74 [.int .i64 a1.1, .int .i64 a1.2.1, .osl 3]), (2, .row false 56 [.int .i64, .int .i64, .bool] a0.2.2), (3, .row false 56 [.int .i64, .int .i64, .bool] a1.2.2)]⟩
noncomputable def l0_b (k : Nat) (a0 : Int × Int × TY25) (a1 : Int × Int × TY25) (R_l0 : Int → O Bool) (v1 : Int) : O Bool :=
  O.cond (decide (v1 < (List.length a0.2.2 : Int))) (
   O.chk (decide (0 ≤ v1 ∧ v1 < (List.length a0.2.2 : Int) ∧ (List.length a0.2.2 : Int) ≤ (List.length a0.2.2 : Int))) (
    O.chk (decide (0 ≤ v1 ∧ v1 < (List.length a0.2.2 : Int))) (
     O.chk (decide (0 ≤ v1 ∧ v1 < (List.length a1.2.2 : Int) ∧ (List.length a1.2.2 : Int) ≤ (List.length a1.2.2 : Int))) (
      O.chk (decide (0 ≤ v1 ∧ v1 < (List.length a1.2.2 : Int))) (
       O.cond (!(decide ((gt ((0 : Int), (0 : Int), false) a0.2.2 v1).1 = (gt ((0 : Int), (0 : Int), false) a1.2.2 v1).1) && (decide ((gt ((0 : Int), (0 : Int), false) a0.2.2 v1).2.1 = (gt ((0 : Int), (0 : Int), false) a1.2.2 v1).2.1) && (decide ((gt ((0 : Int), (0 : Int), false) a0.2.2 v1).2.2 = (gt ((0 : Int), (0 : Int), false) a1.2.2 v1).2.2) && true)))) (
        .ok false) (
        R_l0 (IntKind.i64.wrap (v1 + (1 : Int))))))))) (
   .ok true)
noncomputable def l0 (k : Nat) (a0 : Int × Int × TY25) (a1 : Int × Int × TY25) : Nat → Int → O Bool
 | 0, _ => .no
 | j + 1, v1 => l0_b k a0 a1 (l0 k a0 a1 j) v1
theorem l0_eq (k : Nat) (a0 : Int × Int × TY25) (a1 : Int × Int × TY25) : ∀ (j : Nat) (v1 : Int), zl0 (la k [] [.r, .r, .l, .r, .b] j) a0 a1 v1 = l0 k a0 a1 j v1 := by
 intro j
 induction j with
 | zero => intro v1; rfl
 | succ j ih =>
  intro v1
  have rs : (fun (v1' : Int) => zl0 (la k [] [.r, .r, .l, .r, .b] j) a0 a1 v1') = l0 k a0 a1 j := by funext v1'; exact ih v1'
  have h : zl0 (la k [] [.r, .r, .l, .r, .b] (j + 1)) a0 a1 v1 = l0_b k a0 a1 ((fun (v1' : Int) => zl0 (la k [] [.r, .r, .l, .r, .b] j) a0 a1 v1')) v1 := by kernel_rfl
  exact h.trans (by rw [rs]; rfl)
noncomputable def top (k : Nat) (a0 : Int × Int × TY25) (a1 : Int × Int × TY25) (D_l0 : Int → O Bool) : O Bool :=
  O.cond (decide (a0.1 ≠ a1.1)) (
   .ok false) (
   O.cond (decide (a0.2.1 ≠ a1.2.1)) (
    .ok false) (
    O.cond (decide ((List.length a0.2.2 : Int) ≠ (List.length a1.2.2 : Int))) (
     .ok false) (
     D_l0 (0 : Int))))
noncomputable def S (k : Nat) (a0 : Int × Int × TY25) (a1 : Int × Int × TY25) : O Bool := top k a0 a1 ((fun (v1 : Int) => l0 k a0 a1 k v1))
theorem eq (k : Nat) (a0 : Int × Int × TY25) (a1 : Int × Int × TY25) : evFn (T := Bool) tab (calOf (cal k)) Go.Proofs.Try.f27 nt k 0 [.agg [.int .i64 a0.1, .int .i64 a0.2.1, .osl 0], .agg [.int .i64 a1.1, .int .i64 a1.2.1, .osl 1]] [] ⟨2, false, [(1, .row false 56 [.int .i64, .int .i64, .bool] a1.2.2), (0, .row false 56 [.int .i64, .int .i64, .bool] a0.2.2)]⟩ (fun v st => outK ct.ob (γ0 ct) ct.outs v st .ok) (fun e st => outP ct.ob (γ0 ct) ct.outs e st .ok) = S k a0 a1 := by
 have e0 : (fun (v1 : Int) => zl0 (la k [] [.r, .r, .l, .r, .b] k) a0 a1 v1) = (fun (v1 : Int) => l0 k a0 a1 k v1) := by funext v1; exact l0_eq k a0 a1 k v1
 have h : evFn (T := Bool) tab (calOf (cal k)) Go.Proofs.Try.f27 nt k 0 [.agg [.int .i64 a0.1, .int .i64 a0.2.1, .osl 0], .agg [.int .i64 a1.1, .int .i64 a1.2.1, .osl 1]] [] ⟨2, false, [(1, .row false 56 [.int .i64, .int .i64, .bool] a1.2.2), (0, .row false 56 [.int .i64, .int .i64, .bool] a0.2.2)]⟩ (fun v st => outK ct.ob (γ0 ct) ct.outs v st .ok) (fun e st => outP ct.ob (γ0 ct) ct.outs e st .ok) = top k a0 a1 ((fun (v1 : Int) => zl0 (la k [] [.r, .r, .l, .r, .b] k) a0 a1 v1)) := by kernel_rfl
 exact h.trans (by rw [e0]; rfl)
theorem ok (k : Nat) : FnOkC Try.prog 27 ct (fun (x : TY24 × TY24) (_ : Unit) => S k x.1 x.2) :=
 FnOkC.of_ev (C := ct) tab_ok rfl (calOf_ok (cal_ok k)) mixed Try.func27 nt k (fun _ _ => rfl) (fun (x : TY24 × TY24) (_ : Unit) => eq k x.1 x.2)
theorem hd {T : Type} (k : Nat) : HdOk Try.prog 27 (pureC (T := T) ct [] (fun (x : TY24 × TY24) (_ : Unit) => S k x.1 x.2)) :=
 pureC_ok rfl [] (ok k) Try.call27
end F_aqueductref14_Same
namespace F_devq_Queue_Done
noncomputable def ct : Ct := ⟨.some (.pin (.ref 0) (.cons (.leaf (.int .i64)) (.cons (.leaf (.int .i64)) (.one (.leaf (.int .i64)) [])))), [(126, .pin (.ref 1) (.cons (.agg (.cons (.leaf (.int .i64)) (.cons (.leaf (.int .i64)) (.cons (.leaf (.int .i64)) (.one (.leaf (.int .i64)) []))))) (.cons (.agg (.cons (.leaf (.int .i64)) (.one (.leaf .bool) []))) (.cons (.agg (.cons (.leaf (.int .i64)) (.one (.leaf .bool) []))) (.cons (.agg (.cons (.leaf (.int .i64)) (.one (.leaf .bool) []))) (.cons (.leaf (.int .i64)) (.cons (.leaf (.int .i64)) (.one (.leaf .bool) [])))))))), (92, .cons (.row true 5 [.int .u8]) (.cons (.leaf (.int .i64)) (.one (.row true 121 [.int .i64, .int .i64, .int .i64, .bool]) [])))], [⟨.val (.leaf (.int .i64)), [], []⟩]⟩
noncomputable def nt : Notes := ⟨[], [(9, ⟨[0, 1, 2, 3, 9, 10], []⟩)], [(5, [0, 1, 2, 3, 4, 5, 6, 7, 8, 9, 10, 11, 12]), (11, [0, 1, 2, 3, 4, 5, 6, 7, 8, 9, 10, 11, 12, 13, 14]), (12, [0, 1, 2, 3, 4, 5, 6, 7, 8, 9, 10, 11, 12, 13, 14, 15, 16, 17]), (14, [0, 1, 2, 3, 4, 5, 6, 7, 8, 9, 10, 11, 12, 13, 14, 15, 16])], [], []⟩
noncomputable def cal0 {T : Type} (k : Nat) : List (FuncId × Hd T) := [(39, pureC F_desc_Mark.ct [] (fun (x : Int × Bool × Bool) (_ : Unit) => F_desc_Mark.S k x.1 x.2.1 x.2.2)), (40, pureC F_gmem_Memory_Store.ct [.arg 0 0] (fun (x : Int × Int × Int) (g : List Int × Int × TY1) => F_gmem_Memory_Store.S k x.1 x.2.1 x.2.2 g)), (41, pureC F_spot_Next.ct [] (fun (x : (Int × Bool) × Int × Int) (_ : Unit) => F_spot_Next.S k x.1 x.2.1 x.2.2))]
theorem cal0_ok {T : Type} (k : Nat) : HdsOk Try.prog (cal0 (T := T) k) := ⟨F_desc_Mark.hd k, F_gmem_Memory_Store.hd k, F_spot_Next.hd k, trivial⟩
noncomputable def cal {T : Type} (k : Nat) : List (FuncId × Hd T) := cal0 k
theorem cal_ok {T : Type} (k : Nat) : HdsOk Try.prog (cal (T := T) k) := cal0_ok k
noncomputable abbrev ca (k : Nat) (Rs : List (Fr → St → O TY28)) (ds : List Dir) : Fr → St → O TY28 := codeAt tab (calOf (cal k)) Go.Proofs.Try.f28.ntmps nt k Rs ds (bodyOf Go.Proofs.Try.f28) (finK tab Go.Proofs.Try.f28.results.toList (fun v st => outK ct.ob (γ0 ct) ct.outs v st .ok) (fun e st => outP ct.ob (γ0 ct) ct.outs e st .ok))
noncomputable abbrev zj4 {α : Type} (X : Fr → St → α) (a1 : Int) (a2 : Int) (a3 : Int) (g0 : TY6 × (Int × Bool) × (Int × Bool) × (Int × Bool) × Int × Int × Bool) (g1 : List Int × Int × TY1) (v1 : Int) : α := X ⟨[(0, .ptr 0 0), (1, .int .i64 a1), (2, .int .i64 a2), (3, .int .i64 a3), (9, .int .i64 (IntKind.i64.wrap (g0.1.1 + (IntKind.i64.wrap ((16 : Int) * g0.2.2.1.1))))), (10, .int .i64 v1)], [], 2, []⟩ ⟨4, true, [(2, .row true 5 [.int .u8] g1.1), (3, .row true 121 [.int .i64, .int .i64, .int .i64, .bool] g1.2.2), (0, .cells 126 [.ptr 1 0, .int .i64 g0.1.1, .int .i64 g0.1.2.1, .int .i64 g0.1.2.2.1, .int .i64 g0.1.2.2.2, .int .i64 g0.2.1.1, .bool g0.2.1.2, .int .i64 g0.2.2.1.1, .bool g0.2.2.1.2, .int .i64 g0.2.2.2.1.1, .bool g0.2.2.2.1.2, .int .i64 g0.2.2.2.2.1, .int .i64 g0.2.2.2.2.2.1, .bool g0.2.2.2.2.2.2]), (1, .cells 92 [.osl 2, .int .i64 g1.2.1, .osl 3])]⟩
noncomputable def j4_b (k : Nat) (a1 : Int) (a2 : Int) (a3 : Int) (g0 : TY6 × (Int × Bool) × (Int × Bool) × (Int × Bool) × Int × Int × Bool) (g1 : List Int × Int × TY1) (v1 : Int) : O TY28 :=
 O.bind (F_gmem_Memory_Store.S k (IntKind.i64.wrap ((IntKind.i64.wrap (g0.1.1 + (IntKind.i64.wrap ((16 : Int) * g0.2.2.1.1)))) + (8 : Int))) (4 : Int) (IntKind.u64.wrap a3) g1) fun r3 =>
 O.bind (F_gmem_Memory_Store.S k (IntKind.i64.wrap ((IntKind.i64.wrap (g0.1.1 + (IntKind.i64.wrap ((16 : Int) * g0.2.2.1.1)))) + (12 : Int))) (2 : Int) (IntKind.u64.wrap a1) r3.2) fun r5 =>
 O.bind (F_desc_Mark.S k v1 g0.2.2.1.2 true) fun r8 =>
 O.bind (F_gmem_Memory_Store.S k (IntKind.i64.wrap ((IntKind.i64.wrap (g0.1.1 + (IntKind.i64.wrap ((16 : Int) * g0.2.2.1.1)))) + (14 : Int))) (2 : Int) (IntKind.u64.wrap r8) r5.2) fun r9 =>
 O.bind (F_spot_Next.S k g0.2.2.1 a2 g0.1.2.1) fun r10 =>
 .ok ((0 : Int), ((g0.1, g0.2.1, r10.1, g0.2.2.2.1, (min (IntKind.i64.wrap (g0.2.2.2.2.1 + a2)) (IntKind.i64.wrap ((2 : Int) * g0.1.2.1))), (IntKind.i64.wrap (g0.2.2.2.2.2.1 - a2)), g0.2.2.2.2.2.2), r9.2))
noncomputable def j4 (k : Nat) (a1 : Int) (a2 : Int) (a3 : Int) (g0 : TY6 × (Int × Bool) × (Int × Bool) × (Int × Bool) × Int × Int × Bool) (g1 : List Int × Int × TY1) (v1 : Int) : O TY28 := j4_b k a1 a2 a3 g0 g1 v1
theorem j4_eq (k : Nat) (a1 : Int) (a2 : Int) (a3 : Int) (g0 : TY6 × (Int × Bool) × (Int × Bool) × (Int × Bool) × Int × Int × Bool) (g1 : List Int × Int × TY1) (v1 : Int) : zj4 (ca k [] [.r, .r, .r, .r, .r]) a1 a2 a3 g0 g1 v1 = j4 k a1 a2 a3 g0 g1 v1 := by
  have h : zj4 (ca k [] [.r, .r, .r, .r, .r]) a1 a2 a3 g0 g1 v1 = j4_b k a1 a2 a3 g0 g1 v1 := (codeAt_eq _ _ _ _ _ _ _ _ _ _ _).trans (by show _ = _; kernel_rfl)
  exact h.trans (by rfl)
noncomputable def top (k : Nat) (a1 : Int) (a2 : Int) (a3 : Int) (g0 : TY6 × (Int × Bool) × (Int × Bool) × (Int × Bool) × Int × Int × Bool) (g1 : List Int × Int × TY1) (D_j4 : Int → O TY28) : O TY28 :=
  O.cond g0.2.2.2.2.2.2 (
   .ok ((141 : Int), (g0, g1))) (
   O.cond (decide (a1 < (0 : Int))) (
    .ok ((1 : Int), (g0, g1))) (
    O.cond (decide (a1 > (65535 : Int))) (
     .ok ((1 : Int), (g0, g1))) (
     O.cond (decide (a2 < (1 : Int))) (
      .ok ((1 : Int), (g0, g1))) (
      O.cond (decide (a2 > g0.2.2.2.2.2.1)) (
       .ok ((1 : Int), (g0, g1))) (
       O.cond (decide (a3 < (0 : Int))) (
        .ok ((1 : Int), (g0, g1))) (
        O.cond (decide (a3 > (4294967295 : Int))) (
         .ok ((1 : Int), (g0, g1))) (
         O.cond (decide (a3 > (0 : Int))) (
          D_j4 (2 : Int)) (
          D_j4 (0 : Int)))))))))
noncomputable def S (k : Nat) (a1 : Int) (a2 : Int) (a3 : Int) (g0 : TY6 × (Int × Bool) × (Int × Bool) × (Int × Bool) × Int × Int × Bool) (g1 : List Int × Int × TY1) : O TY28 := top k a1 a2 a3 g0 g1 ((fun (v1 : Int) => j4 k a1 a2 a3 g0 g1 v1))
theorem eq (k : Nat) (a1 : Int) (a2 : Int) (a3 : Int) (g0 : TY6 × (Int × Bool) × (Int × Bool) × (Int × Bool) × Int × Int × Bool) (g1 : List Int × Int × TY1) : evFn (T := Int × TY20 × TY4) tab (calOf (cal k)) Go.Proofs.Try.f28 nt k 2 [.ptr 0 0, .int .i64 a1, .int .i64 a2, .int .i64 a3] [] ⟨4, false, [(1, .cells 92 [.osl 2, .int .i64 g1.2.1, .osl 3]), (3, .row true 121 [.int .i64, .int .i64, .int .i64, .bool] g1.2.2), (2, .row true 5 [.int .u8] g1.1), (0, .cells 126 [.ptr 1 0, .int .i64 g0.1.1, .int .i64 g0.1.2.1, .int .i64 g0.1.2.2.1, .int .i64 g0.1.2.2.2, .int .i64 g0.2.1.1, .bool g0.2.1.2, .int .i64 g0.2.2.1.1, .bool g0.2.2.1.2, .int .i64 g0.2.2.2.1.1, .bool g0.2.2.2.1.2, .int .i64 g0.2.2.2.2.1, .int .i64 g0.2.2.2.2.2.1, .bool g0.2.2.2.2.2.2])]⟩ (fun v st => outK ct.ob (γ0 ct) ct.outs v st .ok) (fun e st => outP ct.ob (γ0 ct) ct.outs e st .ok) = S k a1 a2 a3 g0 g1 := by
 have e0 : (fun (v1 : Int) => zj4 (ca k [] [.r, .r, .r, .r, .r]) a1 a2 a3 g0 g1 v1) = (fun (v1 : Int) => j4 k a1 a2 a3 g0 g1 v1) := by funext v1; exact j4_eq k a1 a2 a3 g0 g1 v1
 have h : evFn (T := Int × TY20 × TY4) tab (calOf (cal k)) Go.Proofs.Try.f28 nt k 2 [.ptr 0 0, .int .i64 a1, .int .i64 a2, .int .i64 a3] [] ⟨4, false, [(1, .cells 92 [.osl 2, .int .i64 g1.2.1, .osl 3]), (3, .row true 121 [.int .i64, .int .i64, .int .i64, .bool] g1.2.2), (2, .row true 5 [.int .u8] g1.1), (0, .cells 126 [.ptr 1 0, .int .i64 g0.1.1, .int .i64 g0.1.2.1, .int .i64 g0.1.2.2.1, .int .i64 g0.1.2.2.2, .int .i64 g0.2.1.1, .bool g0.2.1.2, .int .i64 g0.2.2.1.1, .bool g0.2.2.1.2, .int .i64 g0.2.2.2.1.1, .bool g0.2.2.2.1.2, .int .i64 g0.2.2.2.2.1, .int .i64 g0.2.2.2.2.2.1, .bool g0.2.2.2.2.2.2])]⟩ (fun v st => outK ct.ob (γ0 ct) ct.outs v st .ok) (fun e st => outP ct.ob (γ0 ct) ct.outs e st .ok) = top k a1 a2 a3 g0 g1 ((fun (v1 : Int) => zj4 (ca k [] [.r, .r, .r, .r, .r]) a1 a2 a3 g0 g1 v1)) := by kernel_rfl
 exact h.trans (by rw [e0]; rfl)
theorem ok (k : Nat) : FnOkC Try.prog 28 ct (fun (x : Int × Int × Int) (g : TY20 × TY4) => S k x.1 x.2.1 x.2.2 g.1 g.2) :=
 FnOkC.of_ev (C := ct) tab_ok rfl (calOf_ok (cal_ok k)) mixed Try.func28 nt k (fun _ _ => rfl) (fun (x : Int × Int × Int) (g : TY20 × TY4) => eq k x.1 x.2.1 x.2.2 g.1 g.2)
theorem hd {T : Type} (k : Nat) : HdOk Try.prog 28 (pureC (T := T) ct [.arg 0 0, .fld 0 0] (fun (x : Int × Int × Int) (g : TY20 × TY4) => S k x.1 x.2.1 x.2.2 g.1 g.2)) :=
 pureC_ok rfl [.arg 0 0, .fld 0 0] (ok k) Try.call28
end F_devq_Queue_Done
namespace F_aqueductlaw15_without
noncomputable def ct : Ct := ⟨.some (.cons (.tab false 74 (.cons (.leaf (.int .i64)) (.cons (.leaf (.int .i64)) (.one (.row false 56 [.int .i64, .int .i64, .bool]) [])))) (.one (.leaf (.int .i64)) [])), [], [⟨.val (.tab true 74 (.cons (.leaf (.int .i64)) (.cons (.leaf (.int .i64)) (.one (.row false 56 [.int .i64, .int .i64, .bool]) [])))), [], []⟩]⟩
noncomputable def nt : Notes := ⟨[(3, ⟨[0, 1, 5, 6], []⟩)], [], [], [], []⟩
noncomputable def cal0 {T : Type} (k : Nat) : List (FuncId × Hd T) := []
theorem cal0_ok {T : Type} (k : Nat) : HdsOk Try.prog (cal0 (T := T) k) := trivial
noncomputable def cal {T : Type} (k : Nat) : List (FuncId × Hd T) := cal0 k
theorem cal_ok {T : Type} (k : Nat) : HdsOk Try.prog (cal (T := T) k) := cal0_ok k
noncomputable abbrev la (k : Nat) (Rs : List (Fr → St → O TY29)) (ds : List Dir) (j : Nat) : Fr → St → O TY29 := loopAt tab (calOf (cal k)) Go.Proofs.Try.f29.ntmps nt k Rs ds (bodyOf Go.Proofs.Try.f29) (finK tab Go.Proofs.Try.f29.results.toList (fun v st => outK ct.ob (γ0 ct) ct.outs v st .ok) (fun e st => outP ct.ob (γ0 ct) ct.outs e st .ok)) j
noncomputable abbrev zl0 {α : Type} (X : Fr → St → α) (a0 : List TY24) (a1 : Int) (v1 : Int) (v2 : List TY24) : α := X ⟨[(0, .osl 0), (1, .int .i64 a1), (5, .osl 1), (6, .int .i64 v1)], [], 0, []⟩ ⟨4, true, [(0, .tab false 74 [] 2 (.cons (.leaf (.int .i64)) (.cons (.leaf (.int .i64)) (.one (.row false 56 [.int .i64, .int .i64, .bool]) []))) a0), (1, .tab true 74 [] 3 (.cons (.leaf (.int .i64)) (.cons (.leaf (.int .i64)) (.one (.row false 56 [.int .i64, .int .i64, .bool]) []))) v2), (2, .ghost), (3, .ghost)]⟩
noncomputable def l0_b (k : Nat) (a0 : List TY24) (a1 : Int) (R_l0 : Int → TY29 → O TY29) (v1 : Int) (v2 : List TY24) : O TY29 :=
  O.cond (decide (v1 < (List.length a0 : Int))) (
   O.cond (decide (v1 ≠ a1)) (
    O.chk (decide (0 ≤ v1 ∧ v1 < (List.length a0 : Int))) (
     O.chk (decide (0 ≤ v1 ∧ v1 < (List.length a0 : Int))) (
      O.chk (decide (List.length v2 + 1 ≤ 1073741824)) (
       R_l0 (IntKind.i64.wrap (v1 + (1 : Int))) (v2 ++ [(gt ((0 : Int), (0 : Int), []) a0 v1)]))))) (
    R_l0 (IntKind.i64.wrap (v1 + (1 : Int))) v2)) (
   .ok v2)
noncomputable def l0 (k : Nat) (a0 : List TY24) (a1 : Int) : Nat → Int → TY29 → O TY29
 | 0, _, _ => .no
 | j + 1, v1, v2 => l0_b k a0 a1 (l0 k a0 a1 j) v1 v2
theorem l0_eq (k : Nat) (a0 : List TY24) (a1 : Int) : ∀ (j : Nat) (v1 : Int) (v2 : List TY24), zl0 (la k [] [.r, .r, .l, .r, .b] j) a0 a1 v1 v2 = l0 k a0 a1 j v1 v2 := by
 intro j
 induction j with
 | zero => intro v1 v2; rfl
 | succ j ih =>
  intro v1 v2
  have rs : (fun (v1' : Int) (v2' : List TY24) => zl0 (la k [] [.r, .r, .l, .r, .b] j) a0 a1 v1' v2') = l0 k a0 a1 j := by funext v1' v2'; exact ih v1' v2'
  have h : zl0 (la k [] [.r, .r, .l, .r, .b] (j + 1)) a0 a1 v1 v2 = l0_b k a0 a1 ((fun (v1' : Int) (v2' : List TY24) => zl0 (la k [] [.r, .r, .l, .r, .b] j) a0 a1 v1' v2')) v1 v2 := by kernel_rfl
  exact h.trans (by rw [rs]; rfl)
noncomputable def top (k : Nat) (a0 : List TY24) (a1 : Int) (D_l0 : Int → TY29 → O TY29) : O TY29 :=
 D_l0 (0 : Int) []
noncomputable def S (k : Nat) (a0 : List TY24) (a1 : Int) : O TY29 := top k a0 a1 ((fun (v1 : Int) (v2 : List TY24) => l0 k a0 a1 k v1 v2))
theorem eq (k : Nat) (a0 : List TY24) (a1 : Int) : evFn (T := List TY24) tab (calOf (cal k)) Go.Proofs.Try.f29 nt k 0 [.osl 1, .int .i64 a1] [] ⟨2, false, [(1, .tab false 74 [] 0 (.cons (.leaf (.int .i64)) (.cons (.leaf (.int .i64)) (.one (.row false 56 [.int .i64, .int .i64, .bool]) []))) a0), (0, .ghost)]⟩ (fun v st => outK ct.ob (γ0 ct) ct.outs v st .ok) (fun e st => outP ct.ob (γ0 ct) ct.outs e st .ok) = S k a0 a1 := by
 have e0 : (fun (v1 : Int) (v2 : List TY24) => zl0 (la k [] [.r, .r, .l, .r, .b] k) a0 a1 v1 v2) = (fun (v1 : Int) (v2 : List TY24) => l0 k a0 a1 k v1 v2) := by funext v1 v2; exact l0_eq k a0 a1 k v1 v2
 have h : evFn (T := List TY24) tab (calOf (cal k)) Go.Proofs.Try.f29 nt k 0 [.osl 1, .int .i64 a1] [] ⟨2, false, [(1, .tab false 74 [] 0 (.cons (.leaf (.int .i64)) (.cons (.leaf (.int .i64)) (.one (.row false 56 [.int .i64, .int .i64, .bool]) []))) a0), (0, .ghost)]⟩ (fun v st => outK ct.ob (γ0 ct) ct.outs v st .ok) (fun e st => outP ct.ob (γ0 ct) ct.outs e st .ok) = top k a0 a1 ((fun (v1 : Int) (v2 : List TY24) => zl0 (la k [] [.r, .r, .l, .r, .b] k) a0 a1 v1 v2)) := by kernel_rfl
 exact h.trans (by rw [e0]; rfl)
theorem ok (k : Nat) : FnOkC Try.prog 29 ct (fun (x : TY29 × Int) (_ : Unit) => S k x.1 x.2) :=
 FnOkC.of_ev (C := ct) tab_ok rfl (calOf_ok (cal_ok k)) mixed Try.func29 nt k (fun _ _ => rfl) (fun (x : TY29 × Int) (_ : Unit) => eq k x.1 x.2)
theorem hd {T : Type} (k : Nat) : HdOk Try.prog 29 (pureC (T := T) ct [] (fun (x : TY29 × Int) (_ : Unit) => S k x.1 x.2)) :=
 pureC_ok rfl [] (ok k) Try.call29
end F_aqueductlaw15_without
end Go.Proofs.Ytpfddjdkafjjfaa
end
