/- Texts of this proof, joined (2 of them): KS2, KS3.
   Conditions: none but those that stand at each theorem. -/
import Derived.Test.YtkihcmcaignmkaaKM9
section
/- What this seat's functions come to, as plain functions, each with the proof that the code does just that. Printed by a program of this repo (wip/gen4/gen.py). -/
namespace Go.Proofs.Ytkihcmcaignmkaa
open Go.Aq
set_option linter.unusedVariables false
set_option maxRecDepth 100000
namespace F_bridge_Bridge_In
/-! ### (*aqueduct/bridge.Bridge).In: function 10 -/
noncomputable def ct : Ct := ⟨.some (.pin (.ref 0) (.cons (.leaf (.int .i64)) (.one (.leaf .str) []))), [(71, .cons (.tab false 55 (.cons (.leaf (.int .i64)) (.one (.row false 3 [.int .i64]) []))) (.pin (.ref 1) (.cons (.tab true 78 (.one (.box 121 (.cons (.row true 9 [.str]) (.cons (.leaf (.int .i64)) (.one (.leaf (.int .i64)) [])))) [])) (.one (.agg (.cons (.leaf (.int .i64)) (.cons (.leaf (.int .i64)) (.cons (.leaf (.int .i64)) (.cons (.leaf (.int .i64)) (.cons (.leaf (.int .i64)) (.one (.leaf (.int .i64)) []))))))) [])))), (115, .cons (.leaf (.int .i64)) (.cons (.leaf (.int .i64)) (.one (.map 113 true true [.int .i64, .str] [.int .i64, .str, .int .i64, .int .i64]) [])))], [⟨.tup (.cons (.row true 3 [.int .i64]) (.one (.leaf (.int .i64)) [])), [], []⟩]⟩
noncomputable def nt : Notes := ⟨[(17, ⟨[0, 2, 10, 11, 105, 106, 107], [(.slot 11 [], 3, .pl [.int .i64])]⟩)], [(8, ⟨[0, 1, 2, 8, 9, 10], []⟩)], [(14, [0, 1, 2, 3, 4, 5, 6, 7, 8])], [], []⟩
noncomputable def cal0 {T : Type} (k : Nat) : List (FuncId × Hd T) := [(23, pureC F_eth_Parse.ct [] (fun (x : ByteArray) (_ : Unit) => F_eth_Parse.S k x)), (24, pureC F_addr_Kind.ct [] (fun (x : ByteArray) (_ : Unit) => F_addr_Kind.S k x)), (25, pureR F_bridge_Bridge_fits.ct [.arg 0 0, .fld 0 1] (fun (x : Int × ByteArray) (g : TY2 × TY3) => F_bridge_Bridge_fits.S k x.1 x.2 g.1 g.2)), (26, pureC F_bridge_Bridge_has.ct [.arg 0 0, .fld 0 1] (fun (x : Int × Int) (g : TY2 × TY3) => F_bridge_Bridge_has.S k x.1 x.2 g.1 g.2)), (27, pureC F_fdb_Table_Learn.ct [.arg 0 0] (fun (x : Int × ByteArray × Int) (g : Int × Int × TY0) => F_fdb_Table_Learn.S k x.1 x.2.1 x.2.2 g)), (28, pureC F_bridge_Bridge_to.ct [.arg 0 0, .fld 0 1] (fun (x : Int × Int × ByteArray) (g : TY2 × TY3) => F_bridge_Bridge_to.S k x.1 x.2.1 x.2.2 g.1 g.2)), (29, pureR F_bridge_Bridge_leaves.ct [.arg 0 0, .fld 0 1] (fun (x : Int × Int × ByteArray) (g : TY2 × TY3) => F_bridge_Bridge_leaves.S k x.1 x.2.1 x.2.2 g.1 g.2))]
theorem cal0_ok {T : Type} (k : Nat) : HdsOk Try.prog (cal0 (T := T) k) := ⟨F_eth_Parse.hd k, F_addr_Kind.hd k, F_bridge_Bridge_fits.hd k, F_bridge_Bridge_has.hd k, F_fdb_Table_Learn.hd k, F_bridge_Bridge_to.hd k, F_bridge_Bridge_leaves.hd k, trivial⟩
noncomputable def nt30 : Notes := ⟨[], [], [(1, [0, 1, 2, 3, 4, 5, 6, 7, 8, 9])], [], []⟩
noncomputable def cal1 {T : Type} (k : Nat) : List (FuncId × Hd T) := (30, inlH tab (calOf (cal0 k)) Go.Proofs.Try.f30 nt30 k) :: cal0 k
theorem cal1_ok {T : Type} (k : Nat) : HdsOk Try.prog (cal1 (T := T) k) := ⟨inlH_ok tab_ok (calOf_ok (cal0_ok k)) mixed Try.func30 nt30 k Try.call30, cal0_ok k⟩
noncomputable def cal {T : Type} (k : Nat) : List (FuncId × Hd T) := cal1 k
theorem cal_ok {T : Type} (k : Nat) : HdsOk Try.prog (cal (T := T) k) := cal1_ok k
noncomputable abbrev la (k : Nat) (Rs : List (Fr → St → O TY4)) (ds : List Dir) (j : Nat) : Fr → St → O TY4 := loopAt tab (calOf (cal k)) Go.Proofs.Try.f10.ntmps nt k Rs ds (bodyOf Go.Proofs.Try.f10) (finK tab Go.Proofs.Try.f10.results.toList (fun v st => outK ct.ob (γ0 ct) ct.outs v st .ok) (fun e st => outP ct.ob (γ0 ct) ct.outs e st .ok)) j
noncomputable abbrev ca (k : Nat) (Rs : List (Fr → St → O TY4)) (ds : List Dir) : Fr → St → O TY4 := codeAt tab (calOf (cal k)) Go.Proofs.Try.f10.ntmps nt k Rs ds (bodyOf Go.Proofs.Try.f10) (finK tab Go.Proofs.Try.f10.results.toList (fun v st => outK ct.ob (γ0 ct) ct.outs v st .ok) (fun e st => outP ct.ob (γ0 ct) ct.outs e st .ok))
noncomputable def l1_b (k : Nat) (a2 : ByteArray) (v3 : Int) (r13 : List Int × TY2 × TY3) (R_l1 : Int → (List Int) → TY6 → Int → Int → O TY4) (v19 : Int) (v22 : List Int) (v20 : List TY8) (v23 : Int) (v21 : Int) : O TY4 :=
  O.cond (decide (v19 < (List.length r13.1 : Int))) (
   O.chk (decide (0 ≤ v19 ∧ v19 < (List.length r13.1 : Int) ∧ (List.length r13.1 : Int) ≤ (List.length r13.1 : Int))) (
    O.chk (decide (0 ≤ v19 ∧ v19 < (List.length r13.1 : Int))) (
     O.bind (F_bridge_Bridge_leaves.S k (gt (0 : Int) r13.1 v19) v3 a2 (r13.2.1.1, v20, (r13.2.1.2.2.1, r13.2.1.2.2.2.1, r13.2.1.2.2.2.2.1, r13.2.1.2.2.2.2.2.1, v23, v21)) r13.2.2) fun r25 =>
     O.chk (decide (0 ≤ (gt (0 : Int) r13.1 v19) ∧ (gt (0 : Int) r13.1 v19) < (List.length v20 : Int))) (
      O.chk (decide (0 ≤ (gt (0 : Int) r13.1 v19) ∧ (gt (0 : Int) r13.1 v19) < (List.length v20 : Int))) (
       O.cond (decide ((List.length ((gt ([], (0 : Int), (0 : Int)) v20 (gt (0 : Int) r13.1 v19)).1) : Int) ≥ (gt ([], (0 : Int), (0 : Int)) v20 (gt (0 : Int) r13.1 v19)).2.1)) (
        O.cond true (
         R_l1 (IntKind.i64.wrap (v19 + (1 : Int))) v22 (su v20 (gt (0 : Int) r13.1 v19) ((gt ([], (0 : Int), (0 : Int)) v20 (gt (0 : Int) r13.1 v19)).1, (gt ([], (0 : Int), (0 : Int)) v20 (gt (0 : Int) r13.1 v19)).2.1, (IntKind.i64.wrap ((gt ([], (0 : Int), (0 : Int)) v20 (gt (0 : Int) r13.1 v19)).2.2 + (1 : Int))))) v23 (IntKind.i64.wrap (v21 + (1 : Int)))) (
         O.chk (decide (List.length v22 + List.length [(gt (0 : Int) r13.1 v19)] ≤ 1073741824)) (
          R_l1 (IntKind.i64.wrap (v19 + (1 : Int))) (v22 ++ [(gt (0 : Int) r13.1 v19)]) (su v20 (gt (0 : Int) r13.1 v19) ((gt ([], (0 : Int), (0 : Int)) v20 (gt (0 : Int) r13.1 v19)).1, (gt ([], (0 : Int), (0 : Int)) v20 (gt (0 : Int) r13.1 v19)).2.1, (IntKind.i64.wrap ((gt ([], (0 : Int), (0 : Int)) v20 (gt (0 : Int) r13.1 v19)).2.2 + (1 : Int))))) (IntKind.i64.wrap (v23 + (1 : Int))) v21))) (
        O.chk (decide (List.length ((gt ([], (0 : Int), (0 : Int)) v20 (gt (0 : Int) r13.1 v19)).1) + List.length [r25.1] ≤ 1073741824)) (
         O.cond false (
          R_l1 (IntKind.i64.wrap (v19 + (1 : Int))) v22 (su v20 (gt (0 : Int) r13.1 v19) (((gt ([], (0 : Int), (0 : Int)) v20 (gt (0 : Int) r13.1 v19)).1 ++ [r25.1]), (gt ([], (0 : Int), (0 : Int)) v20 (gt (0 : Int) r13.1 v19)).2.1, (gt ([], (0 : Int), (0 : Int)) v20 (gt (0 : Int) r13.1 v19)).2.2)) v23 (IntKind.i64.wrap (v21 + (1 : Int)))) (
          O.chk (decide (List.length v22 + List.length [(gt (0 : Int) r13.1 v19)] ≤ 1073741824)) (
           R_l1 (IntKind.i64.wrap (v19 + (1 : Int))) (v22 ++ [(gt (0 : Int) r13.1 v19)]) (su v20 (gt (0 : Int) r13.1 v19) (((gt ([], (0 : Int), (0 : Int)) v20 (gt (0 : Int) r13.1 v19)).1 ++ [r25.1]), (gt ([], (0 : Int), (0 : Int)) v20 (gt (0 : Int) r13.1 v19)).2.1, (gt ([], (0 : Int), (0 : Int)) v20 (gt (0 : Int) r13.1 v19)).2.2)) (IntKind.i64.wrap (v23 + (1 : Int))) v21))))))))) (
   .ok ((v22, (0 : Int)), ((r13.2.1.1, v20, (r13.2.1.2.2.1, r13.2.1.2.2.2.1, r13.2.1.2.2.2.2.1, r13.2.1.2.2.2.2.2.1, v23, v21)), r13.2.2)))
noncomputable def l1 (k : Nat) (a2 : ByteArray) (v3 : Int) (r13 : List Int × TY2 × TY3) : Nat → Int → (List Int) → TY6 → Int → Int → O TY4
  | 0, _, _, _, _, _ => .no
  | j + 1, v19, v22, v20, v23, v21 => l1_b k a2 v3 r13 (l1 k a2 v3 r13 j) v19 v22 v20 v23 v21
theorem l1_eq (k : Nat) (a2 : ByteArray) (v3 : Int) (r13 : List Int × TY2 × TY3) : ∀ (j : Nat) (v19 : Int) (v22 : List Int) (v20 : List TY8) (v23 : Int) (v21 : Int), la k [] [.r, .r, .r, .r, .r, .r, .r, .r, .r, .r, .l, .r, .b] j ⟨[(0, .ptr 0 0), (2, .str a2), (10, .int .i64 v3), (11, .osl 2), (105, .osl 3), (106, .int .i64 (List.length r13.1 : Int)), (107, .int .i64 v19)], [], 2, []⟩ ⟨9, true, [(2, .row true 3 [.int .i64] v22), (3, .row true 3 [.int .i64] r13.1), (4, .tab false 55 [] 7 (.cons (.leaf (.int .i64)) (.one (.row false 3 [.int .i64]) [])) r13.2.1.1), (5, .tab true 78 [] 8 (.one (.box 121 (.cons (.row true 9 [.str]) (.cons (.leaf (.int .i64)) (.one (.leaf (.int .i64)) [])))) []) v20), (6, .map 113 true true [.int .i64, .str] [.int .i64, .str, .int .i64, .int .i64] r13.2.2.2.2), (7, .ghost), (8, .ghost), (0, .cells 71 [.osl 4, .ptr 1 0, .osl 5, .int .i64 r13.2.1.2.2.1, .int .i64 r13.2.1.2.2.2.1, .int .i64 r13.2.1.2.2.2.2.1, .int .i64 r13.2.1.2.2.2.2.2.1, .int .i64 v23, .int .i64 v21]), (1, .cells 115 [.int .i64 r13.2.2.1, .int .i64 r13.2.2.2.1, .mp 6])]⟩ = l1 k a2 v3 r13 j v19 v22 v20 v23 v21 := by
  intro j
  induction j with
  | zero => intro v19 v22 v20 v23 v21; rfl
  | succ j ih =>
    intro v19 v22 v20 v23 v21
    have rs : (fun (v19' : Int) (v22' : List Int) (v20' : List TY8) (v23' : Int) (v21' : Int) => la k [] [.r, .r, .r, .r, .r, .r, .r, .r, .r, .r, .l, .r, .b] j ⟨[(0, .ptr 0 0), (2, .str a2), (10, .int .i64 v3), (11, .osl 2), (105, .osl 3), (106, .int .i64 (List.length r13.1 : Int)), (107, .int .i64 v19')], [], 2, []⟩ ⟨9, true, [(2, .row true 3 [.int .i64] v22'), (3, .row true 3 [.int .i64] r13.1), (4, .tab false 55 [] 7 (.cons (.leaf (.int .i64)) (.one (.row false 3 [.int .i64]) [])) r13.2.1.1), (5, .tab true 78 [] 8 (.one (.box 121 (.cons (.row true 9 [.str]) (.cons (.leaf (.int .i64)) (.one (.leaf (.int .i64)) [])))) []) v20'), (6, .map 113 true true [.int .i64, .str] [.int .i64, .str, .int .i64, .int .i64] r13.2.2.2.2), (7, .ghost), (8, .ghost), (0, .cells 71 [.osl 4, .ptr 1 0, .osl 5, .int .i64 r13.2.1.2.2.1, .int .i64 r13.2.1.2.2.2.1, .int .i64 r13.2.1.2.2.2.2.1, .int .i64 r13.2.1.2.2.2.2.2.1, .int .i64 v23', .int .i64 v21']), (1, .cells 115 [.int .i64 r13.2.2.1, .int .i64 r13.2.2.2.1, .mp 6])]⟩) = l1 k a2 v3 r13 j := by funext v19' v22' v20' v23' v21'; exact ih v19' v22' v20' v23' v21'
    have h : la k [] [.r, .r, .r, .r, .r, .r, .r, .r, .r, .r, .l, .r, .b] (j + 1) ⟨[(0, .ptr 0 0), (2, .str a2), (10, .int .i64 v3), (11, .osl 2), (105, .osl 3), (106, .int .i64 (List.length r13.1 : Int)), (107, .int .i64 v19)], [], 2, []⟩ ⟨9, true, [(2, .row true 3 [.int .i64] v22), (3, .row true 3 [.int .i64] r13.1), (4, .tab false 55 [] 7 (.cons (.leaf (.int .i64)) (.one (.row false 3 [.int .i64]) [])) r13.2.1.1), (5, .tab true 78 [] 8 (.one (.box 121 (.cons (.row true 9 [.str]) (.cons (.leaf (.int .i64)) (.one (.leaf (.int .i64)) [])))) []) v20), (6, .map 113 true true [.int .i64, .str] [.int .i64, .str, .int .i64, .int .i64] r13.2.2.2.2), (7, .ghost), (8, .ghost), (0, .cells 71 [.osl 4, .ptr 1 0, .osl 5, .int .i64 r13.2.1.2.2.1, .int .i64 r13.2.1.2.2.2.1, .int .i64 r13.2.1.2.2.2.2.1, .int .i64 r13.2.1.2.2.2.2.2.1, .int .i64 v23, .int .i64 v21]), (1, .cells 115 [.int .i64 r13.2.2.1, .int .i64 r13.2.2.2.1, .mp 6])]⟩ = l1_b k a2 v3 r13 ((fun (v19' : Int) (v22' : List Int) (v20' : List TY8) (v23' : Int) (v21' : Int) => la k [] [.r, .r, .r, .r, .r, .r, .r, .r, .r, .r, .l, .r, .b] j ⟨[(0, .ptr 0 0), (2, .str a2), (10, .int .i64 v3), (11, .osl 2), (105, .osl 3), (106, .int .i64 (List.length r13.1 : Int)), (107, .int .i64 v19')], [], 2, []⟩ ⟨9, true, [(2, .row true 3 [.int .i64] v22'), (3, .row true 3 [.int .i64] r13.1), (4, .tab false 55 [] 7 (.cons (.leaf (.int .i64)) (.one (.row false 3 [.int .i64]) [])) r13.2.1.1), (5, .tab true 78 [] 8 (.one (.box 121 (.cons (.row true 9 [.str]) (.cons (.leaf (.int .i64)) (.one (.leaf (.int .i64)) [])))) []) v20'), (6, .map 113 true true [.int .i64, .str] [.int .i64, .str, .int .i64, .int .i64] r13.2.2.2.2), (7, .ghost), (8, .ghost), (0, .cells 71 [.osl 4, .ptr 1 0, .osl 5, .int .i64 r13.2.1.2.2.1, .int .i64 r13.2.1.2.2.2.1, .int .i64 r13.2.1.2.2.2.2.1, .int .i64 r13.2.1.2.2.2.2.2.1, .int .i64 v23', .int .i64 v21']), (1, .cells 115 [.int .i64 r13.2.2.1, .int .i64 r13.2.2.2.1, .mp 6])]⟩)) v19 v22 v20 v23 v21 := by kernel_rfl
    exact h.trans (by rw [rs]; rfl)
noncomputable def j5_b (k : Nat) (a1 : Int) (a2 : ByteArray) (g0 : TY9 × TY6 × TY7) (g1 : Int × Int × TY0) (r2 : TY5 × Int) (D_l1 : Int → (List Int × TY2 × TY3) → Int → (List Int) → TY6 → Int → Int → O TY4) (v3 : Int) : O TY4 :=
  O.cond (decide (r2.2 ≠ (0 : Int))) (
   .ok (([], (0 : Int)), ((g0.1, g0.2.1, ((IntKind.i64.wrap (g0.2.2.1 + (1 : Int))), (IntKind.i64.wrap (g0.2.2.2.1 + (1 : Int))), g0.2.2.2.2.1, g0.2.2.2.2.2.1, g0.2.2.2.2.2.2.1, g0.2.2.2.2.2.2.2)), g1))) (
   O.bind (F_addr_Kind.S k r2.1.2.1) fun r6 =>
   O.cond (decide (r6 ≠ (1 : Int))) (
    .ok (([], (0 : Int)), ((g0.1, g0.2.1, ((IntKind.i64.wrap (g0.2.2.1 + (1 : Int))), (IntKind.i64.wrap (g0.2.2.2.1 + (1 : Int))), g0.2.2.2.2.1, g0.2.2.2.2.2.1, g0.2.2.2.2.2.2.1, g0.2.2.2.2.2.2.2)), g1))) (
    O.bind (F_bridge_Bridge_fits.S k v3 a2 (g0.1, g0.2.1, ((IntKind.i64.wrap (g0.2.2.1 + (1 : Int))), g0.2.2.2.1, g0.2.2.2.2.1, g0.2.2.2.2.2.1, g0.2.2.2.2.2.2.1, g0.2.2.2.2.2.2.2)) g1) fun r7 =>
    O.cond (!r7) (
     .ok (([], (0 : Int)), ((g0.1, g0.2.1, ((IntKind.i64.wrap (g0.2.2.1 + (1 : Int))), (IntKind.i64.wrap (g0.2.2.2.1 + (1 : Int))), g0.2.2.2.2.1, g0.2.2.2.2.2.1, g0.2.2.2.2.2.2.1, g0.2.2.2.2.2.2.2)), g1))) (
     O.bind (F_bridge_Bridge_has.S k a1 v3 (g0.1, g0.2.1, ((IntKind.i64.wrap (g0.2.2.1 + (1 : Int))), g0.2.2.2.1, g0.2.2.2.2.1, g0.2.2.2.2.2.1, g0.2.2.2.2.2.2.1, g0.2.2.2.2.2.2.2)) g1) fun r9 =>
     O.cond (!r9.1) (
      .ok (([], (0 : Int)), ((r9.2.1.1, r9.2.1.2.1, (r9.2.1.2.2.1, r9.2.1.2.2.2.1, (IntKind.i64.wrap (r9.2.1.2.2.2.2.1 + (1 : Int))), r9.2.1.2.2.2.2.2.1, r9.2.1.2.2.2.2.2.2.1, r9.2.1.2.2.2.2.2.2.2)), r9.2.2))) (
      O.bind (F_fdb_Table_Learn.S k v3 r2.1.2.1 a1 r9.2.2) fun r11 =>
      O.bind (F_bridge_Bridge_to.S k a1 v3 r2.1.1 r9.2.1 r11.2) fun r13 =>
      D_l1 v3 r13 (0 : Int) [] r13.2.1.2.1 r13.2.1.2.2.2.2.2.2.1 r13.2.1.2.2.2.2.2.2.2))))
noncomputable def j5 (k : Nat) (a1 : Int) (a2 : ByteArray) (g0 : TY9 × TY6 × TY7) (g1 : Int × Int × TY0) (r2 : TY5 × Int) (v3 : Int) : O TY4 := j5_b k a1 a2 g0 g1 r2 ((fun (v3 : Int) (r13 : List Int × TY2 × TY3) (v19 : Int) (v22 : List Int) (v20 : List TY8) (v23 : Int) (v21 : Int) => l1 k a2 v3 r13 k v19 v22 v20 v23 v21)) v3
theorem j5_eq (k : Nat) (a1 : Int) (a2 : ByteArray) (g0 : TY9 × TY6 × TY7) (g1 : Int × Int × TY0) (r2 : TY5 × Int) (v3 : Int) : ca k [] [.r, .r, .r, .r, .r, .r] ⟨[(0, .ptr 0 0), (1, .int .i64 a1), (2, .str a2), (8, .ptr 2 0), (9, .int .i64 r2.2), (10, .int .i64 v3)], [], 2, []⟩ ⟨8, true, [(2, .cells 58 [.str r2.1.1, .str r2.1.2.1, .int .i64 r2.1.2.2.1, .int .i64 r2.1.2.2.2.1, .int .i64 r2.1.2.2.2.2.1, .str r2.1.2.2.2.2.2]), (3, .tab false 55 [] 6 (.cons (.leaf (.int .i64)) (.one (.row false 3 [.int .i64]) [])) g0.1), (4, .tab true 78 [] 7 (.one (.box 121 (.cons (.row true 9 [.str]) (.cons (.leaf (.int .i64)) (.one (.leaf (.int .i64)) [])))) []) g0.2.1), (5, .map 113 true true [.int .i64, .str] [.int .i64, .str, .int .i64, .int .i64] g1.2.2), (6, .ghost), (7, .ghost), (0, .cells 71 [.osl 3, .ptr 1 0, .osl 4, .int .i64 (IntKind.i64.wrap (g0.2.2.1 + (1 : Int))), .int .i64 g0.2.2.2.1, .int .i64 g0.2.2.2.2.1, .int .i64 g0.2.2.2.2.2.1, .int .i64 g0.2.2.2.2.2.2.1, .int .i64 g0.2.2.2.2.2.2.2]), (1, .cells 115 [.int .i64 g1.1, .int .i64 g1.2.1, .mp 5])]⟩ = j5 k a1 a2 g0 g1 r2 v3 := by
    have e0 : (fun (v3 : Int) (r13 : List Int × TY2 × TY3) (v19 : Int) (v22 : List Int) (v20 : List TY8) (v23 : Int) (v21 : Int) => la k [] [.r, .r, .r, .r, .r, .r, .r, .r, .r, .r, .l, .r, .b] k ⟨[(0, .ptr 0 0), (2, .str a2), (10, .int .i64 v3), (11, .osl 2), (105, .osl 3), (106, .int .i64 (List.length r13.1 : Int)), (107, .int .i64 v19)], [], 2, []⟩ ⟨9, true, [(2, .row true 3 [.int .i64] v22), (3, .row true 3 [.int .i64] r13.1), (4, .tab false 55 [] 7 (.cons (.leaf (.int .i64)) (.one (.row false 3 [.int .i64]) [])) r13.2.1.1), (5, .tab true 78 [] 8 (.one (.box 121 (.cons (.row true 9 [.str]) (.cons (.leaf (.int .i64)) (.one (.leaf (.int .i64)) [])))) []) v20), (6, .map 113 true true [.int .i64, .str] [.int .i64, .str, .int .i64, .int .i64] r13.2.2.2.2), (7, .ghost), (8, .ghost), (0, .cells 71 [.osl 4, .ptr 1 0, .osl 5, .int .i64 r13.2.1.2.2.1, .int .i64 r13.2.1.2.2.2.1, .int .i64 r13.2.1.2.2.2.2.1, .int .i64 r13.2.1.2.2.2.2.2.1, .int .i64 v23, .int .i64 v21]), (1, .cells 115 [.int .i64 r13.2.2.1, .int .i64 r13.2.2.2.1, .mp 6])]⟩) = (fun (v3 : Int) (r13 : List Int × TY2 × TY3) (v19 : Int) (v22 : List Int) (v20 : List TY8) (v23 : Int) (v21 : Int) => l1 k a2 v3 r13 k v19 v22 v20 v23 v21) := by funext v3 r13 v19 v22 v20 v23 v21; exact l1_eq k a2 v3 r13 k v19 v22 v20 v23 v21
    have h : ca k [] [.r, .r, .r, .r, .r, .r] ⟨[(0, .ptr 0 0), (1, .int .i64 a1), (2, .str a2), (8, .ptr 2 0), (9, .int .i64 r2.2), (10, .int .i64 v3)], [], 2, []⟩ ⟨8, true, [(2, .cells 58 [.str r2.1.1, .str r2.1.2.1, .int .i64 r2.1.2.2.1, .int .i64 r2.1.2.2.2.1, .int .i64 r2.1.2.2.2.2.1, .str r2.1.2.2.2.2.2]), (3, .tab false 55 [] 6 (.cons (.leaf (.int .i64)) (.one (.row false 3 [.int .i64]) [])) g0.1), (4, .tab true 78 [] 7 (.one (.box 121 (.cons (.row true 9 [.str]) (.cons (.leaf (.int .i64)) (.one (.leaf (.int .i64)) [])))) []) g0.2.1), (5, .map 113 true true [.int .i64, .str] [.int .i64, .str, .int .i64, .int .i64] g1.2.2), (6, .ghost), (7, .ghost), (0, .cells 71 [.osl 3, .ptr 1 0, .osl 4, .int .i64 (IntKind.i64.wrap (g0.2.2.1 + (1 : Int))), .int .i64 g0.2.2.2.1, .int .i64 g0.2.2.2.2.1, .int .i64 g0.2.2.2.2.2.1, .int .i64 g0.2.2.2.2.2.2.1, .int .i64 g0.2.2.2.2.2.2.2]), (1, .cells 115 [.int .i64 g1.1, .int .i64 g1.2.1, .mp 5])]⟩ = j5_b k a1 a2 g0 g1 r2 ((fun (v3 : Int) (r13 : List Int × TY2 × TY3) (v19 : Int) (v22 : List Int) (v20 : List TY8) (v23 : Int) (v21 : Int) => la k [] [.r, .r, .r, .r, .r, .r, .r, .r, .r, .r, .l, .r, .b] k ⟨[(0, .ptr 0 0), (2, .str a2), (10, .int .i64 v3), (11, .osl 2), (105, .osl 3), (106, .int .i64 (List.length r13.1 : Int)), (107, .int .i64 v19)], [], 2, []⟩ ⟨9, true, [(2, .row true 3 [.int .i64] v22), (3, .row true 3 [.int .i64] r13.1), (4, .tab false 55 [] 7 (.cons (.leaf (.int .i64)) (.one (.row false 3 [.int .i64]) [])) r13.2.1.1), (5, .tab true 78 [] 8 (.one (.box 121 (.cons (.row true 9 [.str]) (.cons (.leaf (.int .i64)) (.one (.leaf (.int .i64)) [])))) []) v20), (6, .map 113 true true [.int .i64, .str] [.int .i64, .str, .int .i64, .int .i64] r13.2.2.2.2), (7, .ghost), (8, .ghost), (0, .cells 71 [.osl 4, .ptr 1 0, .osl 5, .int .i64 r13.2.1.2.2.1, .int .i64 r13.2.1.2.2.2.1, .int .i64 r13.2.1.2.2.2.2.1, .int .i64 r13.2.1.2.2.2.2.2.1, .int .i64 v23, .int .i64 v21]), (1, .cells 115 [.int .i64 r13.2.2.1, .int .i64 r13.2.2.2.1, .mp 6])]⟩)) v3 := (codeAt_eq _ _ _ _ _ _ _ _ _ _ _).trans (by show _ = _; kernel_rfl)
    exact h.trans (by rw [e0]; rfl)
noncomputable def top (k : Nat) (a1 : Int) (a2 : ByteArray) (g0 : TY9 × TY6 × TY7) (g1 : Int × Int × TY0) (D_j5 : (TY5 × Int) → Int → O TY4) : O TY4 :=
  O.cond (decide (a1 < (0 : Int))) (
   .ok (([], (1 : Int)), (g0, g1))) (
   O.cond (decide (a1 ≥ (List.length g0.1 : Int))) (
    .ok (([], (1 : Int)), (g0, g1))) (
    O.bind (F_eth_Parse.S k a2) fun r2 =>
    O.cond (decide (r2.1.2.2.1 = (-1 : Int))) (
     O.chk (decide (0 ≤ a1 ∧ a1 < (List.length g0.1 : Int))) (
      O.chk (decide (0 ≤ a1 ∧ a1 < (List.length g0.1 : Int))) (
       D_j5 r2 ((gt ((0 : Int), []) g0.1 a1).1)))) (
     D_j5 r2 r2.1.2.2.1)))
noncomputable def S (k : Nat) (a1 : Int) (a2 : ByteArray) (g0 : TY9 × TY6 × TY7) (g1 : Int × Int × TY0) : O TY4 := top k a1 a2 g0 g1 ((fun (r2 : TY5 × Int) (v3 : Int) => j5 k a1 a2 g0 g1 r2 v3))
theorem eq (k : Nat) (a1 : Int) (a2 : ByteArray) (g0 : TY9 × TY6 × TY7) (g1 : Int × Int × TY0) : evFn (T := (List Int × Int) × TY2 × TY3) tab (calOf (cal k)) Go.Proofs.Try.f10 nt k 2 [.ptr 0 0, .int .i64 a1, .str a2] [] ⟨7, false, [(1, .cells 115 [.int .i64 g1.1, .int .i64 g1.2.1, .mp 6]), (6, .map 113 true true [.int .i64, .str] [.int .i64, .str, .int .i64, .int .i64] g1.2.2), (0, .cells 71 [.osl 3, .ptr 1 0, .osl 5, .int .i64 g0.2.2.1, .int .i64 g0.2.2.2.1, .int .i64 g0.2.2.2.2.1, .int .i64 g0.2.2.2.2.2.1, .int .i64 g0.2.2.2.2.2.2.1, .int .i64 g0.2.2.2.2.2.2.2]), (5, .tab true 78 [] 4 (.one (.box 121 (.cons (.row true 9 [.str]) (.cons (.leaf (.int .i64)) (.one (.leaf (.int .i64)) [])))) []) g0.2.1), (4, .ghost), (3, .tab false 55 [] 2 (.cons (.leaf (.int .i64)) (.one (.row false 3 [.int .i64]) [])) g0.1), (2, .ghost)]⟩ (fun v st => outK ct.ob (γ0 ct) ct.outs v st .ok) (fun e st => outP ct.ob (γ0 ct) ct.outs e st .ok) = S k a1 a2 g0 g1 := by
  have e0 : (fun (r2 : TY5 × Int) (v3 : Int) => ca k [] [.r, .r, .r, .r, .r, .r] ⟨[(0, .ptr 0 0), (1, .int .i64 a1), (2, .str a2), (8, .ptr 2 0), (9, .int .i64 r2.2), (10, .int .i64 v3)], [], 2, []⟩ ⟨8, true, [(2, .cells 58 [.str r2.1.1, .str r2.1.2.1, .int .i64 r2.1.2.2.1, .int .i64 r2.1.2.2.2.1, .int .i64 r2.1.2.2.2.2.1, .str r2.1.2.2.2.2.2]), (3, .tab false 55 [] 6 (.cons (.leaf (.int .i64)) (.one (.row false 3 [.int .i64]) [])) g0.1), (4, .tab true 78 [] 7 (.one (.box 121 (.cons (.row true 9 [.str]) (.cons (.leaf (.int .i64)) (.one (.leaf (.int .i64)) [])))) []) g0.2.1), (5, .map 113 true true [.int .i64, .str] [.int .i64, .str, .int .i64, .int .i64] g1.2.2), (6, .ghost), (7, .ghost), (0, .cells 71 [.osl 3, .ptr 1 0, .osl 4, .int .i64 (IntKind.i64.wrap (g0.2.2.1 + (1 : Int))), .int .i64 g0.2.2.2.1, .int .i64 g0.2.2.2.2.1, .int .i64 g0.2.2.2.2.2.1, .int .i64 g0.2.2.2.2.2.2.1, .int .i64 g0.2.2.2.2.2.2.2]), (1, .cells 115 [.int .i64 g1.1, .int .i64 g1.2.1, .mp 5])]⟩) = (fun (r2 : TY5 × Int) (v3 : Int) => j5 k a1 a2 g0 g1 r2 v3) := by funext r2 v3; exact j5_eq k a1 a2 g0 g1 r2 v3
  have h : evFn (T := (List Int × Int) × TY2 × TY3) tab (calOf (cal k)) Go.Proofs.Try.f10 nt k 2 [.ptr 0 0, .int .i64 a1, .str a2] [] ⟨7, false, [(1, .cells 115 [.int .i64 g1.1, .int .i64 g1.2.1, .mp 6]), (6, .map 113 true true [.int .i64, .str] [.int .i64, .str, .int .i64, .int .i64] g1.2.2), (0, .cells 71 [.osl 3, .ptr 1 0, .osl 5, .int .i64 g0.2.2.1, .int .i64 g0.2.2.2.1, .int .i64 g0.2.2.2.2.1, .int .i64 g0.2.2.2.2.2.1, .int .i64 g0.2.2.2.2.2.2.1, .int .i64 g0.2.2.2.2.2.2.2]), (5, .tab true 78 [] 4 (.one (.box 121 (.cons (.row true 9 [.str]) (.cons (.leaf (.int .i64)) (.one (.leaf (.int .i64)) [])))) []) g0.2.1), (4, .ghost), (3, .tab false 55 [] 2 (.cons (.leaf (.int .i64)) (.one (.row false 3 [.int .i64]) [])) g0.1), (2, .ghost)]⟩ (fun v st => outK ct.ob (γ0 ct) ct.outs v st .ok) (fun e st => outP ct.ob (γ0 ct) ct.outs e st .ok) = top k a1 a2 g0 g1 ((fun (r2 : TY5 × Int) (v3 : Int) => ca k [] [.r, .r, .r, .r, .r, .r] ⟨[(0, .ptr 0 0), (1, .int .i64 a1), (2, .str a2), (8, .ptr 2 0), (9, .int .i64 r2.2), (10, .int .i64 v3)], [], 2, []⟩ ⟨8, true, [(2, .cells 58 [.str r2.1.1, .str r2.1.2.1, .int .i64 r2.1.2.2.1, .int .i64 r2.1.2.2.2.1, .int .i64 r2.1.2.2.2.2.1, .str r2.1.2.2.2.2.2]), (3, .tab false 55 [] 6 (.cons (.leaf (.int .i64)) (.one (.row false 3 [.int .i64]) [])) g0.1), (4, .tab true 78 [] 7 (.one (.box 121 (.cons (.row true 9 [.str]) (.cons (.leaf (.int .i64)) (.one (.leaf (.int .i64)) [])))) []) g0.2.1), (5, .map 113 true true [.int .i64, .str] [.int .i64, .str, .int .i64, .int .i64] g1.2.2), (6, .ghost), (7, .ghost), (0, .cells 71 [.osl 3, .ptr 1 0, .osl 4, .int .i64 (IntKind.i64.wrap (g0.2.2.1 + (1 : Int))), .int .i64 g0.2.2.2.1, .int .i64 g0.2.2.2.2.1, .int .i64 g0.2.2.2.2.2.1, .int .i64 g0.2.2.2.2.2.2.1, .int .i64 g0.2.2.2.2.2.2.2]), (1, .cells 115 [.int .i64 g1.1, .int .i64 g1.2.1, .mp 5])]⟩)) := by kernel_rfl
  exact h.trans (by rw [e0]; rfl)
theorem ok (k : Nat) : FnOkC Try.prog 10 ct (fun (x : Int × ByteArray) (g : TY2 × TY3) => S k x.1 x.2 g.1 g.2) :=
  FnOkC.of_ev (C := ct) tab_ok rfl (calOf_ok (cal_ok k)) mixed Try.func10 nt k (fun _ _ => rfl) (fun (x : Int × ByteArray) (g : TY2 × TY3) => eq k x.1 x.2 g.1 g.2)
theorem hd {T : Type} (k : Nat) : HdOk Try.prog 10 (pureC (T := T) ct [.arg 0 0, .fld 0 1] (fun (x : Int × ByteArray) (g : TY2 × TY3) => S k x.1 x.2 g.1 g.2)) :=
  pureC_ok rfl [.arg 0 0, .fld 0 1] (ok k) Try.call10
end F_bridge_Bridge_In
namespace F_bridge_Bridge_Out
/-! ### (*aqueduct/bridge.Bridge).Out: function 11 -/
noncomputable def ct : Ct := ⟨.some (.pin (.ref 0) (.one (.leaf (.int .i64)) [])), [(71, .cons (.tab false 55 (.cons (.leaf (.int .i64)) (.one (.row false 3 [.int .i64]) []))) (.pin (.ref 1) (.cons (.tab true 78 (.one (.box 121 (.cons (.row true 9 [.str]) (.cons (.leaf (.int .i64)) (.one (.leaf (.int .i64)) [])))) [])) (.one (.agg (.cons (.leaf (.int .i64)) (.cons (.leaf (.int .i64)) (.cons (.leaf (.int .i64)) (.cons (.leaf (.int .i64)) (.cons (.leaf (.int .i64)) (.one (.leaf (.int .i64)) []))))))) [])))), (115, .cons (.leaf (.int .i64)) (.cons (.leaf (.int .i64)) (.one (.map 113 true true [.int .i64, .str] [.int .i64, .str, .int .i64, .int .i64]) [])))], [⟨.tup (.cons (.leaf .str) (.one (.leaf .bool) [])), [], []⟩]⟩
noncomputable def nt : Notes := ⟨[], [], [], [], []⟩
noncomputable def cal0 {T : Type} (k : Nat) : List (FuncId × Hd T) := []
theorem cal0_ok {T : Type} (k : Nat) : HdsOk Try.prog (cal0 (T := T) k) := trivial
noncomputable def nt56 : Notes := ⟨[], [], [], [], []⟩
noncomputable def cal1 {T : Type} (k : Nat) : List (FuncId × Hd T) := (56, inlH tab (calOf (cal0 k)) Go.Proofs.Try.f56 nt56 k) :: cal0 k
theorem cal1_ok {T : Type} (k : Nat) : HdsOk Try.prog (cal1 (T := T) k) := ⟨inlH_ok tab_ok (calOf_ok (cal0_ok k)) mixed Try.func56 nt56 k Try.call56, cal0_ok k⟩
noncomputable def nt31 : Notes := ⟨[], [], [], [], []⟩
noncomputable def cal2 {T : Type} (k : Nat) : List (FuncId × Hd T) := (31, inlH tab (calOf (cal1 k)) Go.Proofs.Try.f31 nt31 k) :: cal1 k
theorem cal2_ok {T : Type} (k : Nat) : HdsOk Try.prog (cal2 (T := T) k) := ⟨inlH_ok tab_ok (calOf_ok (cal1_ok k)) mixed Try.func31 nt31 k Try.call31, cal1_ok k⟩
noncomputable def cal {T : Type} (k : Nat) : List (FuncId × Hd T) := cal2 k
theorem cal_ok {T : Type} (k : Nat) : HdsOk Try.prog (cal (T := T) k) := cal2_ok k
noncomputable def S (k : Nat) (a1 : Int) (g0 : TY9 × TY6 × TY7) (g1 : Int × Int × TY0) : O ((ByteArray × Bool) × TY2 × TY3) :=
  O.cond (decide (a1 < (0 : Int))) (
   .ok (((⟨#[]⟩ : ByteArray), false), (g0, g1))) (
   O.cond (decide (a1 ≥ (List.length g0.1 : Int))) (
    .ok (((⟨#[]⟩ : ByteArray), false), (g0, g1))) (
    O.chk (decide (0 ≤ a1 ∧ a1 < (List.length g0.2.1 : Int))) (
     O.chk (decide (0 ≤ a1 ∧ a1 < (List.length g0.2.1 : Int))) (
      O.cond (decide ((List.length ((gt ([], (0 : Int), (0 : Int)) g0.2.1 a1).1) : Int) = (0 : Int))) (
       .ok (((⟨#[]⟩ : ByteArray), false), ((g0.1, (su g0.2.1 a1 (gt ([], (0 : Int), (0 : Int)) g0.2.1 a1)), g0.2.2), g1))) (
       O.chk (decide (0 ≤ (0 : Int) ∧ (0 : Int) < (List.length ((gt ([], (0 : Int), (0 : Int)) g0.2.1 a1).1) : Int) ∧ (List.length ((gt ([], (0 : Int), (0 : Int)) g0.2.1 a1).1) : Int) ≤ (List.length ((gt ([], (0 : Int), (0 : Int)) g0.2.1 a1).1) : Int))) (
        O.chk (decide (0 ≤ (0 : Int) ∧ (0 : Int) < (List.length ((gt ([], (0 : Int), (0 : Int)) g0.2.1 a1).1) : Int))) (
         O.chk (decide (0 ≤ (1 : Int) ∧ (1 : Int) ≤ (List.length ((gt ([], (0 : Int), (0 : Int)) g0.2.1 a1).1) : Int)) && (decide (0 ≤ (List.length ((gt ([], (0 : Int), (0 : Int)) g0.2.1 a1).1) : Int) ∧ (List.length ((gt ([], (0 : Int), (0 : Int)) g0.2.1 a1).1) : Int) ≤ (List.length ((gt ([], (0 : Int), (0 : Int)) g0.2.1 a1).1) : Int)))) (
          O.chk (posI [(1 : Int)] && decide (0 ≤ ((List.length ((gt ([], (0 : Int), (0 : Int)) g0.2.1 a1).1) : Int) - (1 : Int)) ∧ sumI [(1 : Int)] + ((List.length ((gt ([], (0 : Int), (0 : Int)) g0.2.1 a1).1) : Int) - (1 : Int)) ≤ (List.length ((gt ([], (0 : Int), (0 : Int)) g0.2.1 a1).1) : Int))) (
           O.cond (decide (0 < ((List.length ((gt ([], (0 : Int), (0 : Int)) g0.2.1 a1).1) : Int) - (1 : Int)))) (
            O.cond false (
             .ok (((gt ByteArray.empty ((gt ([], (0 : Int), (0 : Int)) g0.2.1 a1).1) (0 : Int)), true), ((g0.1, (su g0.2.1 a1 ([], (gt ([], (0 : Int), (0 : Int)) g0.2.1 a1).2.1, (gt ([], (0 : Int), (0 : Int)) g0.2.1 a1).2.2)), g0.2.2), g1))) (
             O.chk (posI [(1 : Int)] && decide (0 ≤ ((List.length ((gt ([], (0 : Int), (0 : Int)) g0.2.1 a1).1) : Int) - (1 : Int)) ∧ sumI [(1 : Int)] + ((List.length ((gt ([], (0 : Int), (0 : Int)) g0.2.1 a1).1) : Int) - (1 : Int)) ≤ (List.length ((gt ([], (0 : Int), (0 : Int)) g0.2.1 a1).1) : Int))) (
              O.chk (decide ((0 : Nat) + List.length (sub ((gt ([], (0 : Int), (0 : Int)) g0.2.1 a1).1) (sumI [(1 : Int)]) ((List.length ((gt ([], (0 : Int), (0 : Int)) g0.2.1 a1).1) : Int) - (1 : Int))) ≤ 1073741824)) (
               .ok (((gt ByteArray.empty ((gt ([], (0 : Int), (0 : Int)) g0.2.1 a1).1) (0 : Int)), true), ((g0.1, (su g0.2.1 a1 (([] ++ (sub ((gt ([], (0 : Int), (0 : Int)) g0.2.1 a1).1) (sumI [(1 : Int)]) ((List.length ((gt ([], (0 : Int), (0 : Int)) g0.2.1 a1).1) : Int) - (1 : Int)))), (gt ([], (0 : Int), (0 : Int)) g0.2.1 a1).2.1, (gt ([], (0 : Int), (0 : Int)) g0.2.1 a1).2.2)), g0.2.2), g1)))))) (
            O.same (
             O.cond true (
              .ok (((gt ByteArray.empty ((gt ([], (0 : Int), (0 : Int)) g0.2.1 a1).1) (0 : Int)), true), ((g0.1, (su g0.2.1 a1 ([], (gt ([], (0 : Int), (0 : Int)) g0.2.1 a1).2.1, (gt ([], (0 : Int), (0 : Int)) g0.2.1 a1).2.2)), g0.2.2), g1))) (
              O.chk (posI [(1 : Int)] && decide (0 ≤ ((List.length ((gt ([], (0 : Int), (0 : Int)) g0.2.1 a1).1) : Int) - (1 : Int)) ∧ sumI [(1 : Int)] + ((List.length ((gt ([], (0 : Int), (0 : Int)) g0.2.1 a1).1) : Int) - (1 : Int)) ≤ (List.length ((gt ([], (0 : Int), (0 : Int)) g0.2.1 a1).1) : Int))) (
               O.chk (decide ((0 : Nat) + List.length (sub ((gt ([], (0 : Int), (0 : Int)) g0.2.1 a1).1) (sumI [(1 : Int)]) ((List.length ((gt ([], (0 : Int), (0 : Int)) g0.2.1 a1).1) : Int) - (1 : Int))) ≤ 1073741824)) (
                .ok (((gt ByteArray.empty ((gt ([], (0 : Int), (0 : Int)) g0.2.1 a1).1) (0 : Int)), true), ((g0.1, (su g0.2.1 a1 (([] ++ (sub ((gt ([], (0 : Int), (0 : Int)) g0.2.1 a1).1) (sumI [(1 : Int)]) ((List.length ((gt ([], (0 : Int), (0 : Int)) g0.2.1 a1).1) : Int) - (1 : Int)))), (gt ([], (0 : Int), (0 : Int)) g0.2.1 a1).2.1, (gt ([], (0 : Int), (0 : Int)) g0.2.1 a1).2.2)), g0.2.2), g1)))))) (
             O.cond false (
              .ok (((gt ByteArray.empty ((gt ([], (0 : Int), (0 : Int)) g0.2.1 a1).1) (0 : Int)), true), ((g0.1, (su g0.2.1 a1 ([], (gt ([], (0 : Int), (0 : Int)) g0.2.1 a1).2.1, (gt ([], (0 : Int), (0 : Int)) g0.2.1 a1).2.2)), g0.2.2), g1))) (
              O.chk (posI [(1 : Int)] && decide (0 ≤ ((List.length ((gt ([], (0 : Int), (0 : Int)) g0.2.1 a1).1) : Int) - (1 : Int)) ∧ sumI [(1 : Int)] + ((List.length ((gt ([], (0 : Int), (0 : Int)) g0.2.1 a1).1) : Int) - (1 : Int)) ≤ (List.length ((gt ([], (0 : Int), (0 : Int)) g0.2.1 a1).1) : Int))) (
               O.chk (decide ((0 : Nat) + List.length (sub ((gt ([], (0 : Int), (0 : Int)) g0.2.1 a1).1) (sumI [(1 : Int)]) ((List.length ((gt ([], (0 : Int), (0 : Int)) g0.2.1 a1).1) : Int) - (1 : Int))) ≤ 1073741824)) (
                .ok (((gt ByteArray.empty ((gt ([], (0 : Int), (0 : Int)) g0.2.1 a1).1) (0 : Int)), true), ((g0.1, (su g0.2.1 a1 (([] ++ (sub ((gt ([], (0 : Int), (0 : Int)) g0.2.1 a1).1) (sumI [(1 : Int)]) ((List.length ((gt ([], (0 : Int), (0 : Int)) g0.2.1 a1).1) : Int) - (1 : Int)))), (gt ([], (0 : Int), (0 : Int)) g0.2.1 a1).2.1, (gt ([], (0 : Int), (0 : Int)) g0.2.1 a1).2.2)), g0.2.2), g1))))))))))))))))
theorem eq (k : Nat) (a1 : Int) (g0 : TY9 × TY6 × TY7) (g1 : Int × Int × TY0) : evFn (T := (ByteArray × Bool) × TY2 × TY3) tab (calOf (cal k)) Go.Proofs.Try.f11 nt k 2 [.ptr 0 0, .int .i64 a1] [] ⟨7, false, [(1, .cells 115 [.int .i64 g1.1, .int .i64 g1.2.1, .mp 6]), (6, .map 113 true true [.int .i64, .str] [.int .i64, .str, .int .i64, .int .i64] g1.2.2), (0, .cells 71 [.osl 3, .ptr 1 0, .osl 5, .int .i64 g0.2.2.1, .int .i64 g0.2.2.2.1, .int .i64 g0.2.2.2.2.1, .int .i64 g0.2.2.2.2.2.1, .int .i64 g0.2.2.2.2.2.2.1, .int .i64 g0.2.2.2.2.2.2.2]), (5, .tab true 78 [] 4 (.one (.box 121 (.cons (.row true 9 [.str]) (.cons (.leaf (.int .i64)) (.one (.leaf (.int .i64)) [])))) []) g0.2.1), (4, .ghost), (3, .tab false 55 [] 2 (.cons (.leaf (.int .i64)) (.one (.row false 3 [.int .i64]) [])) g0.1), (2, .ghost)]⟩ (fun v st => outK ct.ob (γ0 ct) ct.outs v st .ok) (fun e st => outP ct.ob (γ0 ct) ct.outs e st .ok) = S k a1 g0 g1 := by kernel_rfl
theorem ok (k : Nat) : FnOkC Try.prog 11 ct (fun (x : Int) (g : TY2 × TY3) => S k x g.1 g.2) :=
  FnOkC.of_ev (C := ct) tab_ok rfl (calOf_ok (cal_ok k)) mixed Try.func11 nt k (fun _ _ => rfl) (fun (x : Int) (g : TY2 × TY3) => eq k x g.1 g.2)
theorem hd {T : Type} (k : Nat) : HdOk Try.prog 11 (pureC (T := T) ct [.arg 0 0, .fld 0 1] (fun (x : Int) (g : TY2 × TY3) => S k x g.1 g.2)) :=
  pureC_ok rfl [.arg 0 0, .fld 0 1] (ok k) Try.call11
end F_bridge_Bridge_Out
namespace F_bridge_may
/-! ### aqueduct/bridge.may: function 34 -/
noncomputable def ct : Ct := ⟨.some (.one (.agg (.cons (.leaf (.int .i64)) (.one (.row false 3 [.int .i64]) []))) []), [], [⟨.val (.leaf .bool), [], []⟩]⟩
noncomputable def nt : Notes := ⟨[(3, ⟨[1, 3, 7, 8, 9], []⟩)], [], [], [], []⟩
noncomputable def cal0 {T : Type} (k : Nat) : List (FuncId × Hd T) := []
theorem cal0_ok {T : Type} (k : Nat) : HdsOk Try.prog (cal0 (T := T) k) := trivial
noncomputable def cal {T : Type} (k : Nat) : List (FuncId × Hd T) := cal0 k
theorem cal_ok {T : Type} (k : Nat) : HdsOk Try.prog (cal (T := T) k) := cal0_ok k
noncomputable abbrev la (k : Nat) (Rs : List (Fr → St → O (Bool))) (ds : List Dir) (j : Nat) : Fr → St → O (Bool) := loopAt tab (calOf (cal k)) Go.Proofs.Try.f34.ntmps nt k Rs ds (bodyOf Go.Proofs.Try.f34) (finK tab Go.Proofs.Try.f34.results.toList (fun v st => outK ct.ob (γ0 ct) ct.outs v st .ok) (fun e st => outP ct.ob (γ0 ct) ct.outs e st .ok)) j
noncomputable def l0_b (k : Nat) (a0 : Int × List Int) (R_l0 : Int → Int → O Bool) (v1 : Int) (v2 : Int) : O Bool :=
  O.cond (decide (v2 < (List.length a0.2 : Int))) (
   O.chk (decide (0 ≤ v2 ∧ v2 < (List.length a0.2 : Int) ∧ (List.length a0.2 : Int) ≤ (List.length a0.2 : Int))) (
    O.chk (decide (0 ≤ v2 ∧ v2 < (List.length a0.2 : Int))) (
     O.cond (decide ((gt (0 : Int) a0.2 v2) ≤ v1)) (
      .ok false) (
      O.cond (decide ((gt (0 : Int) a0.2 v2) > (4094 : Int))) (
       .ok false) (
       R_l0 (gt (0 : Int) a0.2 v2) (IntKind.i64.wrap (v2 + (1 : Int)))))))) (
   O.cond (decide (a0.1 ≥ (0 : Int))) (
    .ok (decide (a0.1 ≤ (4094 : Int)))) (
    .ok false))
noncomputable def l0 (k : Nat) (a0 : Int × List Int) : Nat → Int → Int → O Bool
  | 0, _, _ => .no
  | j + 1, v1, v2 => l0_b k a0 (l0 k a0 j) v1 v2
theorem l0_eq (k : Nat) (a0 : Int × List Int) : ∀ (j : Nat) (v1 : Int) (v2 : Int), la k [] [.r, .r, .l, .r, .b] j ⟨[(1, .ptr 0 0), (3, .int .i64 v1), (7, .osl 1), (8, .int .i64 (List.length a0.2 : Int)), (9, .int .i64 v2)], [], 0, []⟩ ⟨2, true, [(0, .cells 55 [.int .i64 a0.1, .osl 1]), (1, .row false 3 [.int .i64] a0.2)]⟩ = l0 k a0 j v1 v2 := by
  intro j
  induction j with
  | zero => intro v1 v2; rfl
  | succ j ih =>
    intro v1 v2
    have rs : (fun (v1' : Int) (v2' : Int) => la k [] [.r, .r, .l, .r, .b] j ⟨[(1, .ptr 0 0), (3, .int .i64 v1'), (7, .osl 1), (8, .int .i64 (List.length a0.2 : Int)), (9, .int .i64 v2')], [], 0, []⟩ ⟨2, true, [(0, .cells 55 [.int .i64 a0.1, .osl 1]), (1, .row false 3 [.int .i64] a0.2)]⟩) = l0 k a0 j := by funext v1' v2'; exact ih v1' v2'
    have h : la k [] [.r, .r, .l, .r, .b] (j + 1) ⟨[(1, .ptr 0 0), (3, .int .i64 v1), (7, .osl 1), (8, .int .i64 (List.length a0.2 : Int)), (9, .int .i64 v2)], [], 0, []⟩ ⟨2, true, [(0, .cells 55 [.int .i64 a0.1, .osl 1]), (1, .row false 3 [.int .i64] a0.2)]⟩ = l0_b k a0 ((fun (v1' : Int) (v2' : Int) => la k [] [.r, .r, .l, .r, .b] j ⟨[(1, .ptr 0 0), (3, .int .i64 v1'), (7, .osl 1), (8, .int .i64 (List.length a0.2 : Int)), (9, .int .i64 v2')], [], 0, []⟩ ⟨2, true, [(0, .cells 55 [.int .i64 a0.1, .osl 1]), (1, .row false 3 [.int .i64] a0.2)]⟩)) v1 v2 := by kernel_rfl
    exact h.trans (by rw [rs]; rfl)
noncomputable def top (k : Nat) (a0 : Int × List Int) (D_l0 : Int → Int → O Bool) : O Bool :=
  D_l0 (-1 : Int) (0 : Int)
noncomputable def S (k : Nat) (a0 : Int × List Int) : O Bool := top k a0 ((fun (v1 : Int) (v2 : Int) => l0 k a0 k v1 v2))
theorem eq (k : Nat) (a0 : Int × List Int) : evFn (T := Bool) tab (calOf (cal k)) Go.Proofs.Try.f34 nt k 0 [.agg [.int .i64 a0.1, .osl 0]] [] ⟨1, false, [(0, .row false 3 [.int .i64] a0.2)]⟩ (fun v st => outK ct.ob (γ0 ct) ct.outs v st .ok) (fun e st => outP ct.ob (γ0 ct) ct.outs e st .ok) = S k a0 := by
  have e0 : (fun (v1 : Int) (v2 : Int) => la k [] [.r, .r, .l, .r, .b] k ⟨[(1, .ptr 0 0), (3, .int .i64 v1), (7, .osl 1), (8, .int .i64 (List.length a0.2 : Int)), (9, .int .i64 v2)], [], 0, []⟩ ⟨2, true, [(0, .cells 55 [.int .i64 a0.1, .osl 1]), (1, .row false 3 [.int .i64] a0.2)]⟩) = (fun (v1 : Int) (v2 : Int) => l0 k a0 k v1 v2) := by funext v1 v2; exact l0_eq k a0 k v1 v2
  have h : evFn (T := Bool) tab (calOf (cal k)) Go.Proofs.Try.f34 nt k 0 [.agg [.int .i64 a0.1, .osl 0]] [] ⟨1, false, [(0, .row false 3 [.int .i64] a0.2)]⟩ (fun v st => outK ct.ob (γ0 ct) ct.outs v st .ok) (fun e st => outP ct.ob (γ0 ct) ct.outs e st .ok) = top k a0 ((fun (v1 : Int) (v2 : Int) => la k [] [.r, .r, .l, .r, .b] k ⟨[(1, .ptr 0 0), (3, .int .i64 v1), (7, .osl 1), (8, .int .i64 (List.length a0.2 : Int)), (9, .int .i64 v2)], [], 0, []⟩ ⟨2, true, [(0, .cells 55 [.int .i64 a0.1, .osl 1]), (1, .row false 3 [.int .i64] a0.2)]⟩)) := by kernel_rfl
  exact h.trans (by rw [e0]; rfl)
theorem ok (k : Nat) : FnOkC Try.prog 34 ct (fun (x : Int × List Int) (_ : Unit) => S k x) :=
  FnOkC.of_ev (C := ct) tab_ok rfl (calOf_ok (cal_ok k)) mixed Try.func34 nt k (fun _ _ => rfl) (fun (x : Int × List Int) (_ : Unit) => eq k x)
theorem hd {T : Type} (k : Nat) : HdOk Try.prog 34 (pureC (T := T) ct [] (fun (x : Int × List Int) (_ : Unit) => S k x)) :=
  pureC_ok rfl [] (ok k) Try.call34
end F_bridge_may
namespace F_slices_Clone_int_int
/-! ### slices.Clone[[]int,int]: function 35 -/
noncomputable def ct : Ct := ⟨.some (.one (.row false 3 [.int .i64]) []), [], [⟨.val (.row true 3 [.int .i64]), [], []⟩]⟩
noncomputable def nt : Notes := ⟨[], [], [], [], []⟩
noncomputable def cal0 {T : Type} (k : Nat) : List (FuncId × Hd T) := []
theorem cal0_ok {T : Type} (k : Nat) : HdsOk Try.prog (cal0 (T := T) k) := trivial
noncomputable def cal {T : Type} (k : Nat) : List (FuncId × Hd T) := cal0 k
theorem cal_ok {T : Type} (k : Nat) : HdsOk Try.prog (cal (T := T) k) := cal0_ok k
noncomputable def S (k : Nat) (a0 : List Int) : O (List Int) :=
  O.cond (decide (0 < (List.length a0 : Int))) (
   O.cond false (
    .ok []) (
    O.chk (decide ((0 : Nat) + List.length a0 ≤ 1073741824)) (
     .ok ([] ++ a0)))) (
   O.same (
    O.cond true (
     .ok []) (
     O.chk (decide ((0 : Nat) + List.length a0 ≤ 1073741824)) (
      .ok ([] ++ a0)))) (
    O.cond false (
     .ok []) (
     O.chk (decide ((0 : Nat) + List.length a0 ≤ 1073741824)) (
      .ok ([] ++ a0)))))
theorem eq (k : Nat) (a0 : List Int) : evFn (T := List Int) tab (calOf (cal k)) Go.Proofs.Try.f35 nt k 0 [.osl 0] [] ⟨1, false, [(0, .row false 3 [.int .i64] a0)]⟩ (fun v st => outK ct.ob (γ0 ct) ct.outs v st .ok) (fun e st => outP ct.ob (γ0 ct) ct.outs e st .ok) = S k a0 := by kernel_rfl
theorem ok (k : Nat) : FnOkC Try.prog 35 ct (fun (x : List Int) (_ : Unit) => S k x) :=
  FnOkC.of_ev (C := ct) tab_ok rfl (calOf_ok (cal_ok k)) mixed Try.func35 nt k (fun _ _ => rfl) (fun (x : List Int) (_ : Unit) => eq k x)
theorem hd {T : Type} (k : Nat) : HdOk Try.prog 35 (pureC (T := T) ct [] (fun (x : List Int) (_ : Unit) => S k x)) :=
  pureC_ok rfl [] (ok k) Try.call35
end F_slices_Clone_int_int
namespace F_lane_New_string
/-! ### aqueduct/lane.New[string]: function 58 -/
noncomputable def ct : Ct := ⟨.some (.one (.leaf (.int .i64)) []), [], [⟨.tup (.pin (.nil) (.one (.leaf (.int .i64)) [])), [], []⟩, ⟨.tup (.pin (.ref 0) (.one (.leaf (.int .i64)) [])), [(121, .cons (.row true 9 [.str]) (.cons (.leaf (.int .i64)) (.one (.leaf (.int .i64)) [])))], [.arg 0 0]⟩]⟩
noncomputable def nt : Notes := ⟨[], [], [], [], []⟩
noncomputable def cal0 {T : Type} (k : Nat) : List (FuncId × Hd T) := []
theorem cal0_ok {T : Type} (k : Nat) : HdsOk Try.prog (cal0 (T := T) k) := trivial
noncomputable def cal {T : Type} (k : Nat) : List (FuncId × Hd T) := cal0 k
theorem cal_ok {T : Type} (k : Nat) : HdsOk Try.prog (cal (T := T) k) := cal0_ok k
noncomputable def S (k : Nat) (a0 : Int) : O (Int ⊕ (Int × List ByteArray × Int × Int)) :=
  O.cond (decide (a0 < (1 : Int))) (
   .ok (.inl (190 : Int))) (
   O.cond (decide (a0 > (1024 : Int))) (
    .ok (.inl (190 : Int))) (
    .ok (.inr ((0 : Int), ([], a0, (0 : Int))))))
theorem eq (k : Nat) (a0 : Int) : evFn (T := Int ⊕ (Int × List ByteArray × Int × Int)) tab (calOf (cal k)) Go.Proofs.Try.f58 nt k 0 [.int .i64 a0] [] ⟨0, false, []⟩ (fun v st => outK ct.ob (γ0 ct) ct.outs v st .ok) (fun e st => outP ct.ob (γ0 ct) ct.outs e st .ok) = S k a0 := by kernel_rfl
theorem ok (k : Nat) : FnOkC Try.prog 58 ct (fun (x : Int) (_ : Unit) => S k x) :=
  FnOkC.of_ev (C := ct) tab_ok rfl (calOf_ok (cal_ok k)) mixed Try.func58 nt k (fun _ _ => rfl) (fun (x : Int) (_ : Unit) => eq k x)
theorem hd {T : Type} (k : Nat) : HdOk Try.prog 58 (pureC (T := T) ct [] (fun (x : Int) (_ : Unit) => S k x)) :=
  pureC_ok rfl [] (ok k) Try.call58
end F_lane_New_string
namespace F_lane_Texts
/-! ### aqueduct/lane.Texts: function 37 -/
noncomputable def ct : Ct := ⟨.some (.one (.leaf (.int .i64)) []), [], [⟨.tup (.pin (.nil) (.one (.leaf (.int .i64)) [])), [], []⟩, ⟨.tup (.pin (.ref 0) (.one (.leaf (.int .i64)) [])), [(121, .cons (.row true 9 [.str]) (.cons (.leaf (.int .i64)) (.one (.leaf (.int .i64)) [])))], [.arg 0 0]⟩]⟩
noncomputable def nt : Notes := ⟨[], [], [], [], []⟩
noncomputable def cal0 {T : Type} (k : Nat) : List (FuncId × Hd T) := [(58, pureC F_lane_New_string.ct [] (fun (x : Int) (_ : Unit) => F_lane_New_string.S k x))]
theorem cal0_ok {T : Type} (k : Nat) : HdsOk Try.prog (cal0 (T := T) k) := ⟨F_lane_New_string.hd k, trivial⟩
noncomputable def cal {T : Type} (k : Nat) : List (FuncId × Hd T) := cal0 k
theorem cal_ok {T : Type} (k : Nat) : HdsOk Try.prog (cal (T := T) k) := cal0_ok k
noncomputable def S (k : Nat) (a0 : Int) : O (Int ⊕ (Int × List ByteArray × Int × Int)) :=
  O.sum (F_lane_New_string.S k a0) (fun r1 =>
   .ok (.inl r1)) fun r2 =>
  .ok (.inr (r2.1, r2.2))
theorem eq (k : Nat) (a0 : Int) : evFn (T := Int ⊕ (Int × List ByteArray × Int × Int)) tab (calOf (cal k)) Go.Proofs.Try.f37 nt k 0 [.int .i64 a0] [] ⟨0, false, []⟩ (fun v st => outK ct.ob (γ0 ct) ct.outs v st .ok) (fun e st => outP ct.ob (γ0 ct) ct.outs e st .ok) = S k a0 := by kernel_rfl
theorem ok (k : Nat) : FnOkC Try.prog 37 ct (fun (x : Int) (_ : Unit) => S k x) :=
  FnOkC.of_ev (C := ct) tab_ok rfl (calOf_ok (cal_ok k)) mixed Try.func37 nt k (fun _ _ => rfl) (fun (x : Int) (_ : Unit) => eq k x)
theorem hd {T : Type} (k : Nat) : HdOk Try.prog 37 (pureC (T := T) ct [] (fun (x : Int) (_ : Unit) => S k x)) :=
  pureC_ok rfl [] (ok k) Try.call37
end F_lane_Texts
namespace F_bridge_New
/-! ### aqueduct/bridge.New: function 14 -/
noncomputable def ct : Ct := ⟨.some (.cons (.tab false 55 (.cons (.leaf (.int .i64)) (.one (.row false 3 [.int .i64]) []))) (.cons (.leaf (.int .i64)) (.cons (.leaf (.int .i64)) (.one (.leaf (.int .i64)) [])))), [], [⟨.tup (.pin (.nil) (.one (.leaf (.int .i64)) [])), [], []⟩, ⟨.tup (.pin (.ref 0) (.one (.leaf (.int .i64)) [])), [(71, .cons (.tab false 55 (.cons (.leaf (.int .i64)) (.one (.row false 3 [.int .i64]) []))) (.pin (.ref 1) (.cons (.tab true 78 (.one (.box 121 (.cons (.row true 9 [.str]) (.cons (.leaf (.int .i64)) (.one (.leaf (.int .i64)) [])))) [])) (.one (.agg (.cons (.leaf (.int .i64)) (.cons (.leaf (.int .i64)) (.cons (.leaf (.int .i64)) (.cons (.leaf (.int .i64)) (.cons (.leaf (.int .i64)) (.one (.leaf (.int .i64)) []))))))) [])))), (115, .cons (.leaf (.int .i64)) (.cons (.leaf (.int .i64)) (.one (.map 113 true true [.int .i64, .str] [.int .i64, .str, .int .i64, .int .i64]) [])))], [.arg 0 0, .fld 0 1]⟩]⟩
noncomputable def nt : Notes := ⟨[(5, ⟨[0, 1, 2, 3, 10, 27, 28, 29], [(.slot 10 [0], 55, .tb (.cons (.leaf (.int .i64)) (.one (.row false 3 [.int .i64]) [])))]⟩), (16, ⟨[3, 10, 66, 67], [(.slot 10 [2], 78, .tb (.one (.box 121 (.cons (.row true 9 [.str]) (.cons (.leaf (.int .i64)) (.one (.leaf (.int .i64)) [])))) []))]⟩), (16, ⟨[3, 10, 66, 67], [(.slot 10 [2], 78, .tb (.one (.box 121 (.cons (.row true 9 [.str]) (.cons (.leaf (.int .i64)) (.one (.leaf (.int .i64)) [])))) []))]⟩)], [], [(9, [0, 1, 2, 3, 4, 5, 6, 7, 8, 9, 10, 11, 12, 13, 14, 15])], [], []⟩
noncomputable def cal0 {T : Type} (k : Nat) : List (FuncId × Hd T) := [(34, pureC F_bridge_may.ct [] (fun (x : Int × List Int) (_ : Unit) => F_bridge_may.S k x)), (35, pureC F_slices_Clone_int_int.ct [] (fun (x : List Int) (_ : Unit) => F_slices_Clone_int_int.S k x)), (36, pureC F_fdb_New.ct [] (fun (x : Int × Int) (_ : Unit) => F_fdb_New.S k x.1 x.2)), (37, pureC F_lane_Texts.ct [] (fun (x : Int) (_ : Unit) => F_lane_Texts.S k x))]
theorem cal0_ok {T : Type} (k : Nat) : HdsOk Try.prog (cal0 (T := T) k) := ⟨F_bridge_may.hd k, F_slices_Clone_int_int.hd k, F_fdb_New.hd k, F_lane_Texts.hd k, trivial⟩
noncomputable def cal {T : Type} (k : Nat) : List (FuncId × Hd T) := cal0 k
theorem cal_ok {T : Type} (k : Nat) : HdsOk Try.prog (cal (T := T) k) := cal0_ok k
noncomputable abbrev la (k : Nat) (Rs : List (Fr → St → O (Int ⊕ TY11))) (ds : List Dir) (j : Nat) : Fr → St → O (Int ⊕ TY11) := loopAt tab (calOf (cal k)) Go.Proofs.Try.f14.ntmps nt k Rs ds (bodyOf Go.Proofs.Try.f14) (finK tab Go.Proofs.Try.f14.results.toList (fun v st => outK ct.ob (γ0 ct) ct.outs v st .ok) (fun e st => outP ct.ob (γ0 ct) ct.outs e st .ok)) j
noncomputable def l1_b (k : Nat) (a0 : List (Int × List Int)) (a3 : Int) (v16 : List (Int × List Int)) (R_l0 : Int → TY9 → O (Int ⊕ TY11)) (R_l1 : Int → TY6 → O (Int ⊕ TY11)) (v29 : Int) (v30 : List TY8) : O (Int ⊕ TY11) :=
  O.cond (decide (v29 < (List.length a0 : Int))) (
   O.sum (F_lane_Texts.S k a3) (fun r33 =>
    O.cond (decide (r33 ≠ (0 : Int))) (
     .ok (.inl r33)) (
     .no)) fun r34 =>
   O.cond (decide (r34.1 ≠ (0 : Int))) (
    .ok (.inl r34.1)) (
    O.chk (decide (List.length v30 + 1 ≤ 1073741824)) (
     R_l1 (IntKind.i64.wrap (v29 + (1 : Int))) (v30 ++ [r34.2])))) (
   .no)
noncomputable def l1 (k : Nat) (a0 : List (Int × List Int)) (a3 : Int) (v16 : List (Int × List Int)) (R_l0 : Int → TY9 → O (Int ⊕ TY11)) : Nat → Int → TY6 → O (Int ⊕ TY11)
  | 0, _, _ => .no
  | j + 1, v29, v30 => l1_b k a0 a3 v16 R_l0 (l1 k a0 a3 v16 R_l0 j) v29 v30
theorem l1_eq (k : Nat) (a0 : List (Int × List Int)) (a3 : Int) (v16 : List (Int × List Int)) (a1 : Int) (a2 : Int) (RR_l0 : Fr → St → O (Int ⊕ TY11)) (R_l0 : Int → TY9 → O (Int ⊕ TY11)) (hR_l0 : ∀ (v15' : Int) (v16' : List (Int × List Int)), RR_l0 ⟨[(0, .osl 0), (1, .int .i64 a1), (2, .int .i64 a2), (3, .int .i64 a3), (10, .ptr 1 0), (27, .osl 0), (28, .int .i64 (List.length a0 : Int)), (29, .int .i64 v15')], [], 0, []⟩ ⟨5, true, [(0, .tab false 55 [] 2 (.cons (.leaf (.int .i64)) (.one (.row false 3 [.int .i64]) [])) a0), (1, .cells 71 [.osl 3, .nilp, .nilsl, .int .i64 (0 : Int), .int .i64 (0 : Int), .int .i64 (0 : Int), .int .i64 (0 : Int), .int .i64 (0 : Int), .int .i64 (0 : Int)]), (2, .ghost), (3, .tab true 55 [] 4 (.cons (.leaf (.int .i64)) (.one (.row false 3 [.int .i64]) [])) v16'), (4, .ghost)]⟩ = R_l0 v15' v16') : ∀ (j : Nat) (v29 : Int) (v30 : List TY8), la k [] [.r, .r, .r, .r, .r, .r, .r, .l, .r, .b] j ⟨[(3, .int .i64 a3), (10, .ptr 0 0), (66, .int .i64 (List.length a0 : Int)), (67, .int .i64 v29)], [], 0, []⟩ ⟨5, true, [(0, .cells 71 [.osl 1, .nilp, .osl 2, .int .i64 (0 : Int), .int .i64 (0 : Int), .int .i64 (0 : Int), .int .i64 (0 : Int), .int .i64 (0 : Int), .int .i64 (0 : Int)]), (1, .tab true 55 [] 3 (.cons (.leaf (.int .i64)) (.one (.row false 3 [.int .i64]) [])) v16), (2, .tab true 78 [] 4 (.one (.box 121 (.cons (.row true 9 [.str]) (.cons (.leaf (.int .i64)) (.one (.leaf (.int .i64)) [])))) []) v30), (3, .ghost), (4, .ghost)]⟩ = l1 k a0 a3 v16 R_l0 j v29 v30 := by
  intro j
  induction j with
  | zero => intro v29 v30; rfl
  | succ j ih =>
    intro v29 v30
    have rs : (fun (v29' : Int) (v30' : List TY8) => la k [] [.r, .r, .r, .r, .r, .r, .r, .l, .r, .b] j ⟨[(3, .int .i64 a3), (10, .ptr 0 0), (66, .int .i64 (List.length a0 : Int)), (67, .int .i64 v29')], [], 0, []⟩ ⟨5, true, [(0, .cells 71 [.osl 1, .nilp, .osl 2, .int .i64 (0 : Int), .int .i64 (0 : Int), .int .i64 (0 : Int), .int .i64 (0 : Int), .int .i64 (0 : Int), .int .i64 (0 : Int)]), (1, .tab true 55 [] 3 (.cons (.leaf (.int .i64)) (.one (.row false 3 [.int .i64]) [])) v16), (2, .tab true 78 [] 4 (.one (.box 121 (.cons (.row true 9 [.str]) (.cons (.leaf (.int .i64)) (.one (.leaf (.int .i64)) [])))) []) v30'), (3, .ghost), (4, .ghost)]⟩) = l1 k a0 a3 v16 R_l0 j := by funext v29' v30'; exact ih v29' v30'
    have r0 : (fun (v15' : Int) (v16' : List (Int × List Int)) => RR_l0 ⟨[(0, .osl 0), (1, .int .i64 a1), (2, .int .i64 a2), (3, .int .i64 a3), (10, .ptr 1 0), (27, .osl 0), (28, .int .i64 (List.length a0 : Int)), (29, .int .i64 v15')], [], 0, []⟩ ⟨5, true, [(0, .tab false 55 [] 2 (.cons (.leaf (.int .i64)) (.one (.row false 3 [.int .i64]) [])) a0), (1, .cells 71 [.osl 3, .nilp, .nilsl, .int .i64 (0 : Int), .int .i64 (0 : Int), .int .i64 (0 : Int), .int .i64 (0 : Int), .int .i64 (0 : Int), .int .i64 (0 : Int)]), (2, .ghost), (3, .tab true 55 [] 4 (.cons (.leaf (.int .i64)) (.one (.row false 3 [.int .i64]) [])) v16'), (4, .ghost)]⟩) = R_l0 := by funext v15' v16'; exact hR_l0 v15' v16'
    have h : la k [] [.r, .r, .r, .r, .r, .r, .r, .l, .r, .b] (j + 1) ⟨[(3, .int .i64 a3), (10, .ptr 0 0), (66, .int .i64 (List.length a0 : Int)), (67, .int .i64 v29)], [], 0, []⟩ ⟨5, true, [(0, .cells 71 [.osl 1, .nilp, .osl 2, .int .i64 (0 : Int), .int .i64 (0 : Int), .int .i64 (0 : Int), .int .i64 (0 : Int), .int .i64 (0 : Int), .int .i64 (0 : Int)]), (1, .tab true 55 [] 3 (.cons (.leaf (.int .i64)) (.one (.row false 3 [.int .i64]) [])) v16), (2, .tab true 78 [] 4 (.one (.box 121 (.cons (.row true 9 [.str]) (.cons (.leaf (.int .i64)) (.one (.leaf (.int .i64)) [])))) []) v30), (3, .ghost), (4, .ghost)]⟩ = l1_b k a0 a3 v16 ((fun (v15' : Int) (v16' : List (Int × List Int)) => RR_l0 ⟨[(0, .osl 0), (1, .int .i64 a1), (2, .int .i64 a2), (3, .int .i64 a3), (10, .ptr 1 0), (27, .osl 0), (28, .int .i64 (List.length a0 : Int)), (29, .int .i64 v15')], [], 0, []⟩ ⟨5, true, [(0, .tab false 55 [] 2 (.cons (.leaf (.int .i64)) (.one (.row false 3 [.int .i64]) [])) a0), (1, .cells 71 [.osl 3, .nilp, .nilsl, .int .i64 (0 : Int), .int .i64 (0 : Int), .int .i64 (0 : Int), .int .i64 (0 : Int), .int .i64 (0 : Int), .int .i64 (0 : Int)]), (2, .ghost), (3, .tab true 55 [] 4 (.cons (.leaf (.int .i64)) (.one (.row false 3 [.int .i64]) [])) v16'), (4, .ghost)]⟩)) ((fun (v29' : Int) (v30' : List TY8) => la k [] [.r, .r, .r, .r, .r, .r, .r, .l, .r, .b] j ⟨[(3, .int .i64 a3), (10, .ptr 0 0), (66, .int .i64 (List.length a0 : Int)), (67, .int .i64 v29')], [], 0, []⟩ ⟨5, true, [(0, .cells 71 [.osl 1, .nilp, .osl 2, .int .i64 (0 : Int), .int .i64 (0 : Int), .int .i64 (0 : Int), .int .i64 (0 : Int), .int .i64 (0 : Int), .int .i64 (0 : Int)]), (1, .tab true 55 [] 3 (.cons (.leaf (.int .i64)) (.one (.row false 3 [.int .i64]) [])) v16), (2, .tab true 78 [] 4 (.one (.box 121 (.cons (.row true 9 [.str]) (.cons (.leaf (.int .i64)) (.one (.leaf (.int .i64)) [])))) []) v30'), (3, .ghost), (4, .ghost)]⟩)) v29 v30 := by kernel_rfl
    exact h.trans (by rw [rs, r0]; rfl)
noncomputable def l2_b (k : Nat) (a0 : List (Int × List Int)) (a3 : Int) (v16 : List (Int × List Int)) (r24 : Int × Int × Int × TY0) (R_l0 : Int → TY9 → O (Int ⊕ TY11)) (R_l2 : Int → TY6 → O (Int ⊕ TY11)) (v39 : Int) (v40 : List TY8) : O (Int ⊕ TY11) :=
  O.cond (decide (v39 < (List.length a0 : Int))) (
   O.sum (F_lane_Texts.S k a3) (fun r43 =>
    O.cond (decide (r43 ≠ (0 : Int))) (
     .ok (.inl r43)) (
     .no)) fun r44 =>
   O.cond (decide (r44.1 ≠ (0 : Int))) (
    .ok (.inl r44.1)) (
    O.chk (decide (List.length v40 + 1 ≤ 1073741824)) (
     R_l2 (IntKind.i64.wrap (v39 + (1 : Int))) (v40 ++ [r44.2])))) (
   .ok (.inr ((0 : Int), ((v16, v40, ((0 : Int), (0 : Int), (0 : Int), (0 : Int), (0 : Int), (0 : Int))), r24.2))))
noncomputable def l2 (k : Nat) (a0 : List (Int × List Int)) (a3 : Int) (v16 : List (Int × List Int)) (r24 : Int × Int × Int × TY0) (R_l0 : Int → TY9 → O (Int ⊕ TY11)) : Nat → Int → TY6 → O (Int ⊕ TY11)
  | 0, _, _ => .no
  | j + 1, v39, v40 => l2_b k a0 a3 v16 r24 R_l0 (l2 k a0 a3 v16 r24 R_l0 j) v39 v40
theorem l2_eq (k : Nat) (a0 : List (Int × List Int)) (a3 : Int) (v16 : List (Int × List Int)) (r24 : Int × Int × Int × TY0) (a1 : Int) (a2 : Int) (RR_l0 : Fr → St → O (Int ⊕ TY11)) (R_l0 : Int → TY9 → O (Int ⊕ TY11)) (hR_l0 : ∀ (v15' : Int) (v16' : List (Int × List Int)), RR_l0 ⟨[(0, .osl 0), (1, .int .i64 a1), (2, .int .i64 a2), (3, .int .i64 a3), (10, .ptr 1 0), (27, .osl 0), (28, .int .i64 (List.length a0 : Int)), (29, .int .i64 v15')], [], 0, []⟩ ⟨5, true, [(0, .tab false 55 [] 2 (.cons (.leaf (.int .i64)) (.one (.row false 3 [.int .i64]) [])) a0), (1, .cells 71 [.osl 3, .nilp, .nilsl, .int .i64 (0 : Int), .int .i64 (0 : Int), .int .i64 (0 : Int), .int .i64 (0 : Int), .int .i64 (0 : Int), .int .i64 (0 : Int)]), (2, .ghost), (3, .tab true 55 [] 4 (.cons (.leaf (.int .i64)) (.one (.row false 3 [.int .i64]) [])) v16'), (4, .ghost)]⟩ = R_l0 v15' v16') : ∀ (j : Nat) (v39 : Int) (v40 : List TY8), la k [] [.r, .r, .r, .r, .r, .r, .r, .l, .r, .b] j ⟨[(3, .int .i64 a3), (10, .ptr 0 0), (66, .int .i64 (List.length a0 : Int)), (67, .int .i64 v39)], [], 0, []⟩ ⟨7, true, [(0, .cells 71 [.osl 1, .ptr 2 0, .osl 3, .int .i64 (0 : Int), .int .i64 (0 : Int), .int .i64 (0 : Int), .int .i64 (0 : Int), .int .i64 (0 : Int), .int .i64 (0 : Int)]), (1, .tab true 55 [] 4 (.cons (.leaf (.int .i64)) (.one (.row false 3 [.int .i64]) [])) v16), (2, .cells 115 [.int .i64 r24.2.1, .int .i64 r24.2.2.1, .mp 5]), (3, .tab true 78 [] 6 (.one (.box 121 (.cons (.row true 9 [.str]) (.cons (.leaf (.int .i64)) (.one (.leaf (.int .i64)) [])))) []) v40), (4, .ghost), (5, .map 113 true true [.int .i64, .str] [.int .i64, .str, .int .i64, .int .i64] r24.2.2.2), (6, .ghost)]⟩ = l2 k a0 a3 v16 r24 R_l0 j v39 v40 := by
  intro j
  induction j with
  | zero => intro v39 v40; rfl
  | succ j ih =>
    intro v39 v40
    have rs : (fun (v39' : Int) (v40' : List TY8) => la k [] [.r, .r, .r, .r, .r, .r, .r, .l, .r, .b] j ⟨[(3, .int .i64 a3), (10, .ptr 0 0), (66, .int .i64 (List.length a0 : Int)), (67, .int .i64 v39')], [], 0, []⟩ ⟨7, true, [(0, .cells 71 [.osl 1, .ptr 2 0, .osl 3, .int .i64 (0 : Int), .int .i64 (0 : Int), .int .i64 (0 : Int), .int .i64 (0 : Int), .int .i64 (0 : Int), .int .i64 (0 : Int)]), (1, .tab true 55 [] 4 (.cons (.leaf (.int .i64)) (.one (.row false 3 [.int .i64]) [])) v16), (2, .cells 115 [.int .i64 r24.2.1, .int .i64 r24.2.2.1, .mp 5]), (3, .tab true 78 [] 6 (.one (.box 121 (.cons (.row true 9 [.str]) (.cons (.leaf (.int .i64)) (.one (.leaf (.int .i64)) [])))) []) v40'), (4, .ghost), (5, .map 113 true true [.int .i64, .str] [.int .i64, .str, .int .i64, .int .i64] r24.2.2.2), (6, .ghost)]⟩) = l2 k a0 a3 v16 r24 R_l0 j := by funext v39' v40'; exact ih v39' v40'
    have r0 : (fun (v15' : Int) (v16' : List (Int × List Int)) => RR_l0 ⟨[(0, .osl 0), (1, .int .i64 a1), (2, .int .i64 a2), (3, .int .i64 a3), (10, .ptr 1 0), (27, .osl 0), (28, .int .i64 (List.length a0 : Int)), (29, .int .i64 v15')], [], 0, []⟩ ⟨5, true, [(0, .tab false 55 [] 2 (.cons (.leaf (.int .i64)) (.one (.row false 3 [.int .i64]) [])) a0), (1, .cells 71 [.osl 3, .nilp, .nilsl, .int .i64 (0 : Int), .int .i64 (0 : Int), .int .i64 (0 : Int), .int .i64 (0 : Int), .int .i64 (0 : Int), .int .i64 (0 : Int)]), (2, .ghost), (3, .tab true 55 [] 4 (.cons (.leaf (.int .i64)) (.one (.row false 3 [.int .i64]) [])) v16'), (4, .ghost)]⟩) = R_l0 := by funext v15' v16'; exact hR_l0 v15' v16'
    have h : la k [] [.r, .r, .r, .r, .r, .r, .r, .l, .r, .b] (j + 1) ⟨[(3, .int .i64 a3), (10, .ptr 0 0), (66, .int .i64 (List.length a0 : Int)), (67, .int .i64 v39)], [], 0, []⟩ ⟨7, true, [(0, .cells 71 [.osl 1, .ptr 2 0, .osl 3, .int .i64 (0 : Int), .int .i64 (0 : Int), .int .i64 (0 : Int), .int .i64 (0 : Int), .int .i64 (0 : Int), .int .i64 (0 : Int)]), (1, .tab true 55 [] 4 (.cons (.leaf (.int .i64)) (.one (.row false 3 [.int .i64]) [])) v16), (2, .cells 115 [.int .i64 r24.2.1, .int .i64 r24.2.2.1, .mp 5]), (3, .tab true 78 [] 6 (.one (.box 121 (.cons (.row true 9 [.str]) (.cons (.leaf (.int .i64)) (.one (.leaf (.int .i64)) [])))) []) v40), (4, .ghost), (5, .map 113 true true [.int .i64, .str] [.int .i64, .str, .int .i64, .int .i64] r24.2.2.2), (6, .ghost)]⟩ = l2_b k a0 a3 v16 r24 ((fun (v15' : Int) (v16' : List (Int × List Int)) => RR_l0 ⟨[(0, .osl 0), (1, .int .i64 a1), (2, .int .i64 a2), (3, .int .i64 a3), (10, .ptr 1 0), (27, .osl 0), (28, .int .i64 (List.length a0 : Int)), (29, .int .i64 v15')], [], 0, []⟩ ⟨5, true, [(0, .tab false 55 [] 2 (.cons (.leaf (.int .i64)) (.one (.row false 3 [.int .i64]) [])) a0), (1, .cells 71 [.osl 3, .nilp, .nilsl, .int .i64 (0 : Int), .int .i64 (0 : Int), .int .i64 (0 : Int), .int .i64 (0 : Int), .int .i64 (0 : Int), .int .i64 (0 : Int)]), (2, .ghost), (3, .tab true 55 [] 4 (.cons (.leaf (.int .i64)) (.one (.row false 3 [.int .i64]) [])) v16'), (4, .ghost)]⟩)) ((fun (v39' : Int) (v40' : List TY8) => la k [] [.r, .r, .r, .r, .r, .r, .r, .l, .r, .b] j ⟨[(3, .int .i64 a3), (10, .ptr 0 0), (66, .int .i64 (List.length a0 : Int)), (67, .int .i64 v39')], [], 0, []⟩ ⟨7, true, [(0, .cells 71 [.osl 1, .ptr 2 0, .osl 3, .int .i64 (0 : Int), .int .i64 (0 : Int), .int .i64 (0 : Int), .int .i64 (0 : Int), .int .i64 (0 : Int), .int .i64 (0 : Int)]), (1, .tab true 55 [] 4 (.cons (.leaf (.int .i64)) (.one (.row false 3 [.int .i64]) [])) v16), (2, .cells 115 [.int .i64 r24.2.1, .int .i64 r24.2.2.1, .mp 5]), (3, .tab true 78 [] 6 (.one (.box 121 (.cons (.row true 9 [.str]) (.cons (.leaf (.int .i64)) (.one (.leaf (.int .i64)) [])))) []) v40'), (4, .ghost), (5, .map 113 true true [.int .i64, .str] [.int .i64, .str, .int .i64, .int .i64] r24.2.2.2), (6, .ghost)]⟩)) v39 v40 := by kernel_rfl
    exact h.trans (by rw [rs, r0]; rfl)
noncomputable def l0_b (k : Nat) (a0 : List (Int × List Int)) (a1 : Int) (a2 : Int) (a3 : Int) (R_l0 : Int → TY9 → O (Int ⊕ TY11)) (D_l1 : TY9 → Int → TY6 → O (Int ⊕ TY11)) (D_l2 : TY9 → (Int × Int × Int × TY0) → Int → TY6 → O (Int ⊕ TY11)) (v15 : Int) (v16 : List (Int × List Int)) : O (Int ⊕ TY11) :=
  O.cond (decide (v15 < (List.length a0 : Int))) (
   O.chk (decide (0 ≤ v15 ∧ v15 < (List.length a0 : Int))) (
    O.chk (decide (0 ≤ v15 ∧ v15 < (List.length a0 : Int))) (
     O.bind (F_bridge_may.S k (gt ((0 : Int), []) a0 v15)) fun r19 =>
     O.cond (!r19) (
      .ok (.inl (200 : Int))) (
      O.bind (F_slices_Clone_int_int.S k ((gt ((0 : Int), []) a0 v15).2)) fun r20 =>
      O.chk (decide (List.length v16 + 1 ≤ 1073741824)) (
       R_l0 (IntKind.i64.wrap (v15 + (1 : Int))) (v16 ++ [((gt ((0 : Int), []) a0 v15).1, r20)])))))) (
   O.sum (F_fdb_New.S k a1 a2) (fun r23 =>
    O.cond (decide (r23 ≠ (0 : Int))) (
     .ok (.inl r23)) (
     D_l1 v16 (0 : Int) [])) fun r24 =>
   O.cond (decide (r24.1 ≠ (0 : Int))) (
    .ok (.inl r24.1)) (
    D_l2 v16 r24 (0 : Int) []))
noncomputable def l0 (k : Nat) (a0 : List (Int × List Int)) (a1 : Int) (a2 : Int) (a3 : Int) : Nat → Int → TY9 → O (Int ⊕ TY11)
  | 0, _, _ => .no
  | j + 1, v15, v16 => l0_b k a0 a1 a2 a3 (l0 k a0 a1 a2 a3 j) ((fun (v16 : List (Int × List Int)) (v29 : Int) (v30 : List TY8) => l1 k a0 a3 v16 (l0 k a0 a1 a2 a3 j) k v29 v30)) ((fun (v16 : List (Int × List Int)) (r24 : Int × Int × Int × TY0) (v39 : Int) (v40 : List TY8) => l2 k a0 a3 v16 r24 (l0 k a0 a1 a2 a3 j) k v39 v40)) v15 v16
theorem l0_eq (k : Nat) (a0 : List (Int × List Int)) (a1 : Int) (a2 : Int) (a3 : Int) : ∀ (j : Nat) (v15 : Int) (v16 : List (Int × List Int)), la k [] [.r, .r, .r, .l, .r, .b] j ⟨[(0, .osl 0), (1, .int .i64 a1), (2, .int .i64 a2), (3, .int .i64 a3), (10, .ptr 1 0), (27, .osl 0), (28, .int .i64 (List.length a0 : Int)), (29, .int .i64 v15)], [], 0, []⟩ ⟨5, true, [(0, .tab false 55 [] 2 (.cons (.leaf (.int .i64)) (.one (.row false 3 [.int .i64]) [])) a0), (1, .cells 71 [.osl 3, .nilp, .nilsl, .int .i64 (0 : Int), .int .i64 (0 : Int), .int .i64 (0 : Int), .int .i64 (0 : Int), .int .i64 (0 : Int), .int .i64 (0 : Int)]), (2, .ghost), (3, .tab true 55 [] 4 (.cons (.leaf (.int .i64)) (.one (.row false 3 [.int .i64]) [])) v16), (4, .ghost)]⟩ = l0 k a0 a1 a2 a3 j v15 v16 := by
  intro j
  induction j with
  | zero => intro v15 v16; rfl
  | succ j ih =>
    intro v15 v16
    have rs : (fun (v15' : Int) (v16' : List (Int × List Int)) => la k [] [.r, .r, .r, .l, .r, .b] j ⟨[(0, .osl 0), (1, .int .i64 a1), (2, .int .i64 a2), (3, .int .i64 a3), (10, .ptr 1 0), (27, .osl 0), (28, .int .i64 (List.length a0 : Int)), (29, .int .i64 v15')], [], 0, []⟩ ⟨5, true, [(0, .tab false 55 [] 2 (.cons (.leaf (.int .i64)) (.one (.row false 3 [.int .i64]) [])) a0), (1, .cells 71 [.osl 3, .nilp, .nilsl, .int .i64 (0 : Int), .int .i64 (0 : Int), .int .i64 (0 : Int), .int .i64 (0 : Int), .int .i64 (0 : Int), .int .i64 (0 : Int)]), (2, .ghost), (3, .tab true 55 [] 4 (.cons (.leaf (.int .i64)) (.one (.row false 3 [.int .i64]) [])) v16'), (4, .ghost)]⟩) = l0 k a0 a1 a2 a3 j := by funext v15' v16'; exact ih v15' v16'
    have e0 : (fun (v16 : List (Int × List Int)) (v29 : Int) (v30 : List TY8) => la k [] [.r, .r, .r, .r, .r, .r, .r, .l, .r, .b] k ⟨[(3, .int .i64 a3), (10, .ptr 0 0), (66, .int .i64 (List.length a0 : Int)), (67, .int .i64 v29)], [], 0, []⟩ ⟨5, true, [(0, .cells 71 [.osl 1, .nilp, .osl 2, .int .i64 (0 : Int), .int .i64 (0 : Int), .int .i64 (0 : Int), .int .i64 (0 : Int), .int .i64 (0 : Int), .int .i64 (0 : Int)]), (1, .tab true 55 [] 3 (.cons (.leaf (.int .i64)) (.one (.row false 3 [.int .i64]) [])) v16), (2, .tab true 78 [] 4 (.one (.box 121 (.cons (.row true 9 [.str]) (.cons (.leaf (.int .i64)) (.one (.leaf (.int .i64)) [])))) []) v30), (3, .ghost), (4, .ghost)]⟩) = (fun (v16 : List (Int × List Int)) (v29 : Int) (v30 : List TY8) => l1 k a0 a3 v16 (l0 k a0 a1 a2 a3 j) k v29 v30) := by funext v16 v29 v30; exact l1_eq k a0 a3 v16 a1 a2 (la k [] [.r, .r, .r, .l, .r, .b] j) (l0 k a0 a1 a2 a3 j) (fun v15 v16 => ih v15 v16) k v29 v30
    have e1 : (fun (v16 : List (Int × List Int)) (r24 : Int × Int × Int × TY0) (v39 : Int) (v40 : List TY8) => la k [] [.r, .r, .r, .r, .r, .r, .r, .l, .r, .b] k ⟨[(3, .int .i64 a3), (10, .ptr 0 0), (66, .int .i64 (List.length a0 : Int)), (67, .int .i64 v39)], [], 0, []⟩ ⟨7, true, [(0, .cells 71 [.osl 1, .ptr 2 0, .osl 3, .int .i64 (0 : Int), .int .i64 (0 : Int), .int .i64 (0 : Int), .int .i64 (0 : Int), .int .i64 (0 : Int), .int .i64 (0 : Int)]), (1, .tab true 55 [] 4 (.cons (.leaf (.int .i64)) (.one (.row false 3 [.int .i64]) [])) v16), (2, .cells 115 [.int .i64 r24.2.1, .int .i64 r24.2.2.1, .mp 5]), (3, .tab true 78 [] 6 (.one (.box 121 (.cons (.row true 9 [.str]) (.cons (.leaf (.int .i64)) (.one (.leaf (.int .i64)) [])))) []) v40), (4, .ghost), (5, .map 113 true true [.int .i64, .str] [.int .i64, .str, .int .i64, .int .i64] r24.2.2.2), (6, .ghost)]⟩) = (fun (v16 : List (Int × List Int)) (r24 : Int × Int × Int × TY0) (v39 : Int) (v40 : List TY8) => l2 k a0 a3 v16 r24 (l0 k a0 a1 a2 a3 j) k v39 v40) := by funext v16 r24 v39 v40; exact l2_eq k a0 a3 v16 r24 a1 a2 (la k [] [.r, .r, .r, .l, .r, .b] j) (l0 k a0 a1 a2 a3 j) (fun v15 v16 => ih v15 v16) k v39 v40
    have h : la k [] [.r, .r, .r, .l, .r, .b] (j + 1) ⟨[(0, .osl 0), (1, .int .i64 a1), (2, .int .i64 a2), (3, .int .i64 a3), (10, .ptr 1 0), (27, .osl 0), (28, .int .i64 (List.length a0 : Int)), (29, .int .i64 v15)], [], 0, []⟩ ⟨5, true, [(0, .tab false 55 [] 2 (.cons (.leaf (.int .i64)) (.one (.row false 3 [.int .i64]) [])) a0), (1, .cells 71 [.osl 3, .nilp, .nilsl, .int .i64 (0 : Int), .int .i64 (0 : Int), .int .i64 (0 : Int), .int .i64 (0 : Int), .int .i64 (0 : Int), .int .i64 (0 : Int)]), (2, .ghost), (3, .tab true 55 [] 4 (.cons (.leaf (.int .i64)) (.one (.row false 3 [.int .i64]) [])) v16), (4, .ghost)]⟩ = l0_b k a0 a1 a2 a3 ((fun (v15' : Int) (v16' : List (Int × List Int)) => la k [] [.r, .r, .r, .l, .r, .b] j ⟨[(0, .osl 0), (1, .int .i64 a1), (2, .int .i64 a2), (3, .int .i64 a3), (10, .ptr 1 0), (27, .osl 0), (28, .int .i64 (List.length a0 : Int)), (29, .int .i64 v15')], [], 0, []⟩ ⟨5, true, [(0, .tab false 55 [] 2 (.cons (.leaf (.int .i64)) (.one (.row false 3 [.int .i64]) [])) a0), (1, .cells 71 [.osl 3, .nilp, .nilsl, .int .i64 (0 : Int), .int .i64 (0 : Int), .int .i64 (0 : Int), .int .i64 (0 : Int), .int .i64 (0 : Int), .int .i64 (0 : Int)]), (2, .ghost), (3, .tab true 55 [] 4 (.cons (.leaf (.int .i64)) (.one (.row false 3 [.int .i64]) [])) v16'), (4, .ghost)]⟩)) ((fun (v16 : List (Int × List Int)) (v29 : Int) (v30 : List TY8) => la k [] [.r, .r, .r, .r, .r, .r, .r, .l, .r, .b] k ⟨[(3, .int .i64 a3), (10, .ptr 0 0), (66, .int .i64 (List.length a0 : Int)), (67, .int .i64 v29)], [], 0, []⟩ ⟨5, true, [(0, .cells 71 [.osl 1, .nilp, .osl 2, .int .i64 (0 : Int), .int .i64 (0 : Int), .int .i64 (0 : Int), .int .i64 (0 : Int), .int .i64 (0 : Int), .int .i64 (0 : Int)]), (1, .tab true 55 [] 3 (.cons (.leaf (.int .i64)) (.one (.row false 3 [.int .i64]) [])) v16), (2, .tab true 78 [] 4 (.one (.box 121 (.cons (.row true 9 [.str]) (.cons (.leaf (.int .i64)) (.one (.leaf (.int .i64)) [])))) []) v30), (3, .ghost), (4, .ghost)]⟩)) ((fun (v16 : List (Int × List Int)) (r24 : Int × Int × Int × TY0) (v39 : Int) (v40 : List TY8) => la k [] [.r, .r, .r, .r, .r, .r, .r, .l, .r, .b] k ⟨[(3, .int .i64 a3), (10, .ptr 0 0), (66, .int .i64 (List.length a0 : Int)), (67, .int .i64 v39)], [], 0, []⟩ ⟨7, true, [(0, .cells 71 [.osl 1, .ptr 2 0, .osl 3, .int .i64 (0 : Int), .int .i64 (0 : Int), .int .i64 (0 : Int), .int .i64 (0 : Int), .int .i64 (0 : Int), .int .i64 (0 : Int)]), (1, .tab true 55 [] 4 (.cons (.leaf (.int .i64)) (.one (.row false 3 [.int .i64]) [])) v16), (2, .cells 115 [.int .i64 r24.2.1, .int .i64 r24.2.2.1, .mp 5]), (3, .tab true 78 [] 6 (.one (.box 121 (.cons (.row true 9 [.str]) (.cons (.leaf (.int .i64)) (.one (.leaf (.int .i64)) [])))) []) v40), (4, .ghost), (5, .map 113 true true [.int .i64, .str] [.int .i64, .str, .int .i64, .int .i64] r24.2.2.2), (6, .ghost)]⟩)) v15 v16 := by kernel_rfl
    exact h.trans (by rw [rs, e0, e1]; rfl)
noncomputable def top (k : Nat) (a0 : List (Int × List Int)) (a1 : Int) (a2 : Int) (a3 : Int) (D_l0 : Int → TY9 → O (Int ⊕ TY11)) : O (Int ⊕ TY11) :=
  O.cond (decide ((List.length a0 : Int) < (1 : Int))) (
   .ok (.inl (200 : Int))) (
   O.cond (decide ((List.length a0 : Int) > (16 : Int))) (
    .ok (.inl (200 : Int))) (
    D_l0 (0 : Int) []))
noncomputable def S (k : Nat) (a0 : List (Int × List Int)) (a1 : Int) (a2 : Int) (a3 : Int) : O (Int ⊕ TY11) := top k a0 a1 a2 a3 ((fun (v15 : Int) (v16 : List (Int × List Int)) => l0 k a0 a1 a2 a3 k v15 v16))
theorem eq (k : Nat) (a0 : List (Int × List Int)) (a1 : Int) (a2 : Int) (a3 : Int) : evFn (T := Int ⊕ TY11) tab (calOf (cal k)) Go.Proofs.Try.f14 nt k 0 [.osl 1, .int .i64 a1, .int .i64 a2, .int .i64 a3] [] ⟨2, false, [(1, .tab false 55 [] 0 (.cons (.leaf (.int .i64)) (.one (.row false 3 [.int .i64]) [])) a0), (0, .ghost)]⟩ (fun v st => outK ct.ob (γ0 ct) ct.outs v st .ok) (fun e st => outP ct.ob (γ0 ct) ct.outs e st .ok) = S k a0 a1 a2 a3 := by
  have e0 : (fun (v15 : Int) (v16 : List (Int × List Int)) => la k [] [.r, .r, .r, .l, .r, .b] k ⟨[(0, .osl 0), (1, .int .i64 a1), (2, .int .i64 a2), (3, .int .i64 a3), (10, .ptr 1 0), (27, .osl 0), (28, .int .i64 (List.length a0 : Int)), (29, .int .i64 v15)], [], 0, []⟩ ⟨5, true, [(0, .tab false 55 [] 2 (.cons (.leaf (.int .i64)) (.one (.row false 3 [.int .i64]) [])) a0), (1, .cells 71 [.osl 3, .nilp, .nilsl, .int .i64 (0 : Int), .int .i64 (0 : Int), .int .i64 (0 : Int), .int .i64 (0 : Int), .int .i64 (0 : Int), .int .i64 (0 : Int)]), (2, .ghost), (3, .tab true 55 [] 4 (.cons (.leaf (.int .i64)) (.one (.row false 3 [.int .i64]) [])) v16), (4, .ghost)]⟩) = (fun (v15 : Int) (v16 : List (Int × List Int)) => l0 k a0 a1 a2 a3 k v15 v16) := by funext v15 v16; exact l0_eq k a0 a1 a2 a3 k v15 v16
  have h : evFn (T := Int ⊕ TY11) tab (calOf (cal k)) Go.Proofs.Try.f14 nt k 0 [.osl 1, .int .i64 a1, .int .i64 a2, .int .i64 a3] [] ⟨2, false, [(1, .tab false 55 [] 0 (.cons (.leaf (.int .i64)) (.one (.row false 3 [.int .i64]) [])) a0), (0, .ghost)]⟩ (fun v st => outK ct.ob (γ0 ct) ct.outs v st .ok) (fun e st => outP ct.ob (γ0 ct) ct.outs e st .ok) = top k a0 a1 a2 a3 ((fun (v15 : Int) (v16 : List (Int × List Int)) => la k [] [.r, .r, .r, .l, .r, .b] k ⟨[(0, .osl 0), (1, .int .i64 a1), (2, .int .i64 a2), (3, .int .i64 a3), (10, .ptr 1 0), (27, .osl 0), (28, .int .i64 (List.length a0 : Int)), (29, .int .i64 v15)], [], 0, []⟩ ⟨5, true, [(0, .tab false 55 [] 2 (.cons (.leaf (.int .i64)) (.one (.row false 3 [.int .i64]) [])) a0), (1, .cells 71 [.osl 3, .nilp, .nilsl, .int .i64 (0 : Int), .int .i64 (0 : Int), .int .i64 (0 : Int), .int .i64 (0 : Int), .int .i64 (0 : Int), .int .i64 (0 : Int)]), (2, .ghost), (3, .tab true 55 [] 4 (.cons (.leaf (.int .i64)) (.one (.row false 3 [.int .i64]) [])) v16), (4, .ghost)]⟩)) := by kernel_rfl
  exact h.trans (by rw [e0]; rfl)
theorem ok (k : Nat) : FnOkC Try.prog 14 ct (fun (x : TY9 × Int × Int × Int) (_ : Unit) => S k x.1 x.2.1 x.2.2.1 x.2.2.2) :=
  FnOkC.of_ev (C := ct) tab_ok rfl (calOf_ok (cal_ok k)) mixed Try.func14 nt k (fun _ _ => rfl) (fun (x : TY9 × Int × Int × Int) (_ : Unit) => eq k x.1 x.2.1 x.2.2.1 x.2.2.2)
theorem hd {T : Type} (k : Nat) : HdOk Try.prog 14 (pureC (T := T) ct [] (fun (x : TY9 × Int × Int × Int) (_ : Unit) => S k x.1 x.2.1 x.2.2.1 x.2.2.2)) :=
  pureC_ok rfl [] (ok k) Try.call14
end F_bridge_New
namespace F_aqueductlaw20_own
/-! ### aqueduct/aqueductlaw20.own: function 38 -/
noncomputable def ct : Ct := ⟨.some (.one (.leaf (.int .i64)) []), [], [⟨.val (.leaf .str), [], []⟩]⟩
noncomputable def nt : Notes := ⟨[], [], [], [], []⟩
noncomputable def cal0 {T : Type} (k : Nat) : List (FuncId × Hd T) := []
theorem cal0_ok {T : Type} (k : Nat) : HdsOk Try.prog (cal0 (T := T) k) := trivial
noncomputable def cal {T : Type} (k : Nat) : List (FuncId × Hd T) := cal0 k
theorem cal_ok {T : Type} (k : Nat) : HdsOk Try.prog (cal (T := T) k) := cal0_ok k
noncomputable def S (k : Nat) (a0 : Int) : O ByteArray :=
  O.chk (decide (((ByteArray.size (⟨#[2, 0, 0, 0, 0]⟩ : ByteArray) + ByteArray.size (Go.Aq.strOf [(IntKind.u8.wrap a0)]) : Nat) : Int) ≤ 9223372036854775807)) (
   .ok ((⟨#[2, 0, 0, 0, 0]⟩ : ByteArray) ++ (Go.Aq.strOf [(IntKind.u8.wrap a0)])))
theorem eq (k : Nat) (a0 : Int) : evFn (T := ByteArray) tab (calOf (cal k)) Go.Proofs.Try.f38 nt k 0 [.int .i64 a0] [] ⟨0, false, []⟩ (fun v st => outK ct.ob (γ0 ct) ct.outs v st .ok) (fun e st => outP ct.ob (γ0 ct) ct.outs e st .ok) = S k a0 := by kernel_rfl
theorem ok (k : Nat) : FnOkC Try.prog 38 ct (fun (x : Int) (_ : Unit) => S k x) :=
  FnOkC.of_ev (C := ct) tab_ok rfl (calOf_ok (cal_ok k)) mixed Try.func38 nt k (fun _ _ => rfl) (fun (x : Int) (_ : Unit) => eq k x)
theorem hd {T : Type} (k : Nat) : HdOk Try.prog 38 (pureC (T := T) ct [] (fun (x : Int) (_ : Unit) => S k x)) :=
  pureC_ok rfl [] (ok k) Try.call38
end F_aqueductlaw20_own
namespace F_aqueductlaw20_from
/-! ### aqueduct/aqueductlaw20.from: function 15 -/
noncomputable def ct : Ct := ⟨.some (.cons (.leaf (.int .i64)) (.one (.leaf (.int .i64)) [])), [], [⟨.val (.leaf .str), [], []⟩]⟩
noncomputable def nt : Notes := ⟨[], [], [], [], []⟩
noncomputable def cal0 {T : Type} (k : Nat) : List (FuncId × Hd T) := [(38, pureC F_aqueductlaw20_own.ct [] (fun (x : Int) (_ : Unit) => F_aqueductlaw20_own.S k x))]
theorem cal0_ok {T : Type} (k : Nat) : HdsOk Try.prog (cal0 (T := T) k) := ⟨F_aqueductlaw20_own.hd k, trivial⟩
noncomputable def cal {T : Type} (k : Nat) : List (FuncId × Hd T) := cal0 k
theorem cal_ok {T : Type} (k : Nat) : HdsOk Try.prog (cal (T := T) k) := cal0_ok k
noncomputable def S (k : Nat) (a0 : Int) (a1 : Int) : O ByteArray :=
  O.bind (F_aqueductlaw20_own.S k a1) fun r1 =>
  O.bind (F_aqueductlaw20_own.S k a0) fun r2 =>
  O.chk (decide (((ByteArray.size r1 + ByteArray.size r2 : Nat) : Int) ≤ 9223372036854775807)) (
   O.chk (decide (((ByteArray.size (r1 ++ r2) + ByteArray.size (⟨#[8, 0, 98, 111, 100, 121]⟩ : ByteArray) : Nat) : Int) ≤ 9223372036854775807)) (
    .ok ((r1 ++ r2) ++ (⟨#[8, 0, 98, 111, 100, 121]⟩ : ByteArray))))
theorem eq (k : Nat) (a0 : Int) (a1 : Int) : evFn (T := ByteArray) tab (calOf (cal k)) Go.Proofs.Try.f15 nt k 0 [.int .i64 a0, .int .i64 a1] [] ⟨0, false, []⟩ (fun v st => outK ct.ob (γ0 ct) ct.outs v st .ok) (fun e st => outP ct.ob (γ0 ct) ct.outs e st .ok) = S k a0 a1 := by kernel_rfl
theorem ok (k : Nat) : FnOkC Try.prog 15 ct (fun (x : Int × Int) (_ : Unit) => S k x.1 x.2) :=
  FnOkC.of_ev (C := ct) tab_ok rfl (calOf_ok (cal_ok k)) mixed Try.func15 nt k (fun _ _ => rfl) (fun (x : Int × Int) (_ : Unit) => eq k x.1 x.2)
theorem hd {T : Type} (k : Nat) : HdOk Try.prog 15 (pureC (T := T) ct [] (fun (x : Int × Int) (_ : Unit) => S k x.1 x.2)) :=
  pureC_ok rfl [] (ok k) Try.call15
end F_aqueductlaw20_from
namespace F_aqueductref11_Same
/-! ### aqueduct/aqueductref11.Same: function 16 -/
noncomputable def ct : Ct := ⟨.some (.cons (.row false 3 [.int .i64]) (.one (.row false 3 [.int .i64]) [])), [], [⟨.val (.leaf .bool), [], []⟩]⟩
noncomputable def nt : Notes := ⟨[(4, ⟨[0, 1, 5], []⟩)], [], [(6, [0, 1, 2, 3, 4, 5, 6, 7, 8])], [], []⟩
noncomputable def cal0 {T : Type} (k : Nat) : List (FuncId × Hd T) := []
theorem cal0_ok {T : Type} (k : Nat) : HdsOk Try.prog (cal0 (T := T) k) := trivial
noncomputable def cal {T : Type} (k : Nat) : List (FuncId × Hd T) := cal0 k
theorem cal_ok {T : Type} (k : Nat) : HdsOk Try.prog (cal (T := T) k) := cal0_ok k
noncomputable abbrev la (k : Nat) (Rs : List (Fr → St → O (Bool))) (ds : List Dir) (j : Nat) : Fr → St → O (Bool) := loopAt tab (calOf (cal k)) Go.Proofs.Try.f16.ntmps nt k Rs ds (bodyOf Go.Proofs.Try.f16) (finK tab Go.Proofs.Try.f16.results.toList (fun v st => outK ct.ob (γ0 ct) ct.outs v st .ok) (fun e st => outP ct.ob (γ0 ct) ct.outs e st .ok)) j
noncomputable def l0_b (k : Nat) (a0 : List Int) (a1 : List Int) (R_l0 : Int → O Bool) (v1 : Int) : O Bool :=
  O.cond (decide (v1 < (List.length a0 : Int))) (
   O.chk (decide (0 ≤ v1 ∧ v1 < (List.length a0 : Int) ∧ (List.length a0 : Int) ≤ (List.length a0 : Int))) (
    O.chk (decide (0 ≤ v1 ∧ v1 < (List.length a0 : Int))) (
     O.chk (decide (0 ≤ v1 ∧ v1 < (List.length a1 : Int) ∧ (List.length a1 : Int) ≤ (List.length a1 : Int))) (
      O.chk (decide (0 ≤ v1 ∧ v1 < (List.length a1 : Int))) (
       O.cond (decide ((gt (0 : Int) a0 v1) ≠ (gt (0 : Int) a1 v1))) (
        .ok false) (
        R_l0 (IntKind.i64.wrap (v1 + (1 : Int))))))))) (
   .ok true)
noncomputable def l0 (k : Nat) (a0 : List Int) (a1 : List Int) : Nat → Int → O Bool
  | 0, _ => .no
  | j + 1, v1 => l0_b k a0 a1 (l0 k a0 a1 j) v1
theorem l0_eq (k : Nat) (a0 : List Int) (a1 : List Int) : ∀ (j : Nat) (v1 : Int), la k [] [.r, .r, .l, .r, .b] j ⟨[(0, .osl 0), (1, .osl 1), (5, .int .i64 v1)], [], 0, []⟩ ⟨2, true, [(0, .row false 3 [.int .i64] a0), (1, .row false 3 [.int .i64] a1)]⟩ = l0 k a0 a1 j v1 := by
  intro j
  induction j with
  | zero => intro v1; rfl
  | succ j ih =>
    intro v1
    have rs : (fun (v1' : Int) => la k [] [.r, .r, .l, .r, .b] j ⟨[(0, .osl 0), (1, .osl 1), (5, .int .i64 v1')], [], 0, []⟩ ⟨2, true, [(0, .row false 3 [.int .i64] a0), (1, .row false 3 [.int .i64] a1)]⟩) = l0 k a0 a1 j := by funext v1'; exact ih v1'
    have h : la k [] [.r, .r, .l, .r, .b] (j + 1) ⟨[(0, .osl 0), (1, .osl 1), (5, .int .i64 v1)], [], 0, []⟩ ⟨2, true, [(0, .row false 3 [.int .i64] a0), (1, .row false 3 [.int .i64] a1)]⟩ = l0_b k a0 a1 ((fun (v1' : Int) => la k [] [.r, .r, .l, .r, .b] j ⟨[(0, .osl 0), (1, .osl 1), (5, .int .i64 v1')], [], 0, []⟩ ⟨2, true, [(0, .row false 3 [.int .i64] a0), (1, .row false 3 [.int .i64] a1)]⟩)) v1 := by kernel_rfl
    exact h.trans (by rw [rs]; rfl)
noncomputable def top (k : Nat) (a0 : List Int) (a1 : List Int) (D_l0 : Int → O Bool) : O Bool :=
  O.cond (decide ((List.length a0 : Int) ≠ (List.length a1 : Int))) (
   .ok false) (
   D_l0 (0 : Int))
noncomputable def S (k : Nat) (a0 : List Int) (a1 : List Int) : O Bool := top k a0 a1 ((fun (v1 : Int) => l0 k a0 a1 k v1))
theorem eq (k : Nat) (a0 : List Int) (a1 : List Int) : evFn (T := Bool) tab (calOf (cal k)) Go.Proofs.Try.f16 nt k 0 [.osl 0, .osl 1] [] ⟨2, false, [(1, .row false 3 [.int .i64] a1), (0, .row false 3 [.int .i64] a0)]⟩ (fun v st => outK ct.ob (γ0 ct) ct.outs v st .ok) (fun e st => outP ct.ob (γ0 ct) ct.outs e st .ok) = S k a0 a1 := by
  have e0 : (fun (v1 : Int) => la k [] [.r, .r, .l, .r, .b] k ⟨[(0, .osl 0), (1, .osl 1), (5, .int .i64 v1)], [], 0, []⟩ ⟨2, true, [(0, .row false 3 [.int .i64] a0), (1, .row false 3 [.int .i64] a1)]⟩) = (fun (v1 : Int) => l0 k a0 a1 k v1) := by funext v1; exact l0_eq k a0 a1 k v1
  have h : evFn (T := Bool) tab (calOf (cal k)) Go.Proofs.Try.f16 nt k 0 [.osl 0, .osl 1] [] ⟨2, false, [(1, .row false 3 [.int .i64] a1), (0, .row false 3 [.int .i64] a0)]⟩ (fun v st => outK ct.ob (γ0 ct) ct.outs v st .ok) (fun e st => outP ct.ob (γ0 ct) ct.outs e st .ok) = top k a0 a1 ((fun (v1 : Int) => la k [] [.r, .r, .l, .r, .b] k ⟨[(0, .osl 0), (1, .osl 1), (5, .int .i64 v1)], [], 0, []⟩ ⟨2, true, [(0, .row false 3 [.int .i64] a0), (1, .row false 3 [.int .i64] a1)]⟩)) := by kernel_rfl
  exact h.trans (by rw [e0]; rfl)
theorem ok (k : Nat) : FnOkC Try.prog 16 ct (fun (x : List Int × List Int) (_ : Unit) => S k x.1 x.2) :=
  FnOkC.of_ev (C := ct) tab_ok rfl (calOf_ok (cal_ok k)) mixed Try.func16 nt k (fun _ _ => rfl) (fun (x : List Int × List Int) (_ : Unit) => eq k x.1 x.2)
theorem hd {T : Type} (k : Nat) : HdOk Try.prog 16 (pureC (T := T) ct [] (fun (x : List Int × List Int) (_ : Unit) => S k x.1 x.2)) :=
  pureC_ok rfl [] (ok k) Try.call16
end F_aqueductref11_Same
end Go.Proofs.Ytkihcmcaignmkaa
end
section
/- What this seat's functions come to, as plain functions, each with the proof that the code does just that. Printed by a program of this repo (wip/gen4/gen.py). -/
namespace Go.Proofs.Ytkihcmcaignmkaa
open Go.Aq
set_option linter.unusedVariables false
set_option maxRecDepth 100000
namespace F_aqueductlaw20_fixed
/-! ### aqueduct/aqueductlaw20.fixed: function 13 -/
noncomputable def ct : Ct := ⟨.none, [], [⟨.val (.leaf .bool), [], []⟩]⟩
noncomputable def nt : Notes := ⟨[], [], [], [], []⟩
noncomputable def cal0 {T : Type} (k : Nat) : List (FuncId × Hd T) := [(10, pureC F_bridge_Bridge_In.ct [.arg 0 0, .fld 0 1] (fun (x : Int × ByteArray) (g : TY2 × TY3) => F_bridge_Bridge_In.S k x.1 x.2 g.1 g.2)), (11, pureC F_bridge_Bridge_Out.ct [.arg 0 0, .fld 0 1] (fun (x : Int) (g : TY2 × TY3) => F_bridge_Bridge_Out.S k x g.1 g.2)), (14, pureC F_bridge_New.ct [] (fun (x : TY9 × Int × Int × Int) (_ : Unit) => F_bridge_New.S k x.1 x.2.1 x.2.2.1 x.2.2.2)), (15, pureC F_aqueductlaw20_from.ct [] (fun (x : Int × Int) (_ : Unit) => F_aqueductlaw20_from.S k x.1 x.2)), (16, pureC F_aqueductref11_Same.ct [] (fun (x : List Int × List Int) (_ : Unit) => F_aqueductref11_Same.S k x.1 x.2)), (57, pureC F_fdb_Table_Rows.ct [.arg 0 0] (fun (_ : Unit) (g : Int × Int × TY0) => F_fdb_Table_Rows.S k g))]
theorem cal0_ok {T : Type} (k : Nat) : HdsOk Try.prog (cal0 (T := T) k) := ⟨F_bridge_Bridge_In.hd k, F_bridge_Bridge_Out.hd k, F_bridge_New.hd k, F_aqueductlaw20_from.hd k, F_aqueductref11_Same.hd k, F_fdb_Table_Rows.hd k, trivial⟩
noncomputable def nt9 : Notes := ⟨[], [], [], [], []⟩
noncomputable def cal1 {T : Type} (k : Nat) : List (FuncId × Hd T) := (9, inlH tab (calOf (cal0 k)) Go.Proofs.Try.f9 nt9 k) :: cal0 k
theorem cal1_ok {T : Type} (k : Nat) : HdsOk Try.prog (cal1 (T := T) k) := ⟨inlH_ok tab_ok (calOf_ok (cal0_ok k)) mixed Try.func9 nt9 k Try.call9, cal0_ok k⟩
noncomputable def nt32 : Notes := ⟨[], [], [], [], []⟩
noncomputable def cal2 {T : Type} (k : Nat) : List (FuncId × Hd T) := (32, inlH tab (calOf (cal1 k)) Go.Proofs.Try.f32 nt32 k) :: cal1 k
theorem cal2_ok {T : Type} (k : Nat) : HdsOk Try.prog (cal2 (T := T) k) := ⟨inlH_ok tab_ok (calOf_ok (cal1_ok k)) mixed Try.func32 nt32 k Try.call32, cal1_ok k⟩
noncomputable def nt12 : Notes := ⟨[], [], [], [], []⟩
noncomputable def cal3 {T : Type} (k : Nat) : List (FuncId × Hd T) := (12, inlH tab (calOf (cal2 k)) Go.Proofs.Try.f12 nt12 k) :: cal2 k
theorem cal3_ok {T : Type} (k : Nat) : HdsOk Try.prog (cal3 (T := T) k) := ⟨inlH_ok tab_ok (calOf_ok (cal2_ok k)) mixed Try.func12 nt12 k Try.call12, cal2_ok k⟩
noncomputable def nt33 : Notes := ⟨[], [], [], [], []⟩
noncomputable def cal4 {T : Type} (k : Nat) : List (FuncId × Hd T) := (33, inlH tab (calOf (cal3 k)) Go.Proofs.Try.f33 nt33 k) :: cal3 k
theorem cal4_ok {T : Type} (k : Nat) : HdsOk Try.prog (cal4 (T := T) k) := ⟨inlH_ok tab_ok (calOf_ok (cal3_ok k)) mixed Try.func33 nt33 k Try.call33, cal3_ok k⟩
noncomputable def cal {T : Type} (k : Nat) : List (FuncId × Hd T) := cal4 k
theorem cal_ok {T : Type} (k : Nat) : HdsOk Try.prog (cal (T := T) k) := cal4_ok k
noncomputable def S (k : Nat) : O Bool :=
  O.chk (decide (0 ≤ (3 : Int) ∧ (3 : Int) = (3 : Int) ∧ (3 : Int) ≤ 1073741824)) (
   O.sum (F_bridge_New.S k (List.replicate (3 : Int).toNat ((0 : Int), [])) (9 : Int) (9 : Int) (2 : Int)) (fun r3 =>
    O.sum (F_bridge_New.S k [] (9 : Int) (9 : Int) (2 : Int)) (fun r5 =>
     O.chk (decide (0 ≤ (3 : Int) ∧ (3 : Int) = (3 : Int) ∧ (3 : Int) ≤ 1073741824)) (
      O.sum (F_bridge_New.S k (List.replicate (3 : Int).toNat ((0 : Int), [])) (0 : Int) (9 : Int) (2 : Int)) (fun r7 =>
       O.chk (decide (0 ≤ (3 : Int) ∧ (3 : Int) = (3 : Int) ∧ (3 : Int) ≤ 1073741824)) (
        O.sum (F_bridge_New.S k (List.replicate (3 : Int).toNat ((0 : Int), [])) (9 : Int) (9 : Int) (0 : Int)) (fun r9 =>
         O.cond true (
          .ok false) (
          O.cond (decide (r3 ≠ (0 : Int))) (
           .ok false) (
           O.bind (F_aqueductlaw20_from.S k (1 : Int) (2 : Int)) fun r12 =>
           .no))) fun r10 =>
        O.cond true (
         .ok false) (
         O.cond (decide (r3 ≠ (0 : Int))) (
          .ok false) (
          O.bind (F_aqueductlaw20_from.S k (1 : Int) (2 : Int)) fun r13 =>
          .no)))) fun r8 =>
      O.chk (decide (0 ≤ (3 : Int) ∧ (3 : Int) = (3 : Int) ∧ (3 : Int) ≤ 1073741824)) (
       O.sum (F_bridge_New.S k (List.replicate (3 : Int).toNat ((0 : Int), [])) (9 : Int) (9 : Int) (0 : Int)) (fun r14 =>
        O.cond true (
         .ok false) (
         O.cond (decide (r3 ≠ (0 : Int))) (
          .ok false) (
          O.bind (F_aqueductlaw20_from.S k (1 : Int) (2 : Int)) fun r16 =>
          .no))) fun r15 =>
       O.cond true (
        .ok false) (
        O.cond (decide (r3 ≠ (0 : Int))) (
         .ok false) (
         O.bind (F_aqueductlaw20_from.S k (1 : Int) (2 : Int)) fun r17 =>
         .no))))) fun r6 =>
    O.chk (decide (0 ≤ (3 : Int) ∧ (3 : Int) = (3 : Int) ∧ (3 : Int) ≤ 1073741824)) (
     O.sum (F_bridge_New.S k (List.replicate (3 : Int).toNat ((0 : Int), [])) (0 : Int) (9 : Int) (2 : Int)) (fun r18 =>
      O.chk (decide (0 ≤ (3 : Int) ∧ (3 : Int) = (3 : Int) ∧ (3 : Int) ≤ 1073741824)) (
       O.sum (F_bridge_New.S k (List.replicate (3 : Int).toNat ((0 : Int), [])) (9 : Int) (9 : Int) (0 : Int)) (fun r20 =>
        O.cond true (
         .ok false) (
         O.cond (decide (r3 ≠ (0 : Int))) (
          .ok false) (
          O.bind (F_aqueductlaw20_from.S k (1 : Int) (2 : Int)) fun r22 =>
          .no))) fun r21 =>
       O.cond true (
        .ok false) (
        O.cond (decide (r3 ≠ (0 : Int))) (
         .ok false) (
         O.bind (F_aqueductlaw20_from.S k (1 : Int) (2 : Int)) fun r23 =>
         .no)))) fun r19 =>
     O.chk (decide (0 ≤ (3 : Int) ∧ (3 : Int) = (3 : Int) ∧ (3 : Int) ≤ 1073741824)) (
      O.sum (F_bridge_New.S k (List.replicate (3 : Int).toNat ((0 : Int), [])) (9 : Int) (9 : Int) (0 : Int)) (fun r24 =>
       O.cond true (
        .ok false) (
        O.cond (decide (r3 ≠ (0 : Int))) (
         .ok false) (
         O.bind (F_aqueductlaw20_from.S k (1 : Int) (2 : Int)) fun r26 =>
         .no))) fun r25 =>
      O.cond true (
       .ok false) (
       O.cond (decide (r3 ≠ (0 : Int))) (
        .ok false) (
        O.bind (F_aqueductlaw20_from.S k (1 : Int) (2 : Int)) fun r27 =>
        .no))))) fun r4 =>
   O.sum (F_bridge_New.S k [] (9 : Int) (9 : Int) (2 : Int)) (fun r28 =>
    O.chk (decide (0 ≤ (3 : Int) ∧ (3 : Int) = (3 : Int) ∧ (3 : Int) ≤ 1073741824)) (
     O.sum (F_bridge_New.S k (List.replicate (3 : Int).toNat ((0 : Int), [])) (0 : Int) (9 : Int) (2 : Int)) (fun r30 =>
      O.chk (decide (0 ≤ (3 : Int) ∧ (3 : Int) = (3 : Int) ∧ (3 : Int) ≤ 1073741824)) (
       O.sum (F_bridge_New.S k (List.replicate (3 : Int).toNat ((0 : Int), [])) (9 : Int) (9 : Int) (0 : Int)) (fun r32 =>
        O.cond false (
         .ok false) (
         O.cond (decide (r4.1 ≠ (0 : Int))) (
          .ok false) (
          O.bind (F_aqueductlaw20_from.S k (1 : Int) (2 : Int)) fun r34 =>
          O.bind (F_bridge_Bridge_In.S k (0 : Int) r34 r4.2.1 r4.2.2) fun r35 =>
          O.bind (F_aqueductlaw20_from.S k (2 : Int) (1 : Int)) fun r38 =>
          O.bind (F_bridge_Bridge_In.S k (1 : Int) r38 r35.2.1 r35.2.2) fun r39 =>
          O.bind (F_aqueductlaw20_from.S k (3 : Int) (1 : Int)) fun r42 =>
          O.bind (F_bridge_Bridge_In.S k (0 : Int) r42 r39.2.1 r39.2.2) fun r43 =>
          O.bind (F_aqueductlaw20_from.S k (3 : Int) (1 : Int)) fun r46 =>
          O.bind (F_bridge_Bridge_In.S k (3 : Int) r46 r43.2.1 r43.2.2) fun r47 =>
          O.bind (F_bridge_Bridge_Out.S k (2 : Int) r47.2.1 r47.2.2) fun r49 =>
          O.bind (F_bridge_Bridge_Out.S k (2 : Int) r49.2.1 r49.2.2) fun r51 =>
          O.cond (decide (r28 = (200 : Int))) (
           O.cond (decide (r30 = (180 : Int))) (
            O.cond (decide (r32 = (190 : Int))) (
             O.bind (F_aqueductref11_Same.S k r35.1.1 [(1 : Int), (2 : Int)]) fun r52 =>
             O.cond r52 (
              O.cond (decide (r35.1.2 = (0 : Int))) (
               O.bind (F_aqueductref11_Same.S k r39.1.1 [(0 : Int)]) fun r53 =>
               O.cond r53 (
                O.cond (decide (r39.1.2 = (0 : Int))) (
                 O.cond (decide ((List.length r43.1.1 : Int) = (0 : Int))) (
                  O.cond (decide (r43.1.2 = (0 : Int))) (
                   O.cond (decide (r47.1.2 = (1 : Int))) (
                    O.bind (F_aqueductlaw20_from.S k (1 : Int) (2 : Int)) fun r54 =>
                    O.cond (decide (r49.1.1 = r54)) (
                     O.cond r49.1.2 (
                      O.cond (decide (r51.1.1 = (⟨#[]⟩ : ByteArray))) (
                       O.cond (!r51.1.2) (
                        O.cond (decide (r51.2.1.2.2.1 = (3 : Int)) && (decide (r51.2.1.2.2.2.1 = (0 : Int)) && (decide (r51.2.1.2.2.2.2.1 = (0 : Int)) && (decide (r51.2.1.2.2.2.2.2.1 = (1 : Int)) && (decide (r51.2.1.2.2.2.2.2.2.1 = (3 : Int)) && (decide (r51.2.1.2.2.2.2.2.2.2 = (0 : Int)) && true)))))) (
                         O.cond (decide ((1 : Int) ≥ (List.length r51.2.1.1 : Int))) (
                          O.cond false (
                           O.bind (F_fdb_Table_Rows.S k r51.2.2) fun r55 =>
                           .ok (decide ((List.length r55.1 : Int) = (3 : Int)))) (
                           .ok false)) (
                          O.chk (decide (0 ≤ (1 : Int) ∧ (1 : Int) < (List.length r51.2.1.2.1 : Int))) (
                           O.chk (decide (0 ≤ (1 : Int) ∧ (1 : Int) < (List.length r51.2.1.2.1 : Int))) (
                            O.cond (decide ((List.length ((gt ([], (0 : Int), (0 : Int)) r51.2.1.2.1 (1 : Int)).1) : Int) = (1 : Int))) (
                             O.bind (F_fdb_Table_Rows.S k r51.2.2) fun r56 =>
                             .ok (decide ((List.length r56.1 : Int) = (3 : Int)))) (
                             .ok false))))) (
                         .ok false)) (
                        .ok false)) (
                       .ok false)) (
                      .ok false)) (
                     .ok false)) (
                    .ok false)) (
                   .ok false)) (
                  .ok false)) (
                 .ok false)) (
                .ok false)) (
               .ok false)) (
              .ok false)) (
             .ok false)) (
            .ok false)) (
           .ok false)))) fun r33 =>
       O.cond false (
        .ok false) (
        O.cond (decide (r4.1 ≠ (0 : Int))) (
         .ok false) (
         O.bind (F_aqueductlaw20_from.S k (1 : Int) (2 : Int)) fun r57 =>
         O.bind (F_bridge_Bridge_In.S k (0 : Int) r57 r4.2.1 r4.2.2) fun r58 =>
         O.bind (F_aqueductlaw20_from.S k (2 : Int) (1 : Int)) fun r59 =>
         O.bind (F_bridge_Bridge_In.S k (1 : Int) r59 r58.2.1 r58.2.2) fun r60 =>
         O.bind (F_aqueductlaw20_from.S k (3 : Int) (1 : Int)) fun r61 =>
         O.bind (F_bridge_Bridge_In.S k (0 : Int) r61 r60.2.1 r60.2.2) fun r62 =>
         O.bind (F_aqueductlaw20_from.S k (3 : Int) (1 : Int)) fun r63 =>
         O.bind (F_bridge_Bridge_In.S k (3 : Int) r63 r62.2.1 r62.2.2) fun r64 =>
         O.bind (F_bridge_Bridge_Out.S k (2 : Int) r64.2.1 r64.2.2) fun r65 =>
         O.bind (F_bridge_Bridge_Out.S k (2 : Int) r65.2.1 r65.2.2) fun r66 =>
         O.cond (decide (r28 = (200 : Int))) (
          O.cond (decide (r30 = (180 : Int))) (
           O.cond (decide (r33.1 = (190 : Int))) (
            O.bind (F_aqueductref11_Same.S k r58.1.1 [(1 : Int), (2 : Int)]) fun r67 =>
            O.cond r67 (
             O.cond (decide (r58.1.2 = (0 : Int))) (
              O.bind (F_aqueductref11_Same.S k r60.1.1 [(0 : Int)]) fun r68 =>
              O.cond r68 (
               O.cond (decide (r60.1.2 = (0 : Int))) (
                O.cond (decide ((List.length r62.1.1 : Int) = (0 : Int))) (
                 O.cond (decide (r62.1.2 = (0 : Int))) (
                  O.cond (decide (r64.1.2 = (1 : Int))) (
                   O.bind (F_aqueductlaw20_from.S k (1 : Int) (2 : Int)) fun r69 =>
                   O.cond (decide (r65.1.1 = r69)) (
                    O.cond r65.1.2 (
                     O.cond (decide (r66.1.1 = (⟨#[]⟩ : ByteArray))) (
                      O.cond (!r66.1.2) (
                       O.cond (decide (r66.2.1.2.2.1 = (3 : Int)) && (decide (r66.2.1.2.2.2.1 = (0 : Int)) && (decide (r66.2.1.2.2.2.2.1 = (0 : Int)) && (decide (r66.2.1.2.2.2.2.2.1 = (1 : Int)) && (decide (r66.2.1.2.2.2.2.2.2.1 = (3 : Int)) && (decide (r66.2.1.2.2.2.2.2.2.2 = (0 : Int)) && true)))))) (
                        O.cond (decide ((1 : Int) ≥ (List.length r66.2.1.1 : Int))) (
                         O.cond false (
                          O.bind (F_fdb_Table_Rows.S k r66.2.2) fun r70 =>
                          .ok (decide ((List.length r70.1 : Int) = (3 : Int)))) (
                          .ok false)) (
                         O.chk (decide (0 ≤ (1 : Int) ∧ (1 : Int) < (List.length r66.2.1.2.1 : Int))) (
                          O.chk (decide (0 ≤ (1 : Int) ∧ (1 : Int) < (List.length r66.2.1.2.1 : Int))) (
                           O.cond (decide ((List.length ((gt ([], (0 : Int), (0 : Int)) r66.2.1.2.1 (1 : Int)).1) : Int) = (1 : Int))) (
                            O.bind (F_fdb_Table_Rows.S k r66.2.2) fun r71 =>
                            .ok (decide ((List.length r71.1 : Int) = (3 : Int)))) (
                            .ok false))))) (
                        .ok false)) (
                       .ok false)) (
                      .ok false)) (
                     .ok false)) (
                    .ok false)) (
                   .ok false)) (
                  .ok false)) (
                 .ok false)) (
                .ok false)) (
               .ok false)) (
              .ok false)) (
             .ok false)) (
            .ok false)) (
           .ok false)) (
          .ok false))))) fun r31 =>
     O.chk (decide (0 ≤ (3 : Int) ∧ (3 : Int) = (3 : Int) ∧ (3 : Int) ≤ 1073741824)) (
      O.sum (F_bridge_New.S k (List.replicate (3 : Int).toNat ((0 : Int), [])) (9 : Int) (9 : Int) (0 : Int)) (fun r72 =>
       O.cond false (
        .ok false) (
        O.cond (decide (r4.1 ≠ (0 : Int))) (
         .ok false) (
         O.bind (F_aqueductlaw20_from.S k (1 : Int) (2 : Int)) fun r74 =>
         O.bind (F_bridge_Bridge_In.S k (0 : Int) r74 r4.2.1 r4.2.2) fun r75 =>
         O.bind (F_aqueductlaw20_from.S k (2 : Int) (1 : Int)) fun r76 =>
         O.bind (F_bridge_Bridge_In.S k (1 : Int) r76 r75.2.1 r75.2.2) fun r77 =>
         O.bind (F_aqueductlaw20_from.S k (3 : Int) (1 : Int)) fun r78 =>
         O.bind (F_bridge_Bridge_In.S k (0 : Int) r78 r77.2.1 r77.2.2) fun r79 =>
         O.bind (F_aqueductlaw20_from.S k (3 : Int) (1 : Int)) fun r80 =>
         O.bind (F_bridge_Bridge_In.S k (3 : Int) r80 r79.2.1 r79.2.2) fun r81 =>
         O.bind (F_bridge_Bridge_Out.S k (2 : Int) r81.2.1 r81.2.2) fun r82 =>
         O.bind (F_bridge_Bridge_Out.S k (2 : Int) r82.2.1 r82.2.2) fun r83 =>
         O.cond (decide (r28 = (200 : Int))) (
          O.cond (decide (r31.1 = (180 : Int))) (
           O.cond (decide (r72 = (190 : Int))) (
            O.bind (F_aqueductref11_Same.S k r75.1.1 [(1 : Int), (2 : Int)]) fun r84 =>
            O.cond r84 (
             O.cond (decide (r75.1.2 = (0 : Int))) (
              O.bind (F_aqueductref11_Same.S k r77.1.1 [(0 : Int)]) fun r85 =>
              O.cond r85 (
               O.cond (decide (r77.1.2 = (0 : Int))) (
                O.cond (decide ((List.length r79.1.1 : Int) = (0 : Int))) (
                 O.cond (decide (r79.1.2 = (0 : Int))) (
                  O.cond (decide (r81.1.2 = (1 : Int))) (
                   O.bind (F_aqueductlaw20_from.S k (1 : Int) (2 : Int)) fun r86 =>
                   O.cond (decide (r82.1.1 = r86)) (
                    O.cond r82.1.2 (
                     O.cond (decide (r83.1.1 = (⟨#[]⟩ : ByteArray))) (
                      O.cond (!r83.1.2) (
                       O.cond (decide (r83.2.1.2.2.1 = (3 : Int)) && (decide (r83.2.1.2.2.2.1 = (0 : Int)) && (decide (r83.2.1.2.2.2.2.1 = (0 : Int)) && (decide (r83.2.1.2.2.2.2.2.1 = (1 : Int)) && (decide (r83.2.1.2.2.2.2.2.2.1 = (3 : Int)) && (decide (r83.2.1.2.2.2.2.2.2.2 = (0 : Int)) && true)))))) (
                        O.cond (decide ((1 : Int) ≥ (List.length r83.2.1.1 : Int))) (
                         O.cond false (
                          O.bind (F_fdb_Table_Rows.S k r83.2.2) fun r87 =>
                          .ok (decide ((List.length r87.1 : Int) = (3 : Int)))) (
                          .ok false)) (
                         O.chk (decide (0 ≤ (1 : Int) ∧ (1 : Int) < (List.length r83.2.1.2.1 : Int))) (
                          O.chk (decide (0 ≤ (1 : Int) ∧ (1 : Int) < (List.length r83.2.1.2.1 : Int))) (
                           O.cond (decide ((List.length ((gt ([], (0 : Int), (0 : Int)) r83.2.1.2.1 (1 : Int)).1) : Int) = (1 : Int))) (
                            O.bind (F_fdb_Table_Rows.S k r83.2.2) fun r88 =>
                            .ok (decide ((List.length r88.1 : Int) = (3 : Int)))) (
                            .ok false))))) (
                        .ok false)) (
                       .ok false)) (
                      .ok false)) (
                     .ok false)) (
                    .ok false)) (
                   .ok false)) (
                  .ok false)) (
                 .ok false)) (
                .ok false)) (
               .ok false)) (
              .ok false)) (
             .ok false)) (
            .ok false)) (
           .ok false)) (
          .ok false)))) fun r73 =>
      O.cond false (
       .ok false) (
       O.cond (decide (r4.1 ≠ (0 : Int))) (
        .ok false) (
        O.bind (F_aqueductlaw20_from.S k (1 : Int) (2 : Int)) fun r89 =>
        O.bind (F_bridge_Bridge_In.S k (0 : Int) r89 r4.2.1 r4.2.2) fun r90 =>
        O.bind (F_aqueductlaw20_from.S k (2 : Int) (1 : Int)) fun r91 =>
        O.bind (F_bridge_Bridge_In.S k (1 : Int) r91 r90.2.1 r90.2.2) fun r92 =>
        O.bind (F_aqueductlaw20_from.S k (3 : Int) (1 : Int)) fun r93 =>
        O.bind (F_bridge_Bridge_In.S k (0 : Int) r93 r92.2.1 r92.2.2) fun r94 =>
        O.bind (F_aqueductlaw20_from.S k (3 : Int) (1 : Int)) fun r95 =>
        O.bind (F_bridge_Bridge_In.S k (3 : Int) r95 r94.2.1 r94.2.2) fun r96 =>
        O.bind (F_bridge_Bridge_Out.S k (2 : Int) r96.2.1 r96.2.2) fun r97 =>
        O.bind (F_bridge_Bridge_Out.S k (2 : Int) r97.2.1 r97.2.2) fun r98 =>
        O.cond (decide (r28 = (200 : Int))) (
         O.cond (decide (r31.1 = (180 : Int))) (
          O.cond (decide (r73.1 = (190 : Int))) (
           O.bind (F_aqueductref11_Same.S k r90.1.1 [(1 : Int), (2 : Int)]) fun r99 =>
           O.cond r99 (
            O.cond (decide (r90.1.2 = (0 : Int))) (
             O.bind (F_aqueductref11_Same.S k r92.1.1 [(0 : Int)]) fun r100 =>
             O.cond r100 (
              O.cond (decide (r92.1.2 = (0 : Int))) (
               O.cond (decide ((List.length r94.1.1 : Int) = (0 : Int))) (
                O.cond (decide (r94.1.2 = (0 : Int))) (
                 O.cond (decide (r96.1.2 = (1 : Int))) (
                  O.bind (F_aqueductlaw20_from.S k (1 : Int) (2 : Int)) fun r101 =>
                  O.cond (decide (r97.1.1 = r101)) (
                   O.cond r97.1.2 (
                    O.cond (decide (r98.1.1 = (⟨#[]⟩ : ByteArray))) (
                     O.cond (!r98.1.2) (
                      O.cond (decide (r98.2.1.2.2.1 = (3 : Int)) && (decide (r98.2.1.2.2.2.1 = (0 : Int)) && (decide (r98.2.1.2.2.2.2.1 = (0 : Int)) && (decide (r98.2.1.2.2.2.2.2.1 = (1 : Int)) && (decide (r98.2.1.2.2.2.2.2.2.1 = (3 : Int)) && (decide (r98.2.1.2.2.2.2.2.2.2 = (0 : Int)) && true)))))) (
                       O.cond (decide ((1 : Int) ≥ (List.length r98.2.1.1 : Int))) (
                        O.cond false (
                         O.bind (F_fdb_Table_Rows.S k r98.2.2) fun r102 =>
                         .ok (decide ((List.length r102.1 : Int) = (3 : Int)))) (
                         .ok false)) (
                        O.chk (decide (0 ≤ (1 : Int) ∧ (1 : Int) < (List.length r98.2.1.2.1 : Int))) (
                         O.chk (decide (0 ≤ (1 : Int) ∧ (1 : Int) < (List.length r98.2.1.2.1 : Int))) (
                          O.cond (decide ((List.length ((gt ([], (0 : Int), (0 : Int)) r98.2.1.2.1 (1 : Int)).1) : Int) = (1 : Int))) (
                           O.bind (F_fdb_Table_Rows.S k r98.2.2) fun r103 =>
                           .ok (decide ((List.length r103.1 : Int) = (3 : Int)))) (
                           .ok false))))) (
                       .ok false)) (
                      .ok false)) (
                     .ok false)) (
                    .ok false)) (
                   .ok false)) (
                  .ok false)) (
                 .ok false)) (
                .ok false)) (
               .ok false)) (
              .ok false)) (
             .ok false)) (
            .ok false)) (
           .ok false)) (
          .ok false)) (
         .ok false)))))) fun r29 =>
   O.chk (decide (0 ≤ (3 : Int) ∧ (3 : Int) = (3 : Int) ∧ (3 : Int) ≤ 1073741824)) (
    O.sum (F_bridge_New.S k (List.replicate (3 : Int).toNat ((0 : Int), [])) (0 : Int) (9 : Int) (2 : Int)) (fun r104 =>
     O.chk (decide (0 ≤ (3 : Int) ∧ (3 : Int) = (3 : Int) ∧ (3 : Int) ≤ 1073741824)) (
      O.sum (F_bridge_New.S k (List.replicate (3 : Int).toNat ((0 : Int), [])) (9 : Int) (9 : Int) (0 : Int)) (fun r106 =>
       O.cond false (
        .ok false) (
        O.cond (decide (r4.1 ≠ (0 : Int))) (
         .ok false) (
         O.bind (F_aqueductlaw20_from.S k (1 : Int) (2 : Int)) fun r108 =>
         O.bind (F_bridge_Bridge_In.S k (0 : Int) r108 r4.2.1 r4.2.2) fun r109 =>
         O.bind (F_aqueductlaw20_from.S k (2 : Int) (1 : Int)) fun r110 =>
         O.bind (F_bridge_Bridge_In.S k (1 : Int) r110 r109.2.1 r109.2.2) fun r111 =>
         O.bind (F_aqueductlaw20_from.S k (3 : Int) (1 : Int)) fun r112 =>
         O.bind (F_bridge_Bridge_In.S k (0 : Int) r112 r111.2.1 r111.2.2) fun r113 =>
         O.bind (F_aqueductlaw20_from.S k (3 : Int) (1 : Int)) fun r114 =>
         O.bind (F_bridge_Bridge_In.S k (3 : Int) r114 r113.2.1 r113.2.2) fun r115 =>
         O.bind (F_bridge_Bridge_Out.S k (2 : Int) r115.2.1 r115.2.2) fun r116 =>
         O.bind (F_bridge_Bridge_Out.S k (2 : Int) r116.2.1 r116.2.2) fun r117 =>
         O.cond (decide (r29.1 = (200 : Int))) (
          O.cond (decide (r104 = (180 : Int))) (
           O.cond (decide (r106 = (190 : Int))) (
            O.bind (F_aqueductref11_Same.S k r109.1.1 [(1 : Int), (2 : Int)]) fun r118 =>
            O.cond r118 (
             O.cond (decide (r109.1.2 = (0 : Int))) (
              O.bind (F_aqueductref11_Same.S k r111.1.1 [(0 : Int)]) fun r119 =>
              O.cond r119 (
               O.cond (decide (r111.1.2 = (0 : Int))) (
                O.cond (decide ((List.length r113.1.1 : Int) = (0 : Int))) (
                 O.cond (decide (r113.1.2 = (0 : Int))) (
                  O.cond (decide (r115.1.2 = (1 : Int))) (
                   O.bind (F_aqueductlaw20_from.S k (1 : Int) (2 : Int)) fun r120 =>
                   O.cond (decide (r116.1.1 = r120)) (
                    O.cond r116.1.2 (
                     O.cond (decide (r117.1.1 = (⟨#[]⟩ : ByteArray))) (
                      O.cond (!r117.1.2) (
                       O.cond (decide (r117.2.1.2.2.1 = (3 : Int)) && (decide (r117.2.1.2.2.2.1 = (0 : Int)) && (decide (r117.2.1.2.2.2.2.1 = (0 : Int)) && (decide (r117.2.1.2.2.2.2.2.1 = (1 : Int)) && (decide (r117.2.1.2.2.2.2.2.2.1 = (3 : Int)) && (decide (r117.2.1.2.2.2.2.2.2.2 = (0 : Int)) && true)))))) (
                        O.cond (decide ((1 : Int) ≥ (List.length r117.2.1.1 : Int))) (
                         O.cond false (
                          O.bind (F_fdb_Table_Rows.S k r117.2.2) fun r121 =>
                          .ok (decide ((List.length r121.1 : Int) = (3 : Int)))) (
                          .ok false)) (
                         O.chk (decide (0 ≤ (1 : Int) ∧ (1 : Int) < (List.length r117.2.1.2.1 : Int))) (
                          O.chk (decide (0 ≤ (1 : Int) ∧ (1 : Int) < (List.length r117.2.1.2.1 : Int))) (
                           O.cond (decide ((List.length ((gt ([], (0 : Int), (0 : Int)) r117.2.1.2.1 (1 : Int)).1) : Int) = (1 : Int))) (
                            O.bind (F_fdb_Table_Rows.S k r117.2.2) fun r122 =>
                            .ok (decide ((List.length r122.1 : Int) = (3 : Int)))) (
                            .ok false))))) (
                        .ok false)) (
                       .ok false)) (
                      .ok false)) (
                     .ok false)) (
                    .ok false)) (
                   .ok false)) (
                  .ok false)) (
                 .ok false)) (
                .ok false)) (
               .ok false)) (
              .ok false)) (
             .ok false)) (
            .ok false)) (
           .ok false)) (
          .ok false)))) fun r107 =>
      O.cond false (
       .ok false) (
       O.cond (decide (r4.1 ≠ (0 : Int))) (
        .ok false) (
        O.bind (F_aqueductlaw20_from.S k (1 : Int) (2 : Int)) fun r123 =>
        O.bind (F_bridge_Bridge_In.S k (0 : Int) r123 r4.2.1 r4.2.2) fun r124 =>
        O.bind (F_aqueductlaw20_from.S k (2 : Int) (1 : Int)) fun r125 =>
        O.bind (F_bridge_Bridge_In.S k (1 : Int) r125 r124.2.1 r124.2.2) fun r126 =>
        O.bind (F_aqueductlaw20_from.S k (3 : Int) (1 : Int)) fun r127 =>
        O.bind (F_bridge_Bridge_In.S k (0 : Int) r127 r126.2.1 r126.2.2) fun r128 =>
        O.bind (F_aqueductlaw20_from.S k (3 : Int) (1 : Int)) fun r129 =>
        O.bind (F_bridge_Bridge_In.S k (3 : Int) r129 r128.2.1 r128.2.2) fun r130 =>
        O.bind (F_bridge_Bridge_Out.S k (2 : Int) r130.2.1 r130.2.2) fun r131 =>
        O.bind (F_bridge_Bridge_Out.S k (2 : Int) r131.2.1 r131.2.2) fun r132 =>
        O.cond (decide (r29.1 = (200 : Int))) (
         O.cond (decide (r104 = (180 : Int))) (
          O.cond (decide (r107.1 = (190 : Int))) (
           O.bind (F_aqueductref11_Same.S k r124.1.1 [(1 : Int), (2 : Int)]) fun r133 =>
           O.cond r133 (
            O.cond (decide (r124.1.2 = (0 : Int))) (
             O.bind (F_aqueductref11_Same.S k r126.1.1 [(0 : Int)]) fun r134 =>
             O.cond r134 (
              O.cond (decide (r126.1.2 = (0 : Int))) (
               O.cond (decide ((List.length r128.1.1 : Int) = (0 : Int))) (
                O.cond (decide (r128.1.2 = (0 : Int))) (
                 O.cond (decide (r130.1.2 = (1 : Int))) (
                  O.bind (F_aqueductlaw20_from.S k (1 : Int) (2 : Int)) fun r135 =>
                  O.cond (decide (r131.1.1 = r135)) (
                   O.cond r131.1.2 (
                    O.cond (decide (r132.1.1 = (⟨#[]⟩ : ByteArray))) (
                     O.cond (!r132.1.2) (
                      O.cond (decide (r132.2.1.2.2.1 = (3 : Int)) && (decide (r132.2.1.2.2.2.1 = (0 : Int)) && (decide (r132.2.1.2.2.2.2.1 = (0 : Int)) && (decide (r132.2.1.2.2.2.2.2.1 = (1 : Int)) && (decide (r132.2.1.2.2.2.2.2.2.1 = (3 : Int)) && (decide (r132.2.1.2.2.2.2.2.2.2 = (0 : Int)) && true)))))) (
                       O.cond (decide ((1 : Int) ≥ (List.length r132.2.1.1 : Int))) (
                        O.cond false (
                         O.bind (F_fdb_Table_Rows.S k r132.2.2) fun r136 =>
                         .ok (decide ((List.length r136.1 : Int) = (3 : Int)))) (
                         .ok false)) (
                        O.chk (decide (0 ≤ (1 : Int) ∧ (1 : Int) < (List.length r132.2.1.2.1 : Int))) (
                         O.chk (decide (0 ≤ (1 : Int) ∧ (1 : Int) < (List.length r132.2.1.2.1 : Int))) (
                          O.cond (decide ((List.length ((gt ([], (0 : Int), (0 : Int)) r132.2.1.2.1 (1 : Int)).1) : Int) = (1 : Int))) (
                           O.bind (F_fdb_Table_Rows.S k r132.2.2) fun r137 =>
                           .ok (decide ((List.length r137.1 : Int) = (3 : Int)))) (
                           .ok false))))) (
                       .ok false)) (
                      .ok false)) (
                     .ok false)) (
                    .ok false)) (
                   .ok false)) (
                  .ok false)) (
                 .ok false)) (
                .ok false)) (
               .ok false)) (
              .ok false)) (
             .ok false)) (
            .ok false)) (
           .ok false)) (
          .ok false)) (
         .ok false))))) fun r105 =>
    O.chk (decide (0 ≤ (3 : Int) ∧ (3 : Int) = (3 : Int) ∧ (3 : Int) ≤ 1073741824)) (
     O.sum (F_bridge_New.S k (List.replicate (3 : Int).toNat ((0 : Int), [])) (9 : Int) (9 : Int) (0 : Int)) (fun r138 =>
      O.cond false (
       .ok false) (
       O.cond (decide (r4.1 ≠ (0 : Int))) (
        .ok false) (
        O.bind (F_aqueductlaw20_from.S k (1 : Int) (2 : Int)) fun r140 =>
        O.bind (F_bridge_Bridge_In.S k (0 : Int) r140 r4.2.1 r4.2.2) fun r141 =>
        O.bind (F_aqueductlaw20_from.S k (2 : Int) (1 : Int)) fun r142 =>
        O.bind (F_bridge_Bridge_In.S k (1 : Int) r142 r141.2.1 r141.2.2) fun r143 =>
        O.bind (F_aqueductlaw20_from.S k (3 : Int) (1 : Int)) fun r144 =>
        O.bind (F_bridge_Bridge_In.S k (0 : Int) r144 r143.2.1 r143.2.2) fun r145 =>
        O.bind (F_aqueductlaw20_from.S k (3 : Int) (1 : Int)) fun r146 =>
        O.bind (F_bridge_Bridge_In.S k (3 : Int) r146 r145.2.1 r145.2.2) fun r147 =>
        O.bind (F_bridge_Bridge_Out.S k (2 : Int) r147.2.1 r147.2.2) fun r148 =>
        O.bind (F_bridge_Bridge_Out.S k (2 : Int) r148.2.1 r148.2.2) fun r149 =>
        O.cond (decide (r29.1 = (200 : Int))) (
         O.cond (decide (r105.1 = (180 : Int))) (
          O.cond (decide (r138 = (190 : Int))) (
           O.bind (F_aqueductref11_Same.S k r141.1.1 [(1 : Int), (2 : Int)]) fun r150 =>
           O.cond r150 (
            O.cond (decide (r141.1.2 = (0 : Int))) (
             O.bind (F_aqueductref11_Same.S k r143.1.1 [(0 : Int)]) fun r151 =>
             O.cond r151 (
              O.cond (decide (r143.1.2 = (0 : Int))) (
               O.cond (decide ((List.length r145.1.1 : Int) = (0 : Int))) (
                O.cond (decide (r145.1.2 = (0 : Int))) (
                 O.cond (decide (r147.1.2 = (1 : Int))) (
                  O.bind (F_aqueductlaw20_from.S k (1 : Int) (2 : Int)) fun r152 =>
                  O.cond (decide (r148.1.1 = r152)) (
                   O.cond r148.1.2 (
                    O.cond (decide (r149.1.1 = (⟨#[]⟩ : ByteArray))) (
                     O.cond (!r149.1.2) (
                      O.cond (decide (r149.2.1.2.2.1 = (3 : Int)) && (decide (r149.2.1.2.2.2.1 = (0 : Int)) && (decide (r149.2.1.2.2.2.2.1 = (0 : Int)) && (decide (r149.2.1.2.2.2.2.2.1 = (1 : Int)) && (decide (r149.2.1.2.2.2.2.2.2.1 = (3 : Int)) && (decide (r149.2.1.2.2.2.2.2.2.2 = (0 : Int)) && true)))))) (
                       O.cond (decide ((1 : Int) ≥ (List.length r149.2.1.1 : Int))) (
                        O.cond false (
                         O.bind (F_fdb_Table_Rows.S k r149.2.2) fun r153 =>
                         .ok (decide ((List.length r153.1 : Int) = (3 : Int)))) (
                         .ok false)) (
                        O.chk (decide (0 ≤ (1 : Int) ∧ (1 : Int) < (List.length r149.2.1.2.1 : Int))) (
                         O.chk (decide (0 ≤ (1 : Int) ∧ (1 : Int) < (List.length r149.2.1.2.1 : Int))) (
                          O.cond (decide ((List.length ((gt ([], (0 : Int), (0 : Int)) r149.2.1.2.1 (1 : Int)).1) : Int) = (1 : Int))) (
                           O.bind (F_fdb_Table_Rows.S k r149.2.2) fun r154 =>
                           .ok (decide ((List.length r154.1 : Int) = (3 : Int)))) (
                           .ok false))))) (
                       .ok false)) (
                      .ok false)) (
                     .ok false)) (
                    .ok false)) (
                   .ok false)) (
                  .ok false)) (
                 .ok false)) (
                .ok false)) (
               .ok false)) (
              .ok false)) (
             .ok false)) (
            .ok false)) (
           .ok false)) (
          .ok false)) (
         .ok false)))) fun r139 =>
     O.cond false (
      .ok false) (
      O.cond (decide (r4.1 ≠ (0 : Int))) (
       .ok false) (
       O.bind (F_aqueductlaw20_from.S k (1 : Int) (2 : Int)) fun r155 =>
       O.bind (F_bridge_Bridge_In.S k (0 : Int) r155 r4.2.1 r4.2.2) fun r156 =>
       O.bind (F_aqueductlaw20_from.S k (2 : Int) (1 : Int)) fun r157 =>
       O.bind (F_bridge_Bridge_In.S k (1 : Int) r157 r156.2.1 r156.2.2) fun r158 =>
       O.bind (F_aqueductlaw20_from.S k (3 : Int) (1 : Int)) fun r159 =>
       O.bind (F_bridge_Bridge_In.S k (0 : Int) r159 r158.2.1 r158.2.2) fun r160 =>
       O.bind (F_aqueductlaw20_from.S k (3 : Int) (1 : Int)) fun r161 =>
       O.bind (F_bridge_Bridge_In.S k (3 : Int) r161 r160.2.1 r160.2.2) fun r162 =>
       O.bind (F_bridge_Bridge_Out.S k (2 : Int) r162.2.1 r162.2.2) fun r163 =>
       O.bind (F_bridge_Bridge_Out.S k (2 : Int) r163.2.1 r163.2.2) fun r164 =>
       O.cond (decide (r29.1 = (200 : Int))) (
        O.cond (decide (r105.1 = (180 : Int))) (
         O.cond (decide (r139.1 = (190 : Int))) (
          O.bind (F_aqueductref11_Same.S k r156.1.1 [(1 : Int), (2 : Int)]) fun r165 =>
          O.cond r165 (
           O.cond (decide (r156.1.2 = (0 : Int))) (
            O.bind (F_aqueductref11_Same.S k r158.1.1 [(0 : Int)]) fun r166 =>
            O.cond r166 (
             O.cond (decide (r158.1.2 = (0 : Int))) (
              O.cond (decide ((List.length r160.1.1 : Int) = (0 : Int))) (
               O.cond (decide (r160.1.2 = (0 : Int))) (
                O.cond (decide (r162.1.2 = (1 : Int))) (
                 O.bind (F_aqueductlaw20_from.S k (1 : Int) (2 : Int)) fun r167 =>
                 O.cond (decide (r163.1.1 = r167)) (
                  O.cond r163.1.2 (
                   O.cond (decide (r164.1.1 = (⟨#[]⟩ : ByteArray))) (
                    O.cond (!r164.1.2) (
                     O.cond (decide (r164.2.1.2.2.1 = (3 : Int)) && (decide (r164.2.1.2.2.2.1 = (0 : Int)) && (decide (r164.2.1.2.2.2.2.1 = (0 : Int)) && (decide (r164.2.1.2.2.2.2.2.1 = (1 : Int)) && (decide (r164.2.1.2.2.2.2.2.2.1 = (3 : Int)) && (decide (r164.2.1.2.2.2.2.2.2.2 = (0 : Int)) && true)))))) (
                      O.cond (decide ((1 : Int) ≥ (List.length r164.2.1.1 : Int))) (
                       O.cond false (
                        O.bind (F_fdb_Table_Rows.S k r164.2.2) fun r168 =>
                        .ok (decide ((List.length r168.1 : Int) = (3 : Int)))) (
                        .ok false)) (
                       O.chk (decide (0 ≤ (1 : Int) ∧ (1 : Int) < (List.length r164.2.1.2.1 : Int))) (
                        O.chk (decide (0 ≤ (1 : Int) ∧ (1 : Int) < (List.length r164.2.1.2.1 : Int))) (
                         O.cond (decide ((List.length ((gt ([], (0 : Int), (0 : Int)) r164.2.1.2.1 (1 : Int)).1) : Int) = (1 : Int))) (
                          O.bind (F_fdb_Table_Rows.S k r164.2.2) fun r169 =>
                          .ok (decide ((List.length r169.1 : Int) = (3 : Int)))) (
                          .ok false))))) (
                      .ok false)) (
                     .ok false)) (
                    .ok false)) (
                   .ok false)) (
                  .ok false)) (
                 .ok false)) (
                .ok false)) (
               .ok false)) (
              .ok false)) (
             .ok false)) (
            .ok false)) (
           .ok false)) (
          .ok false)) (
         .ok false)) (
        .ok false))))))
theorem eq (k : Nat) : evFn (T := Bool) tab (calOf (cal k)) Go.Proofs.Try.f13 nt k 0 [] [] ⟨0, false, []⟩ (fun v st => outK ct.ob (γ0 ct) ct.outs v st .ok) (fun e st => outP ct.ob (γ0 ct) ct.outs e st .ok) = S k := by kernel_rfl
theorem ok (k : Nat) : FnOkC Try.prog 13 ct (fun (_ : Unit) (_ : Unit) => S k) :=
  FnOkC.of_ev (C := ct) tab_ok rfl (calOf_ok (cal_ok k)) mixed Try.func13 nt k (fun _ _ => rfl) (fun (_ : Unit) (_ : Unit) => eq k)
theorem hd {T : Type} (k : Nat) : HdOk Try.prog 13 (pureC (T := T) ct [] (fun (_ : Unit) (_ : Unit) => S k)) :=
  pureC_ok rfl [] (ok k) Try.call13
end F_aqueductlaw20_fixed
namespace F_aqueductlaw20_BridgeKnown
/-! ### aqueduct/aqueductlaw20.BridgeKnown: function 4 -/
noncomputable def ct : Ct := ⟨.some (.cons (.leaf (.int .i64)) (.one (.row false 31 [.int .i64, .int .i64, .str]) [])), [], [⟨.val (.leaf .bool), [], []⟩]⟩
noncomputable def nt : Notes := ⟨[(11, ⟨[1, 5, 6, 8, 10], []⟩), (11, ⟨[1, 5, 6, 8, 10], []⟩)], [], [(13, [0, 1, 2, 3, 4, 5, 6, 7, 8, 9, 10, 11, 12, 13, 14, 15, 16, 17, 18, 19, 20, 21, 22, 23])], [(7, 9)], []⟩
noncomputable def cal0 {T : Type} (k : Nat) : List (FuncId × Hd T) := [(10, pureC F_bridge_Bridge_In.ct [.arg 0 0, .fld 0 1] (fun (x : Int × ByteArray) (g : TY2 × TY3) => F_bridge_Bridge_In.S k x.1 x.2 g.1 g.2)), (13, pureC F_aqueductlaw20_fixed.ct [] (fun (_ : Unit) (_ : Unit) => F_aqueductlaw20_fixed.S k)), (14, pureC F_bridge_New.ct [] (fun (x : TY9 × Int × Int × Int) (_ : Unit) => F_bridge_New.S k x.1 x.2.1 x.2.2.1 x.2.2.2)), (15, pureC F_aqueductlaw20_from.ct [] (fun (x : Int × Int) (_ : Unit) => F_aqueductlaw20_from.S k x.1 x.2)), (16, pureC F_aqueductref11_Same.ct [] (fun (x : List Int × List Int) (_ : Unit) => F_aqueductref11_Same.S k x.1 x.2))]
theorem cal0_ok {T : Type} (k : Nat) : HdsOk Try.prog (cal0 (T := T) k) := ⟨F_bridge_Bridge_In.hd k, F_aqueductlaw20_fixed.hd k, F_bridge_New.hd k, F_aqueductlaw20_from.hd k, F_aqueductref11_Same.hd k, trivial⟩
noncomputable def cal {T : Type} (k : Nat) : List (FuncId × Hd T) := cal0 k
theorem cal_ok {T : Type} (k : Nat) : HdsOk Try.prog (cal (T := T) k) := cal0_ok k
noncomputable abbrev la (k : Nat) (Rs : List (Fr → St → O (Bool))) (ds : List Dir) (j : Nat) : Fr → St → O (Bool) := loopAt tab (calOf (cal k)) Go.Proofs.Try.f4.ntmps nt k Rs ds (bodyOf Go.Proofs.Try.f4) (finK tab Go.Proofs.Try.f4.results.toList (fun v st => outK ct.ob (γ0 ct) ct.outs v st .ok) (fun e st => outP ct.ob (γ0 ct) ct.outs e st .ok)) j
noncomputable def l0_b (k : Nat) (a0 : Int) (a1 : List (Int × Int × ByteArray)) (R_l0 : O Bool) : O Bool :=
  O.cond (decide ((0 : Int) < (List.length a1 : Int))) (
   O.cond true (
    O.chk (decide (0 ≤ (0 : Int) ∧ (0 : Int) < (List.length a1 : Int) ∧ (List.length a1 : Int) ≤ (List.length a1 : Int))) (
     O.chk (decide (0 ≤ (0 : Int) ∧ (0 : Int) < (List.length a1 : Int))) (
      O.chk (decide (0 ≤ (0 : Int) ∧ (0 : Int) < (List.length a1 : Int) ∧ (List.length a1 : Int) ≤ (List.length a1 : Int))) (
       O.chk (decide (0 ≤ (0 : Int) ∧ (0 : Int) < (List.length a1 : Int))) (
        O.chk (decide (0 ≤ (0 : Int) ∧ (0 : Int) < (List.length a1 : Int) ∧ (List.length a1 : Int) ≤ (List.length a1 : Int))) (
         O.chk (decide (0 ≤ (0 : Int) ∧ (0 : Int) < (List.length a1 : Int))) (
          O.chk (decide ((IntKind.i64.wrap ((2 : Int) + (Int.tmod (bAnd .i64 a0 (7 : Int)) (7 : Int)))) ≠ 0)) (
           O.bind (F_aqueductlaw20_from.S k (bAnd .i64 (gt ((0 : Int), (0 : Int), ByteArray.empty) a1 (0 : Int)).1 (7 : Int)) (bAnd .i64 (shR .i64 (gt ((0 : Int), (0 : Int), ByteArray.empty) a1 (0 : Int)).2.1 (3 : Int)) (7 : Int))) fun r7 =>
           .no)))))))) (
    O.bind (F_aqueductlaw20_fixed.S k) fun r8 =>
    .ok r8)) (
   O.bind (F_aqueductlaw20_fixed.S k) fun r9 =>
   .ok r9)
noncomputable def l0 (k : Nat) (a0 : Int) (a1 : List (Int × Int × ByteArray)) : Nat → O Bool
  | 0 => .no
  | j + 1 => l0_b k a0 a1 (l0 k a0 a1 j)
theorem l0_eq (k : Nat) (a0 : Int) (a1 : List (Int × Int × ByteArray)) : ∀ (j : Nat), la k [] [.r, .r, .r, .r, .r, .r, .l, .r, .b] j ⟨[(1, .osl 0), (5, .int .i64 (IntKind.i64.wrap ((2 : Int) + (Int.tmod (bAnd .i64 a0 (7 : Int)) (7 : Int))))), (6, .nilp), (8, .osl 1), (10, .int .i64 (0 : Int))], [], 0, []⟩ ⟨2, true, [(0, .row false 31 [.int .i64, .int .i64, .str] a1), (1, .row true 3 [.int .i64] (su (su (su (su (su (su (su (su (List.replicate (8 : Int).toNat (0 : Int)) (0 : Int) (-1 : Int)) (1 : Int) (-1 : Int)) (2 : Int) (-1 : Int)) (3 : Int) (-1 : Int)) (4 : Int) (-1 : Int)) (5 : Int) (-1 : Int)) (6 : Int) (-1 : Int)) (7 : Int) (-1 : Int)))]⟩ = l0 k a0 a1 j := by
  intro j
  induction j with
  | zero => rfl
  | succ j ih =>
    have rs : la k [] [.r, .r, .r, .r, .r, .r, .l, .r, .b] j ⟨[(1, .osl 0), (5, .int .i64 (IntKind.i64.wrap ((2 : Int) + (Int.tmod (bAnd .i64 a0 (7 : Int)) (7 : Int))))), (6, .nilp), (8, .osl 1), (10, .int .i64 (0 : Int))], [], 0, []⟩ ⟨2, true, [(0, .row false 31 [.int .i64, .int .i64, .str] a1), (1, .row true 3 [.int .i64] (su (su (su (su (su (su (su (su (List.replicate (8 : Int).toNat (0 : Int)) (0 : Int) (-1 : Int)) (1 : Int) (-1 : Int)) (2 : Int) (-1 : Int)) (3 : Int) (-1 : Int)) (4 : Int) (-1 : Int)) (5 : Int) (-1 : Int)) (6 : Int) (-1 : Int)) (7 : Int) (-1 : Int)))]⟩ = l0 k a0 a1 j := by exact ih
    have h : la k [] [.r, .r, .r, .r, .r, .r, .l, .r, .b] (j + 1) ⟨[(1, .osl 0), (5, .int .i64 (IntKind.i64.wrap ((2 : Int) + (Int.tmod (bAnd .i64 a0 (7 : Int)) (7 : Int))))), (6, .nilp), (8, .osl 1), (10, .int .i64 (0 : Int))], [], 0, []⟩ ⟨2, true, [(0, .row false 31 [.int .i64, .int .i64, .str] a1), (1, .row true 3 [.int .i64] (su (su (su (su (su (su (su (su (List.replicate (8 : Int).toNat (0 : Int)) (0 : Int) (-1 : Int)) (1 : Int) (-1 : Int)) (2 : Int) (-1 : Int)) (3 : Int) (-1 : Int)) (4 : Int) (-1 : Int)) (5 : Int) (-1 : Int)) (6 : Int) (-1 : Int)) (7 : Int) (-1 : Int)))]⟩ = l0_b k a0 a1 (la k [] [.r, .r, .r, .r, .r, .r, .l, .r, .b] j ⟨[(1, .osl 0), (5, .int .i64 (IntKind.i64.wrap ((2 : Int) + (Int.tmod (bAnd .i64 a0 (7 : Int)) (7 : Int))))), (6, .nilp), (8, .osl 1), (10, .int .i64 (0 : Int))], [], 0, []⟩ ⟨2, true, [(0, .row false 31 [.int .i64, .int .i64, .str] a1), (1, .row true 3 [.int .i64] (su (su (su (su (su (su (su (su (List.replicate (8 : Int).toNat (0 : Int)) (0 : Int) (-1 : Int)) (1 : Int) (-1 : Int)) (2 : Int) (-1 : Int)) (3 : Int) (-1 : Int)) (4 : Int) (-1 : Int)) (5 : Int) (-1 : Int)) (6 : Int) (-1 : Int)) (7 : Int) (-1 : Int)))]⟩) := by kernel_rfl
    exact h.trans (by rw [rs]; rfl)
noncomputable def l1_b (k : Nat) (a0 : Int) (a1 : List (Int × Int × ByteArray)) (R_l1 : Int → Int → Int → Int → Int → Int → Int → (List Int) → TY9 → Int → Int → TY6 → TY0 → O Bool) (v13 : Int) (v14 : Int) (v15 : Int) (v16 : Int) (v17 : Int) (v18 : Int) (v19 : Int) (v20 : List Int) (v21 : List (Int × List Int)) (v22 : Int) (v23 : Int) (v24 : List TY8) (v25 : List TY1) : O Bool :=
  O.cond (decide (v13 < (List.length a1 : Int))) (
   O.cond (decide (v13 < (40 : Int))) (
    O.chk (decide (0 ≤ v13 ∧ v13 < (List.length a1 : Int) ∧ (List.length a1 : Int) ≤ (List.length a1 : Int))) (
     O.chk (decide (0 ≤ v13 ∧ v13 < (List.length a1 : Int))) (
      O.chk (decide (0 ≤ v13 ∧ v13 < (List.length a1 : Int) ∧ (List.length a1 : Int) ≤ (List.length a1 : Int))) (
       O.chk (decide (0 ≤ v13 ∧ v13 < (List.length a1 : Int))) (
        O.chk (decide (0 ≤ v13 ∧ v13 < (List.length a1 : Int) ∧ (List.length a1 : Int) ≤ (List.length a1 : Int))) (
         O.chk (decide (0 ≤ v13 ∧ v13 < (List.length a1 : Int))) (
          O.chk (decide ((IntKind.i64.wrap ((2 : Int) + (Int.tmod (bAnd .i64 a0 (7 : Int)) (7 : Int)))) ≠ 0)) (
           O.bind (F_aqueductlaw20_from.S k (bAnd .i64 (gt ((0 : Int), (0 : Int), ByteArray.empty) a1 v13).1 (7 : Int)) (bAnd .i64 (shR .i64 (gt ((0 : Int), (0 : Int), ByteArray.empty) a1 v13).2.1 (3 : Int)) (7 : Int))) fun r31 =>
           O.bind (F_bridge_Bridge_In.S k (Int.tmod (bAnd .i64 (gt ((0 : Int), (0 : Int), ByteArray.empty) a1 v13).2.1 (65535 : Int)) (IntKind.i64.wrap ((2 : Int) + (Int.tmod (bAnd .i64 a0 (7 : Int)) (7 : Int))))) r31 (v21, v24, (v14, v15, v16, v17, v18, v19)) (v22, v23, v25)) fun r32 =>
           O.chk (decide (0 ≤ (bAnd .i64 (gt ((0 : Int), (0 : Int), ByteArray.empty) a1 v13).1 (7 : Int)) ∧ (bAnd .i64 (gt ((0 : Int), (0 : Int), ByteArray.empty) a1 v13).1 (7 : Int)) < (List.length v20 : Int) ∧ (List.length v20 : Int) ≤ (List.length v20 : Int))) (
            O.chk (decide (0 ≤ (bAnd .i64 (gt ((0 : Int), (0 : Int), ByteArray.empty) a1 v13).1 (7 : Int)) ∧ (bAnd .i64 (gt ((0 : Int), (0 : Int), ByteArray.empty) a1 v13).1 (7 : Int)) < (List.length v20 : Int))) (
             O.cond (decide (r32.1.2 ≠ (0 : Int))) (
              .ok false) (
              O.chk (decide (0 ≤ (bAnd .i64 (shR .i64 (gt ((0 : Int), (0 : Int), ByteArray.empty) a1 v13).2.1 (3 : Int)) (7 : Int)) ∧ (bAnd .i64 (shR .i64 (gt ((0 : Int), (0 : Int), ByteArray.empty) a1 v13).2.1 (3 : Int)) (7 : Int)) < (List.length (su v20 (bAnd .i64 (gt ((0 : Int), (0 : Int), ByteArray.empty) a1 v13).1 (7 : Int)) (Int.tmod (bAnd .i64 (gt ((0 : Int), (0 : Int), ByteArray.empty) a1 v13).2.1 (65535 : Int)) (IntKind.i64.wrap ((2 : Int) + (Int.tmod (bAnd .i64 a0 (7 : Int)) (7 : Int)))))) : Int) ∧ (List.length (su v20 (bAnd .i64 (gt ((0 : Int), (0 : Int), ByteArray.empty) a1 v13).1 (7 : Int)) (Int.tmod (bAnd .i64 (gt ((0 : Int), (0 : Int), ByteArray.empty) a1 v13).2.1 (65535 : Int)) (IntKind.i64.wrap ((2 : Int) + (Int.tmod (bAnd .i64 a0 (7 : Int)) (7 : Int)))))) : Int) ≤ (List.length (su v20 (bAnd .i64 (gt ((0 : Int), (0 : Int), ByteArray.empty) a1 v13).1 (7 : Int)) (Int.tmod (bAnd .i64 (gt ((0 : Int), (0 : Int), ByteArray.empty) a1 v13).2.1 (65535 : Int)) (IntKind.i64.wrap ((2 : Int) + (Int.tmod (bAnd .i64 a0 (7 : Int)) (7 : Int)))))) : Int))) (
               O.chk (decide (0 ≤ (bAnd .i64 (shR .i64 (gt ((0 : Int), (0 : Int), ByteArray.empty) a1 v13).2.1 (3 : Int)) (7 : Int)) ∧ (bAnd .i64 (shR .i64 (gt ((0 : Int), (0 : Int), ByteArray.empty) a1 v13).2.1 (3 : Int)) (7 : Int)) < (List.length (su v20 (bAnd .i64 (gt ((0 : Int), (0 : Int), ByteArray.empty) a1 v13).1 (7 : Int)) (Int.tmod (bAnd .i64 (gt ((0 : Int), (0 : Int), ByteArray.empty) a1 v13).2.1 (65535 : Int)) (IntKind.i64.wrap ((2 : Int) + (Int.tmod (bAnd .i64 a0 (7 : Int)) (7 : Int)))))) : Int))) (
                O.cond (decide ((gt (0 : Int) (su v20 (bAnd .i64 (gt ((0 : Int), (0 : Int), ByteArray.empty) a1 v13).1 (7 : Int)) (Int.tmod (bAnd .i64 (gt ((0 : Int), (0 : Int), ByteArray.empty) a1 v13).2.1 (65535 : Int)) (IntKind.i64.wrap ((2 : Int) + (Int.tmod (bAnd .i64 a0 (7 : Int)) (7 : Int)))))) (bAnd .i64 (shR .i64 (gt ((0 : Int), (0 : Int), ByteArray.empty) a1 v13).2.1 (3 : Int)) (7 : Int))) = (Int.tmod (bAnd .i64 (gt ((0 : Int), (0 : Int), ByteArray.empty) a1 v13).2.1 (65535 : Int)) (IntKind.i64.wrap ((2 : Int) + (Int.tmod (bAnd .i64 a0 (7 : Int)) (7 : Int))))))) (
                 O.cond (decide ((List.length r32.1.1 : Int) > (0 : Int))) (
                  .ok false) (
                  R_l1 (IntKind.i64.wrap (v13 + (1 : Int))) r32.2.1.2.2.1 r32.2.1.2.2.2.1 r32.2.1.2.2.2.2.1 r32.2.1.2.2.2.2.2.1 r32.2.1.2.2.2.2.2.2.1 r32.2.1.2.2.2.2.2.2.2 (su v20 (bAnd .i64 (gt ((0 : Int), (0 : Int), ByteArray.empty) a1 v13).1 (7 : Int)) (Int.tmod (bAnd .i64 (gt ((0 : Int), (0 : Int), ByteArray.empty) a1 v13).2.1 (65535 : Int)) (IntKind.i64.wrap ((2 : Int) + (Int.tmod (bAnd .i64 a0 (7 : Int)) (7 : Int)))))) r32.2.1.1 r32.2.2.1 r32.2.2.2.1 r32.2.1.2.1 r32.2.2.2.2)) (
                 O.chk (decide (0 ≤ (bAnd .i64 (shR .i64 (gt ((0 : Int), (0 : Int), ByteArray.empty) a1 v13).2.1 (3 : Int)) (7 : Int)) ∧ (bAnd .i64 (shR .i64 (gt ((0 : Int), (0 : Int), ByteArray.empty) a1 v13).2.1 (3 : Int)) (7 : Int)) < (List.length (su v20 (bAnd .i64 (gt ((0 : Int), (0 : Int), ByteArray.empty) a1 v13).1 (7 : Int)) (Int.tmod (bAnd .i64 (gt ((0 : Int), (0 : Int), ByteArray.empty) a1 v13).2.1 (65535 : Int)) (IntKind.i64.wrap ((2 : Int) + (Int.tmod (bAnd .i64 a0 (7 : Int)) (7 : Int)))))) : Int) ∧ (List.length (su v20 (bAnd .i64 (gt ((0 : Int), (0 : Int), ByteArray.empty) a1 v13).1 (7 : Int)) (Int.tmod (bAnd .i64 (gt ((0 : Int), (0 : Int), ByteArray.empty) a1 v13).2.1 (65535 : Int)) (IntKind.i64.wrap ((2 : Int) + (Int.tmod (bAnd .i64 a0 (7 : Int)) (7 : Int)))))) : Int) ≤ (List.length (su v20 (bAnd .i64 (gt ((0 : Int), (0 : Int), ByteArray.empty) a1 v13).1 (7 : Int)) (Int.tmod (bAnd .i64 (gt ((0 : Int), (0 : Int), ByteArray.empty) a1 v13).2.1 (65535 : Int)) (IntKind.i64.wrap ((2 : Int) + (Int.tmod (bAnd .i64 a0 (7 : Int)) (7 : Int)))))) : Int))) (
                  O.chk (decide (0 ≤ (bAnd .i64 (shR .i64 (gt ((0 : Int), (0 : Int), ByteArray.empty) a1 v13).2.1 (3 : Int)) (7 : Int)) ∧ (bAnd .i64 (shR .i64 (gt ((0 : Int), (0 : Int), ByteArray.empty) a1 v13).2.1 (3 : Int)) (7 : Int)) < (List.length (su v20 (bAnd .i64 (gt ((0 : Int), (0 : Int), ByteArray.empty) a1 v13).1 (7 : Int)) (Int.tmod (bAnd .i64 (gt ((0 : Int), (0 : Int), ByteArray.empty) a1 v13).2.1 (65535 : Int)) (IntKind.i64.wrap ((2 : Int) + (Int.tmod (bAnd .i64 a0 (7 : Int)) (7 : Int)))))) : Int))) (
                   O.cond (decide ((gt (0 : Int) (su v20 (bAnd .i64 (gt ((0 : Int), (0 : Int), ByteArray.empty) a1 v13).1 (7 : Int)) (Int.tmod (bAnd .i64 (gt ((0 : Int), (0 : Int), ByteArray.empty) a1 v13).2.1 (65535 : Int)) (IntKind.i64.wrap ((2 : Int) + (Int.tmod (bAnd .i64 a0 (7 : Int)) (7 : Int)))))) (bAnd .i64 (shR .i64 (gt ((0 : Int), (0 : Int), ByteArray.empty) a1 v13).2.1 (3 : Int)) (7 : Int))) ≥ (0 : Int))) (
                    O.chk (decide (0 ≤ (bAnd .i64 (shR .i64 (gt ((0 : Int), (0 : Int), ByteArray.empty) a1 v13).2.1 (3 : Int)) (7 : Int)) ∧ (bAnd .i64 (shR .i64 (gt ((0 : Int), (0 : Int), ByteArray.empty) a1 v13).2.1 (3 : Int)) (7 : Int)) < (List.length (su v20 (bAnd .i64 (gt ((0 : Int), (0 : Int), ByteArray.empty) a1 v13).1 (7 : Int)) (Int.tmod (bAnd .i64 (gt ((0 : Int), (0 : Int), ByteArray.empty) a1 v13).2.1 (65535 : Int)) (IntKind.i64.wrap ((2 : Int) + (Int.tmod (bAnd .i64 a0 (7 : Int)) (7 : Int)))))) : Int) ∧ (List.length (su v20 (bAnd .i64 (gt ((0 : Int), (0 : Int), ByteArray.empty) a1 v13).1 (7 : Int)) (Int.tmod (bAnd .i64 (gt ((0 : Int), (0 : Int), ByteArray.empty) a1 v13).2.1 (65535 : Int)) (IntKind.i64.wrap ((2 : Int) + (Int.tmod (bAnd .i64 a0 (7 : Int)) (7 : Int)))))) : Int) ≤ (List.length (su v20 (bAnd .i64 (gt ((0 : Int), (0 : Int), ByteArray.empty) a1 v13).1 (7 : Int)) (Int.tmod (bAnd .i64 (gt ((0 : Int), (0 : Int), ByteArray.empty) a1 v13).2.1 (65535 : Int)) (IntKind.i64.wrap ((2 : Int) + (Int.tmod (bAnd .i64 a0 (7 : Int)) (7 : Int)))))) : Int))) (
                     O.chk (decide (0 ≤ (bAnd .i64 (shR .i64 (gt ((0 : Int), (0 : Int), ByteArray.empty) a1 v13).2.1 (3 : Int)) (7 : Int)) ∧ (bAnd .i64 (shR .i64 (gt ((0 : Int), (0 : Int), ByteArray.empty) a1 v13).2.1 (3 : Int)) (7 : Int)) < (List.length (su v20 (bAnd .i64 (gt ((0 : Int), (0 : Int), ByteArray.empty) a1 v13).1 (7 : Int)) (Int.tmod (bAnd .i64 (gt ((0 : Int), (0 : Int), ByteArray.empty) a1 v13).2.1 (65535 : Int)) (IntKind.i64.wrap ((2 : Int) + (Int.tmod (bAnd .i64 a0 (7 : Int)) (7 : Int)))))) : Int))) (
                      O.bind (F_aqueductref11_Same.S k r32.1.1 [(gt (0 : Int) (su v20 (bAnd .i64 (gt ((0 : Int), (0 : Int), ByteArray.empty) a1 v13).1 (7 : Int)) (Int.tmod (bAnd .i64 (gt ((0 : Int), (0 : Int), ByteArray.empty) a1 v13).2.1 (65535 : Int)) (IntKind.i64.wrap ((2 : Int) + (Int.tmod (bAnd .i64 a0 (7 : Int)) (7 : Int)))))) (bAnd .i64 (shR .i64 (gt ((0 : Int), (0 : Int), ByteArray.empty) a1 v13).2.1 (3 : Int)) (7 : Int)))]) fun r33 =>
                      O.cond (!r33) (
                       .ok false) (
                       O.chk (decide (0 ≤ (bAnd .i64 (shR .i64 (gt ((0 : Int), (0 : Int), ByteArray.empty) a1 v13).2.1 (3 : Int)) (7 : Int)) ∧ (bAnd .i64 (shR .i64 (gt ((0 : Int), (0 : Int), ByteArray.empty) a1 v13).2.1 (3 : Int)) (7 : Int)) < (List.length (su v20 (bAnd .i64 (gt ((0 : Int), (0 : Int), ByteArray.empty) a1 v13).1 (7 : Int)) (Int.tmod (bAnd .i64 (gt ((0 : Int), (0 : Int), ByteArray.empty) a1 v13).2.1 (65535 : Int)) (IntKind.i64.wrap ((2 : Int) + (Int.tmod (bAnd .i64 a0 (7 : Int)) (7 : Int)))))) : Int) ∧ (List.length (su v20 (bAnd .i64 (gt ((0 : Int), (0 : Int), ByteArray.empty) a1 v13).1 (7 : Int)) (Int.tmod (bAnd .i64 (gt ((0 : Int), (0 : Int), ByteArray.empty) a1 v13).2.1 (65535 : Int)) (IntKind.i64.wrap ((2 : Int) + (Int.tmod (bAnd .i64 a0 (7 : Int)) (7 : Int)))))) : Int) ≤ (List.length (su v20 (bAnd .i64 (gt ((0 : Int), (0 : Int), ByteArray.empty) a1 v13).1 (7 : Int)) (Int.tmod (bAnd .i64 (gt ((0 : Int), (0 : Int), ByteArray.empty) a1 v13).2.1 (65535 : Int)) (IntKind.i64.wrap ((2 : Int) + (Int.tmod (bAnd .i64 a0 (7 : Int)) (7 : Int)))))) : Int))) (
                        O.chk (decide (0 ≤ (bAnd .i64 (shR .i64 (gt ((0 : Int), (0 : Int), ByteArray.empty) a1 v13).2.1 (3 : Int)) (7 : Int)) ∧ (bAnd .i64 (shR .i64 (gt ((0 : Int), (0 : Int), ByteArray.empty) a1 v13).2.1 (3 : Int)) (7 : Int)) < (List.length (su v20 (bAnd .i64 (gt ((0 : Int), (0 : Int), ByteArray.empty) a1 v13).1 (7 : Int)) (Int.tmod (bAnd .i64 (gt ((0 : Int), (0 : Int), ByteArray.empty) a1 v13).2.1 (65535 : Int)) (IntKind.i64.wrap ((2 : Int) + (Int.tmod (bAnd .i64 a0 (7 : Int)) (7 : Int)))))) : Int))) (
                         O.cond (decide ((gt (0 : Int) (su v20 (bAnd .i64 (gt ((0 : Int), (0 : Int), ByteArray.empty) a1 v13).1 (7 : Int)) (Int.tmod (bAnd .i64 (gt ((0 : Int), (0 : Int), ByteArray.empty) a1 v13).2.1 (65535 : Int)) (IntKind.i64.wrap ((2 : Int) + (Int.tmod (bAnd .i64 a0 (7 : Int)) (7 : Int)))))) (bAnd .i64 (shR .i64 (gt ((0 : Int), (0 : Int), ByteArray.empty) a1 v13).2.1 (3 : Int)) (7 : Int))) < (0 : Int))) (
                          O.cond (decide ((List.length r32.1.1 : Int) ≠ (IntKind.i64.wrap ((IntKind.i64.wrap ((2 : Int) + (Int.tmod (bAnd .i64 a0 (7 : Int)) (7 : Int)))) - (1 : Int))))) (
                           .ok false) (
                           R_l1 (IntKind.i64.wrap (v13 + (1 : Int))) r32.2.1.2.2.1 r32.2.1.2.2.2.1 r32.2.1.2.2.2.2.1 r32.2.1.2.2.2.2.2.1 r32.2.1.2.2.2.2.2.2.1 r32.2.1.2.2.2.2.2.2.2 (su v20 (bAnd .i64 (gt ((0 : Int), (0 : Int), ByteArray.empty) a1 v13).1 (7 : Int)) (Int.tmod (bAnd .i64 (gt ((0 : Int), (0 : Int), ByteArray.empty) a1 v13).2.1 (65535 : Int)) (IntKind.i64.wrap ((2 : Int) + (Int.tmod (bAnd .i64 a0 (7 : Int)) (7 : Int)))))) r32.2.1.1 r32.2.2.1 r32.2.2.2.1 r32.2.1.2.1 r32.2.2.2.2)) (
                          R_l1 (IntKind.i64.wrap (v13 + (1 : Int))) r32.2.1.2.2.1 r32.2.1.2.2.2.1 r32.2.1.2.2.2.2.1 r32.2.1.2.2.2.2.2.1 r32.2.1.2.2.2.2.2.2.1 r32.2.1.2.2.2.2.2.2.2 (su v20 (bAnd .i64 (gt ((0 : Int), (0 : Int), ByteArray.empty) a1 v13).1 (7 : Int)) (Int.tmod (bAnd .i64 (gt ((0 : Int), (0 : Int), ByteArray.empty) a1 v13).2.1 (65535 : Int)) (IntKind.i64.wrap ((2 : Int) + (Int.tmod (bAnd .i64 a0 (7 : Int)) (7 : Int)))))) r32.2.1.1 r32.2.2.1 r32.2.2.2.1 r32.2.1.2.1 r32.2.2.2.2))))))) (
                    O.chk (decide (0 ≤ (bAnd .i64 (shR .i64 (gt ((0 : Int), (0 : Int), ByteArray.empty) a1 v13).2.1 (3 : Int)) (7 : Int)) ∧ (bAnd .i64 (shR .i64 (gt ((0 : Int), (0 : Int), ByteArray.empty) a1 v13).2.1 (3 : Int)) (7 : Int)) < (List.length (su v20 (bAnd .i64 (gt ((0 : Int), (0 : Int), ByteArray.empty) a1 v13).1 (7 : Int)) (Int.tmod (bAnd .i64 (gt ((0 : Int), (0 : Int), ByteArray.empty) a1 v13).2.1 (65535 : Int)) (IntKind.i64.wrap ((2 : Int) + (Int.tmod (bAnd .i64 a0 (7 : Int)) (7 : Int)))))) : Int) ∧ (List.length (su v20 (bAnd .i64 (gt ((0 : Int), (0 : Int), ByteArray.empty) a1 v13).1 (7 : Int)) (Int.tmod (bAnd .i64 (gt ((0 : Int), (0 : Int), ByteArray.empty) a1 v13).2.1 (65535 : Int)) (IntKind.i64.wrap ((2 : Int) + (Int.tmod (bAnd .i64 a0 (7 : Int)) (7 : Int)))))) : Int) ≤ (List.length (su v20 (bAnd .i64 (gt ((0 : Int), (0 : Int), ByteArray.empty) a1 v13).1 (7 : Int)) (Int.tmod (bAnd .i64 (gt ((0 : Int), (0 : Int), ByteArray.empty) a1 v13).2.1 (65535 : Int)) (IntKind.i64.wrap ((2 : Int) + (Int.tmod (bAnd .i64 a0 (7 : Int)) (7 : Int)))))) : Int))) (
                     O.chk (decide (0 ≤ (bAnd .i64 (shR .i64 (gt ((0 : Int), (0 : Int), ByteArray.empty) a1 v13).2.1 (3 : Int)) (7 : Int)) ∧ (bAnd .i64 (shR .i64 (gt ((0 : Int), (0 : Int), ByteArray.empty) a1 v13).2.1 (3 : Int)) (7 : Int)) < (List.length (su v20 (bAnd .i64 (gt ((0 : Int), (0 : Int), ByteArray.empty) a1 v13).1 (7 : Int)) (Int.tmod (bAnd .i64 (gt ((0 : Int), (0 : Int), ByteArray.empty) a1 v13).2.1 (65535 : Int)) (IntKind.i64.wrap ((2 : Int) + (Int.tmod (bAnd .i64 a0 (7 : Int)) (7 : Int)))))) : Int))) (
                      O.cond (decide ((gt (0 : Int) (su v20 (bAnd .i64 (gt ((0 : Int), (0 : Int), ByteArray.empty) a1 v13).1 (7 : Int)) (Int.tmod (bAnd .i64 (gt ((0 : Int), (0 : Int), ByteArray.empty) a1 v13).2.1 (65535 : Int)) (IntKind.i64.wrap ((2 : Int) + (Int.tmod (bAnd .i64 a0 (7 : Int)) (7 : Int)))))) (bAnd .i64 (shR .i64 (gt ((0 : Int), (0 : Int), ByteArray.empty) a1 v13).2.1 (3 : Int)) (7 : Int))) < (0 : Int))) (
                       O.cond (decide ((List.length r32.1.1 : Int) ≠ (IntKind.i64.wrap ((IntKind.i64.wrap ((2 : Int) + (Int.tmod (bAnd .i64 a0 (7 : Int)) (7 : Int)))) - (1 : Int))))) (
                        .ok false) (
                        R_l1 (IntKind.i64.wrap (v13 + (1 : Int))) r32.2.1.2.2.1 r32.2.1.2.2.2.1 r32.2.1.2.2.2.2.1 r32.2.1.2.2.2.2.2.1 r32.2.1.2.2.2.2.2.2.1 r32.2.1.2.2.2.2.2.2.2 (su v20 (bAnd .i64 (gt ((0 : Int), (0 : Int), ByteArray.empty) a1 v13).1 (7 : Int)) (Int.tmod (bAnd .i64 (gt ((0 : Int), (0 : Int), ByteArray.empty) a1 v13).2.1 (65535 : Int)) (IntKind.i64.wrap ((2 : Int) + (Int.tmod (bAnd .i64 a0 (7 : Int)) (7 : Int)))))) r32.2.1.1 r32.2.2.1 r32.2.2.2.1 r32.2.1.2.1 r32.2.2.2.2)) (
                       R_l1 (IntKind.i64.wrap (v13 + (1 : Int))) r32.2.1.2.2.1 r32.2.1.2.2.2.1 r32.2.1.2.2.2.2.1 r32.2.1.2.2.2.2.2.1 r32.2.1.2.2.2.2.2.2.1 r32.2.1.2.2.2.2.2.2.2 (su v20 (bAnd .i64 (gt ((0 : Int), (0 : Int), ByteArray.empty) a1 v13).1 (7 : Int)) (Int.tmod (bAnd .i64 (gt ((0 : Int), (0 : Int), ByteArray.empty) a1 v13).2.1 (65535 : Int)) (IntKind.i64.wrap ((2 : Int) + (Int.tmod (bAnd .i64 a0 (7 : Int)) (7 : Int)))))) r32.2.1.1 r32.2.2.1 r32.2.2.2.1 r32.2.1.2.1 r32.2.2.2.2)))))))))))))))))))) (
    O.bind (F_aqueductlaw20_fixed.S k) fun r34 =>
    .ok r34)) (
   O.bind (F_aqueductlaw20_fixed.S k) fun r35 =>
   .ok r35)
noncomputable def l1 (k : Nat) (a0 : Int) (a1 : List (Int × Int × ByteArray)) : Nat → Int → Int → Int → Int → Int → Int → Int → (List Int) → TY9 → Int → Int → TY6 → TY0 → O Bool
  | 0, _, _, _, _, _, _, _, _, _, _, _, _, _ => .no
  | j + 1, v13, v14, v15, v16, v17, v18, v19, v20, v21, v22, v23, v24, v25 => l1_b k a0 a1 (l1 k a0 a1 j) v13 v14 v15 v16 v17 v18 v19 v20 v21 v22 v23 v24 v25
theorem l1_eq (k : Nat) (a0 : Int) (a1 : List (Int × Int × ByteArray)) : ∀ (j : Nat) (v13 : Int) (v14 : Int) (v15 : Int) (v16 : Int) (v17 : Int) (v18 : Int) (v19 : Int) (v20 : List Int) (v21 : List (Int × List Int)) (v22 : Int) (v23 : Int) (v24 : List TY8) (v25 : List TY1), la k [] [.r, .r, .r, .r, .r, .r, .l, .r, .b] j ⟨[(1, .osl 0), (5, .int .i64 (IntKind.i64.wrap ((2 : Int) + (Int.tmod (bAnd .i64 a0 (7 : Int)) (7 : Int))))), (6, .ptr 1 0), (8, .osl 2), (10, .int .i64 v13)], [], 0, []⟩ ⟨9, true, [(0, .row false 31 [.int .i64, .int .i64, .str] a1), (1, .cells 71 [.osl 3, .ptr 4 0, .osl 5, .int .i64 v14, .int .i64 v15, .int .i64 v16, .int .i64 v17, .int .i64 v18, .int .i64 v19]), (2, .row true 3 [.int .i64] v20), (3, .tab false 55 [] 6 (.cons (.leaf (.int .i64)) (.one (.row false 3 [.int .i64]) [])) v21), (4, .cells 115 [.int .i64 v22, .int .i64 v23, .mp 7]), (5, .tab true 78 [] 8 (.one (.box 121 (.cons (.row true 9 [.str]) (.cons (.leaf (.int .i64)) (.one (.leaf (.int .i64)) [])))) []) v24), (6, .ghost), (7, .map 113 true true [.int .i64, .str] [.int .i64, .str, .int .i64, .int .i64] v25), (8, .ghost)]⟩ = l1 k a0 a1 j v13 v14 v15 v16 v17 v18 v19 v20 v21 v22 v23 v24 v25 := by
  intro j
  induction j with
  | zero => intro v13 v14 v15 v16 v17 v18 v19 v20 v21 v22 v23 v24 v25; rfl
  | succ j ih =>
    intro v13 v14 v15 v16 v17 v18 v19 v20 v21 v22 v23 v24 v25
    have rs : (fun (v13' : Int) (v14' : Int) (v15' : Int) (v16' : Int) (v17' : Int) (v18' : Int) (v19' : Int) (v20' : List Int) (v21' : List (Int × List Int)) (v22' : Int) (v23' : Int) (v24' : List TY8) (v25' : List TY1) => la k [] [.r, .r, .r, .r, .r, .r, .l, .r, .b] j ⟨[(1, .osl 0), (5, .int .i64 (IntKind.i64.wrap ((2 : Int) + (Int.tmod (bAnd .i64 a0 (7 : Int)) (7 : Int))))), (6, .ptr 1 0), (8, .osl 2), (10, .int .i64 v13')], [], 0, []⟩ ⟨9, true, [(0, .row false 31 [.int .i64, .int .i64, .str] a1), (1, .cells 71 [.osl 3, .ptr 4 0, .osl 5, .int .i64 v14', .int .i64 v15', .int .i64 v16', .int .i64 v17', .int .i64 v18', .int .i64 v19']), (2, .row true 3 [.int .i64] v20'), (3, .tab false 55 [] 6 (.cons (.leaf (.int .i64)) (.one (.row false 3 [.int .i64]) [])) v21'), (4, .cells 115 [.int .i64 v22', .int .i64 v23', .mp 7]), (5, .tab true 78 [] 8 (.one (.box 121 (.cons (.row true 9 [.str]) (.cons (.leaf (.int .i64)) (.one (.leaf (.int .i64)) [])))) []) v24'), (6, .ghost), (7, .map 113 true true [.int .i64, .str] [.int .i64, .str, .int .i64, .int .i64] v25'), (8, .ghost)]⟩) = l1 k a0 a1 j := by funext v13' v14' v15' v16' v17' v18' v19' v20' v21' v22' v23' v24' v25'; exact ih v13' v14' v15' v16' v17' v18' v19' v20' v21' v22' v23' v24' v25'
    have h : la k [] [.r, .r, .r, .r, .r, .r, .l, .r, .b] (j + 1) ⟨[(1, .osl 0), (5, .int .i64 (IntKind.i64.wrap ((2 : Int) + (Int.tmod (bAnd .i64 a0 (7 : Int)) (7 : Int))))), (6, .ptr 1 0), (8, .osl 2), (10, .int .i64 v13)], [], 0, []⟩ ⟨9, true, [(0, .row false 31 [.int .i64, .int .i64, .str] a1), (1, .cells 71 [.osl 3, .ptr 4 0, .osl 5, .int .i64 v14, .int .i64 v15, .int .i64 v16, .int .i64 v17, .int .i64 v18, .int .i64 v19]), (2, .row true 3 [.int .i64] v20), (3, .tab false 55 [] 6 (.cons (.leaf (.int .i64)) (.one (.row false 3 [.int .i64]) [])) v21), (4, .cells 115 [.int .i64 v22, .int .i64 v23, .mp 7]), (5, .tab true 78 [] 8 (.one (.box 121 (.cons (.row true 9 [.str]) (.cons (.leaf (.int .i64)) (.one (.leaf (.int .i64)) [])))) []) v24), (6, .ghost), (7, .map 113 true true [.int .i64, .str] [.int .i64, .str, .int .i64, .int .i64] v25), (8, .ghost)]⟩ = l1_b k a0 a1 ((fun (v13' : Int) (v14' : Int) (v15' : Int) (v16' : Int) (v17' : Int) (v18' : Int) (v19' : Int) (v20' : List Int) (v21' : List (Int × List Int)) (v22' : Int) (v23' : Int) (v24' : List TY8) (v25' : List TY1) => la k [] [.r, .r, .r, .r, .r, .r, .l, .r, .b] j ⟨[(1, .osl 0), (5, .int .i64 (IntKind.i64.wrap ((2 : Int) + (Int.tmod (bAnd .i64 a0 (7 : Int)) (7 : Int))))), (6, .ptr 1 0), (8, .osl 2), (10, .int .i64 v13')], [], 0, []⟩ ⟨9, true, [(0, .row false 31 [.int .i64, .int .i64, .str] a1), (1, .cells 71 [.osl 3, .ptr 4 0, .osl 5, .int .i64 v14', .int .i64 v15', .int .i64 v16', .int .i64 v17', .int .i64 v18', .int .i64 v19']), (2, .row true 3 [.int .i64] v20'), (3, .tab false 55 [] 6 (.cons (.leaf (.int .i64)) (.one (.row false 3 [.int .i64]) [])) v21'), (4, .cells 115 [.int .i64 v22', .int .i64 v23', .mp 7]), (5, .tab true 78 [] 8 (.one (.box 121 (.cons (.row true 9 [.str]) (.cons (.leaf (.int .i64)) (.one (.leaf (.int .i64)) [])))) []) v24'), (6, .ghost), (7, .map 113 true true [.int .i64, .str] [.int .i64, .str, .int .i64, .int .i64] v25'), (8, .ghost)]⟩)) v13 v14 v15 v16 v17 v18 v19 v20 v21 v22 v23 v24 v25 := by kernel_rfl
    exact h.trans (by rw [rs]; rfl)
noncomputable def top (k : Nat) (a0 : Int) (a1 : List (Int × Int × ByteArray)) (D_l0 : O Bool) (D_l1 : Int → Int → Int → Int → Int → Int → Int → (List Int) → TY9 → Int → Int → TY6 → TY0 → O Bool) : O Bool :=
  O.chk (decide (0 ≤ (IntKind.i64.wrap ((2 : Int) + (Int.tmod (bAnd .i64 a0 (7 : Int)) (7 : Int)))) ∧ (IntKind.i64.wrap ((2 : Int) + (Int.tmod (bAnd .i64 a0 (7 : Int)) (7 : Int)))) = (IntKind.i64.wrap ((2 : Int) + (Int.tmod (bAnd .i64 a0 (7 : Int)) (7 : Int)))) ∧ (IntKind.i64.wrap ((2 : Int) + (Int.tmod (bAnd .i64 a0 (7 : Int)) (7 : Int)))) ≤ 1073741824)) (
   O.sum (F_bridge_New.S k (List.replicate (IntKind.i64.wrap ((2 : Int) + (Int.tmod (bAnd .i64 a0 (7 : Int)) (7 : Int)))).toNat ((0 : Int), [])) (1024 : Int) (65535 : Int) (64 : Int)) (fun r3 =>
    O.cond true (
     .ok false) (
     O.cond (decide (r3 ≠ (0 : Int))) (
      .ok false) (
      O.chk (decide (0 ≤ (8 : Int) ∧ (8 : Int) = (8 : Int) ∧ (8 : Int) ≤ 1073741824)) (
       O.chk (decide (0 ≤ (0 : Int) ∧ (0 : Int) < (List.length (List.replicate (8 : Int).toNat (0 : Int)) : Int) ∧ (List.length (List.replicate (8 : Int).toNat (0 : Int)) : Int) ≤ (List.length (List.replicate (8 : Int).toNat (0 : Int)) : Int))) (
        O.chk (decide (0 ≤ (0 : Int) ∧ (0 : Int) < (List.length (List.replicate (8 : Int).toNat (0 : Int)) : Int))) (
         O.chk (decide (0 ≤ (1 : Int) ∧ (1 : Int) < (List.length (su (List.replicate (8 : Int).toNat (0 : Int)) (0 : Int) (-1 : Int)) : Int) ∧ (List.length (su (List.replicate (8 : Int).toNat (0 : Int)) (0 : Int) (-1 : Int)) : Int) ≤ (List.length (su (List.replicate (8 : Int).toNat (0 : Int)) (0 : Int) (-1 : Int)) : Int))) (
          O.chk (decide (0 ≤ (1 : Int) ∧ (1 : Int) < (List.length (su (List.replicate (8 : Int).toNat (0 : Int)) (0 : Int) (-1 : Int)) : Int))) (
           O.chk (decide (0 ≤ (2 : Int) ∧ (2 : Int) < (List.length (su (su (List.replicate (8 : Int).toNat (0 : Int)) (0 : Int) (-1 : Int)) (1 : Int) (-1 : Int)) : Int) ∧ (List.length (su (su (List.replicate (8 : Int).toNat (0 : Int)) (0 : Int) (-1 : Int)) (1 : Int) (-1 : Int)) : Int) ≤ (List.length (su (su (List.replicate (8 : Int).toNat (0 : Int)) (0 : Int) (-1 : Int)) (1 : Int) (-1 : Int)) : Int))) (
            O.chk (decide (0 ≤ (2 : Int) ∧ (2 : Int) < (List.length (su (su (List.replicate (8 : Int).toNat (0 : Int)) (0 : Int) (-1 : Int)) (1 : Int) (-1 : Int)) : Int))) (
             O.chk (decide (0 ≤ (3 : Int) ∧ (3 : Int) < (List.length (su (su (su (List.replicate (8 : Int).toNat (0 : Int)) (0 : Int) (-1 : Int)) (1 : Int) (-1 : Int)) (2 : Int) (-1 : Int)) : Int) ∧ (List.length (su (su (su (List.replicate (8 : Int).toNat (0 : Int)) (0 : Int) (-1 : Int)) (1 : Int) (-1 : Int)) (2 : Int) (-1 : Int)) : Int) ≤ (List.length (su (su (su (List.replicate (8 : Int).toNat (0 : Int)) (0 : Int) (-1 : Int)) (1 : Int) (-1 : Int)) (2 : Int) (-1 : Int)) : Int))) (
              O.chk (decide (0 ≤ (3 : Int) ∧ (3 : Int) < (List.length (su (su (su (List.replicate (8 : Int).toNat (0 : Int)) (0 : Int) (-1 : Int)) (1 : Int) (-1 : Int)) (2 : Int) (-1 : Int)) : Int))) (
               O.chk (decide (0 ≤ (4 : Int) ∧ (4 : Int) < (List.length (su (su (su (su (List.replicate (8 : Int).toNat (0 : Int)) (0 : Int) (-1 : Int)) (1 : Int) (-1 : Int)) (2 : Int) (-1 : Int)) (3 : Int) (-1 : Int)) : Int) ∧ (List.length (su (su (su (su (List.replicate (8 : Int).toNat (0 : Int)) (0 : Int) (-1 : Int)) (1 : Int) (-1 : Int)) (2 : Int) (-1 : Int)) (3 : Int) (-1 : Int)) : Int) ≤ (List.length (su (su (su (su (List.replicate (8 : Int).toNat (0 : Int)) (0 : Int) (-1 : Int)) (1 : Int) (-1 : Int)) (2 : Int) (-1 : Int)) (3 : Int) (-1 : Int)) : Int))) (
                O.chk (decide (0 ≤ (4 : Int) ∧ (4 : Int) < (List.length (su (su (su (su (List.replicate (8 : Int).toNat (0 : Int)) (0 : Int) (-1 : Int)) (1 : Int) (-1 : Int)) (2 : Int) (-1 : Int)) (3 : Int) (-1 : Int)) : Int))) (
                 O.chk (decide (0 ≤ (5 : Int) ∧ (5 : Int) < (List.length (su (su (su (su (su (List.replicate (8 : Int).toNat (0 : Int)) (0 : Int) (-1 : Int)) (1 : Int) (-1 : Int)) (2 : Int) (-1 : Int)) (3 : Int) (-1 : Int)) (4 : Int) (-1 : Int)) : Int) ∧ (List.length (su (su (su (su (su (List.replicate (8 : Int).toNat (0 : Int)) (0 : Int) (-1 : Int)) (1 : Int) (-1 : Int)) (2 : Int) (-1 : Int)) (3 : Int) (-1 : Int)) (4 : Int) (-1 : Int)) : Int) ≤ (List.length (su (su (su (su (su (List.replicate (8 : Int).toNat (0 : Int)) (0 : Int) (-1 : Int)) (1 : Int) (-1 : Int)) (2 : Int) (-1 : Int)) (3 : Int) (-1 : Int)) (4 : Int) (-1 : Int)) : Int))) (
                  O.chk (decide (0 ≤ (5 : Int) ∧ (5 : Int) < (List.length (su (su (su (su (su (List.replicate (8 : Int).toNat (0 : Int)) (0 : Int) (-1 : Int)) (1 : Int) (-1 : Int)) (2 : Int) (-1 : Int)) (3 : Int) (-1 : Int)) (4 : Int) (-1 : Int)) : Int))) (
                   O.chk (decide (0 ≤ (6 : Int) ∧ (6 : Int) < (List.length (su (su (su (su (su (su (List.replicate (8 : Int).toNat (0 : Int)) (0 : Int) (-1 : Int)) (1 : Int) (-1 : Int)) (2 : Int) (-1 : Int)) (3 : Int) (-1 : Int)) (4 : Int) (-1 : Int)) (5 : Int) (-1 : Int)) : Int) ∧ (List.length (su (su (su (su (su (su (List.replicate (8 : Int).toNat (0 : Int)) (0 : Int) (-1 : Int)) (1 : Int) (-1 : Int)) (2 : Int) (-1 : Int)) (3 : Int) (-1 : Int)) (4 : Int) (-1 : Int)) (5 : Int) (-1 : Int)) : Int) ≤ (List.length (su (su (su (su (su (su (List.replicate (8 : Int).toNat (0 : Int)) (0 : Int) (-1 : Int)) (1 : Int) (-1 : Int)) (2 : Int) (-1 : Int)) (3 : Int) (-1 : Int)) (4 : Int) (-1 : Int)) (5 : Int) (-1 : Int)) : Int))) (
                    O.chk (decide (0 ≤ (6 : Int) ∧ (6 : Int) < (List.length (su (su (su (su (su (su (List.replicate (8 : Int).toNat (0 : Int)) (0 : Int) (-1 : Int)) (1 : Int) (-1 : Int)) (2 : Int) (-1 : Int)) (3 : Int) (-1 : Int)) (4 : Int) (-1 : Int)) (5 : Int) (-1 : Int)) : Int))) (
                     O.chk (decide (0 ≤ (7 : Int) ∧ (7 : Int) < (List.length (su (su (su (su (su (su (su (List.replicate (8 : Int).toNat (0 : Int)) (0 : Int) (-1 : Int)) (1 : Int) (-1 : Int)) (2 : Int) (-1 : Int)) (3 : Int) (-1 : Int)) (4 : Int) (-1 : Int)) (5 : Int) (-1 : Int)) (6 : Int) (-1 : Int)) : Int) ∧ (List.length (su (su (su (su (su (su (su (List.replicate (8 : Int).toNat (0 : Int)) (0 : Int) (-1 : Int)) (1 : Int) (-1 : Int)) (2 : Int) (-1 : Int)) (3 : Int) (-1 : Int)) (4 : Int) (-1 : Int)) (5 : Int) (-1 : Int)) (6 : Int) (-1 : Int)) : Int) ≤ (List.length (su (su (su (su (su (su (su (List.replicate (8 : Int).toNat (0 : Int)) (0 : Int) (-1 : Int)) (1 : Int) (-1 : Int)) (2 : Int) (-1 : Int)) (3 : Int) (-1 : Int)) (4 : Int) (-1 : Int)) (5 : Int) (-1 : Int)) (6 : Int) (-1 : Int)) : Int))) (
                      O.chk (decide (0 ≤ (7 : Int) ∧ (7 : Int) < (List.length (su (su (su (su (su (su (su (List.replicate (8 : Int).toNat (0 : Int)) (0 : Int) (-1 : Int)) (1 : Int) (-1 : Int)) (2 : Int) (-1 : Int)) (3 : Int) (-1 : Int)) (4 : Int) (-1 : Int)) (5 : Int) (-1 : Int)) (6 : Int) (-1 : Int)) : Int))) (
                       D_l0)))))))))))))))))))) fun r4 =>
   O.cond false (
    .ok false) (
    O.cond (decide (r4.1 ≠ (0 : Int))) (
     .ok false) (
     O.chk (decide (0 ≤ (8 : Int) ∧ (8 : Int) = (8 : Int) ∧ (8 : Int) ≤ 1073741824)) (
      O.chk (decide (0 ≤ (0 : Int) ∧ (0 : Int) < (List.length (List.replicate (8 : Int).toNat (0 : Int)) : Int) ∧ (List.length (List.replicate (8 : Int).toNat (0 : Int)) : Int) ≤ (List.length (List.replicate (8 : Int).toNat (0 : Int)) : Int))) (
       O.chk (decide (0 ≤ (0 : Int) ∧ (0 : Int) < (List.length (List.replicate (8 : Int).toNat (0 : Int)) : Int))) (
        O.chk (decide (0 ≤ (1 : Int) ∧ (1 : Int) < (List.length (su (List.replicate (8 : Int).toNat (0 : Int)) (0 : Int) (-1 : Int)) : Int) ∧ (List.length (su (List.replicate (8 : Int).toNat (0 : Int)) (0 : Int) (-1 : Int)) : Int) ≤ (List.length (su (List.replicate (8 : Int).toNat (0 : Int)) (0 : Int) (-1 : Int)) : Int))) (
         O.chk (decide (0 ≤ (1 : Int) ∧ (1 : Int) < (List.length (su (List.replicate (8 : Int).toNat (0 : Int)) (0 : Int) (-1 : Int)) : Int))) (
          O.chk (decide (0 ≤ (2 : Int) ∧ (2 : Int) < (List.length (su (su (List.replicate (8 : Int).toNat (0 : Int)) (0 : Int) (-1 : Int)) (1 : Int) (-1 : Int)) : Int) ∧ (List.length (su (su (List.replicate (8 : Int).toNat (0 : Int)) (0 : Int) (-1 : Int)) (1 : Int) (-1 : Int)) : Int) ≤ (List.length (su (su (List.replicate (8 : Int).toNat (0 : Int)) (0 : Int) (-1 : Int)) (1 : Int) (-1 : Int)) : Int))) (
           O.chk (decide (0 ≤ (2 : Int) ∧ (2 : Int) < (List.length (su (su (List.replicate (8 : Int).toNat (0 : Int)) (0 : Int) (-1 : Int)) (1 : Int) (-1 : Int)) : Int))) (
            O.chk (decide (0 ≤ (3 : Int) ∧ (3 : Int) < (List.length (su (su (su (List.replicate (8 : Int).toNat (0 : Int)) (0 : Int) (-1 : Int)) (1 : Int) (-1 : Int)) (2 : Int) (-1 : Int)) : Int) ∧ (List.length (su (su (su (List.replicate (8 : Int).toNat (0 : Int)) (0 : Int) (-1 : Int)) (1 : Int) (-1 : Int)) (2 : Int) (-1 : Int)) : Int) ≤ (List.length (su (su (su (List.replicate (8 : Int).toNat (0 : Int)) (0 : Int) (-1 : Int)) (1 : Int) (-1 : Int)) (2 : Int) (-1 : Int)) : Int))) (
             O.chk (decide (0 ≤ (3 : Int) ∧ (3 : Int) < (List.length (su (su (su (List.replicate (8 : Int).toNat (0 : Int)) (0 : Int) (-1 : Int)) (1 : Int) (-1 : Int)) (2 : Int) (-1 : Int)) : Int))) (
              O.chk (decide (0 ≤ (4 : Int) ∧ (4 : Int) < (List.length (su (su (su (su (List.replicate (8 : Int).toNat (0 : Int)) (0 : Int) (-1 : Int)) (1 : Int) (-1 : Int)) (2 : Int) (-1 : Int)) (3 : Int) (-1 : Int)) : Int) ∧ (List.length (su (su (su (su (List.replicate (8 : Int).toNat (0 : Int)) (0 : Int) (-1 : Int)) (1 : Int) (-1 : Int)) (2 : Int) (-1 : Int)) (3 : Int) (-1 : Int)) : Int) ≤ (List.length (su (su (su (su (List.replicate (8 : Int).toNat (0 : Int)) (0 : Int) (-1 : Int)) (1 : Int) (-1 : Int)) (2 : Int) (-1 : Int)) (3 : Int) (-1 : Int)) : Int))) (
               O.chk (decide (0 ≤ (4 : Int) ∧ (4 : Int) < (List.length (su (su (su (su (List.replicate (8 : Int).toNat (0 : Int)) (0 : Int) (-1 : Int)) (1 : Int) (-1 : Int)) (2 : Int) (-1 : Int)) (3 : Int) (-1 : Int)) : Int))) (
                O.chk (decide (0 ≤ (5 : Int) ∧ (5 : Int) < (List.length (su (su (su (su (su (List.replicate (8 : Int).toNat (0 : Int)) (0 : Int) (-1 : Int)) (1 : Int) (-1 : Int)) (2 : Int) (-1 : Int)) (3 : Int) (-1 : Int)) (4 : Int) (-1 : Int)) : Int) ∧ (List.length (su (su (su (su (su (List.replicate (8 : Int).toNat (0 : Int)) (0 : Int) (-1 : Int)) (1 : Int) (-1 : Int)) (2 : Int) (-1 : Int)) (3 : Int) (-1 : Int)) (4 : Int) (-1 : Int)) : Int) ≤ (List.length (su (su (su (su (su (List.replicate (8 : Int).toNat (0 : Int)) (0 : Int) (-1 : Int)) (1 : Int) (-1 : Int)) (2 : Int) (-1 : Int)) (3 : Int) (-1 : Int)) (4 : Int) (-1 : Int)) : Int))) (
                 O.chk (decide (0 ≤ (5 : Int) ∧ (5 : Int) < (List.length (su (su (su (su (su (List.replicate (8 : Int).toNat (0 : Int)) (0 : Int) (-1 : Int)) (1 : Int) (-1 : Int)) (2 : Int) (-1 : Int)) (3 : Int) (-1 : Int)) (4 : Int) (-1 : Int)) : Int))) (
                  O.chk (decide (0 ≤ (6 : Int) ∧ (6 : Int) < (List.length (su (su (su (su (su (su (List.replicate (8 : Int).toNat (0 : Int)) (0 : Int) (-1 : Int)) (1 : Int) (-1 : Int)) (2 : Int) (-1 : Int)) (3 : Int) (-1 : Int)) (4 : Int) (-1 : Int)) (5 : Int) (-1 : Int)) : Int) ∧ (List.length (su (su (su (su (su (su (List.replicate (8 : Int).toNat (0 : Int)) (0 : Int) (-1 : Int)) (1 : Int) (-1 : Int)) (2 : Int) (-1 : Int)) (3 : Int) (-1 : Int)) (4 : Int) (-1 : Int)) (5 : Int) (-1 : Int)) : Int) ≤ (List.length (su (su (su (su (su (su (List.replicate (8 : Int).toNat (0 : Int)) (0 : Int) (-1 : Int)) (1 : Int) (-1 : Int)) (2 : Int) (-1 : Int)) (3 : Int) (-1 : Int)) (4 : Int) (-1 : Int)) (5 : Int) (-1 : Int)) : Int))) (
                   O.chk (decide (0 ≤ (6 : Int) ∧ (6 : Int) < (List.length (su (su (su (su (su (su (List.replicate (8 : Int).toNat (0 : Int)) (0 : Int) (-1 : Int)) (1 : Int) (-1 : Int)) (2 : Int) (-1 : Int)) (3 : Int) (-1 : Int)) (4 : Int) (-1 : Int)) (5 : Int) (-1 : Int)) : Int))) (
                    O.chk (decide (0 ≤ (7 : Int) ∧ (7 : Int) < (List.length (su (su (su (su (su (su (su (List.replicate (8 : Int).toNat (0 : Int)) (0 : Int) (-1 : Int)) (1 : Int) (-1 : Int)) (2 : Int) (-1 : Int)) (3 : Int) (-1 : Int)) (4 : Int) (-1 : Int)) (5 : Int) (-1 : Int)) (6 : Int) (-1 : Int)) : Int) ∧ (List.length (su (su (su (su (su (su (su (List.replicate (8 : Int).toNat (0 : Int)) (0 : Int) (-1 : Int)) (1 : Int) (-1 : Int)) (2 : Int) (-1 : Int)) (3 : Int) (-1 : Int)) (4 : Int) (-1 : Int)) (5 : Int) (-1 : Int)) (6 : Int) (-1 : Int)) : Int) ≤ (List.length (su (su (su (su (su (su (su (List.replicate (8 : Int).toNat (0 : Int)) (0 : Int) (-1 : Int)) (1 : Int) (-1 : Int)) (2 : Int) (-1 : Int)) (3 : Int) (-1 : Int)) (4 : Int) (-1 : Int)) (5 : Int) (-1 : Int)) (6 : Int) (-1 : Int)) : Int))) (
                     O.chk (decide (0 ≤ (7 : Int) ∧ (7 : Int) < (List.length (su (su (su (su (su (su (su (List.replicate (8 : Int).toNat (0 : Int)) (0 : Int) (-1 : Int)) (1 : Int) (-1 : Int)) (2 : Int) (-1 : Int)) (3 : Int) (-1 : Int)) (4 : Int) (-1 : Int)) (5 : Int) (-1 : Int)) (6 : Int) (-1 : Int)) : Int))) (
                      D_l1 (0 : Int) r4.2.1.2.2.1 r4.2.1.2.2.2.1 r4.2.1.2.2.2.2.1 r4.2.1.2.2.2.2.2.1 r4.2.1.2.2.2.2.2.2.1 r4.2.1.2.2.2.2.2.2.2 (su (su (su (su (su (su (su (su (List.replicate (8 : Int).toNat (0 : Int)) (0 : Int) (-1 : Int)) (1 : Int) (-1 : Int)) (2 : Int) (-1 : Int)) (3 : Int) (-1 : Int)) (4 : Int) (-1 : Int)) (5 : Int) (-1 : Int)) (6 : Int) (-1 : Int)) (7 : Int) (-1 : Int)) r4.2.1.1 r4.2.2.1 r4.2.2.2.1 r4.2.1.2.1 r4.2.2.2.2))))))))))))))))))))
noncomputable def S (k : Nat) (a0 : Int) (a1 : List (Int × Int × ByteArray)) : O Bool := top k a0 a1 (l0 k a0 a1 k) ((fun (v13 : Int) (v14 : Int) (v15 : Int) (v16 : Int) (v17 : Int) (v18 : Int) (v19 : Int) (v20 : List Int) (v21 : List (Int × List Int)) (v22 : Int) (v23 : Int) (v24 : List TY8) (v25 : List TY1) => l1 k a0 a1 k v13 v14 v15 v16 v17 v18 v19 v20 v21 v22 v23 v24 v25))
theorem eq (k : Nat) (a0 : Int) (a1 : List (Int × Int × ByteArray)) : evFn (T := Bool) tab (calOf (cal k)) Go.Proofs.Try.f4 nt k 0 [.int .i64 a0, .osl 0] [] ⟨1, false, [(0, .row false 31 [.int .i64, .int .i64, .str] a1)]⟩ (fun v st => outK ct.ob (γ0 ct) ct.outs v st .ok) (fun e st => outP ct.ob (γ0 ct) ct.outs e st .ok) = S k a0 a1 := by
  have e0 : la k [] [.r, .r, .r, .r, .r, .r, .l, .r, .b] k ⟨[(1, .osl 0), (5, .int .i64 (IntKind.i64.wrap ((2 : Int) + (Int.tmod (bAnd .i64 a0 (7 : Int)) (7 : Int))))), (6, .nilp), (8, .osl 1), (10, .int .i64 (0 : Int))], [], 0, []⟩ ⟨2, true, [(0, .row false 31 [.int .i64, .int .i64, .str] a1), (1, .row true 3 [.int .i64] (su (su (su (su (su (su (su (su (List.replicate (8 : Int).toNat (0 : Int)) (0 : Int) (-1 : Int)) (1 : Int) (-1 : Int)) (2 : Int) (-1 : Int)) (3 : Int) (-1 : Int)) (4 : Int) (-1 : Int)) (5 : Int) (-1 : Int)) (6 : Int) (-1 : Int)) (7 : Int) (-1 : Int)))]⟩ = l0 k a0 a1 k := by exact l0_eq k a0 a1 k
  have e1 : (fun (v13 : Int) (v14 : Int) (v15 : Int) (v16 : Int) (v17 : Int) (v18 : Int) (v19 : Int) (v20 : List Int) (v21 : List (Int × List Int)) (v22 : Int) (v23 : Int) (v24 : List TY8) (v25 : List TY1) => la k [] [.r, .r, .r, .r, .r, .r, .l, .r, .b] k ⟨[(1, .osl 0), (5, .int .i64 (IntKind.i64.wrap ((2 : Int) + (Int.tmod (bAnd .i64 a0 (7 : Int)) (7 : Int))))), (6, .ptr 1 0), (8, .osl 2), (10, .int .i64 v13)], [], 0, []⟩ ⟨9, true, [(0, .row false 31 [.int .i64, .int .i64, .str] a1), (1, .cells 71 [.osl 3, .ptr 4 0, .osl 5, .int .i64 v14, .int .i64 v15, .int .i64 v16, .int .i64 v17, .int .i64 v18, .int .i64 v19]), (2, .row true 3 [.int .i64] v20), (3, .tab false 55 [] 6 (.cons (.leaf (.int .i64)) (.one (.row false 3 [.int .i64]) [])) v21), (4, .cells 115 [.int .i64 v22, .int .i64 v23, .mp 7]), (5, .tab true 78 [] 8 (.one (.box 121 (.cons (.row true 9 [.str]) (.cons (.leaf (.int .i64)) (.one (.leaf (.int .i64)) [])))) []) v24), (6, .ghost), (7, .map 113 true true [.int .i64, .str] [.int .i64, .str, .int .i64, .int .i64] v25), (8, .ghost)]⟩) = (fun (v13 : Int) (v14 : Int) (v15 : Int) (v16 : Int) (v17 : Int) (v18 : Int) (v19 : Int) (v20 : List Int) (v21 : List (Int × List Int)) (v22 : Int) (v23 : Int) (v24 : List TY8) (v25 : List TY1) => l1 k a0 a1 k v13 v14 v15 v16 v17 v18 v19 v20 v21 v22 v23 v24 v25) := by funext v13 v14 v15 v16 v17 v18 v19 v20 v21 v22 v23 v24 v25; exact l1_eq k a0 a1 k v13 v14 v15 v16 v17 v18 v19 v20 v21 v22 v23 v24 v25
  have h : evFn (T := Bool) tab (calOf (cal k)) Go.Proofs.Try.f4 nt k 0 [.int .i64 a0, .osl 0] [] ⟨1, false, [(0, .row false 31 [.int .i64, .int .i64, .str] a1)]⟩ (fun v st => outK ct.ob (γ0 ct) ct.outs v st .ok) (fun e st => outP ct.ob (γ0 ct) ct.outs e st .ok) = top k a0 a1 (la k [] [.r, .r, .r, .r, .r, .r, .l, .r, .b] k ⟨[(1, .osl 0), (5, .int .i64 (IntKind.i64.wrap ((2 : Int) + (Int.tmod (bAnd .i64 a0 (7 : Int)) (7 : Int))))), (6, .nilp), (8, .osl 1), (10, .int .i64 (0 : Int))], [], 0, []⟩ ⟨2, true, [(0, .row false 31 [.int .i64, .int .i64, .str] a1), (1, .row true 3 [.int .i64] (su (su (su (su (su (su (su (su (List.replicate (8 : Int).toNat (0 : Int)) (0 : Int) (-1 : Int)) (1 : Int) (-1 : Int)) (2 : Int) (-1 : Int)) (3 : Int) (-1 : Int)) (4 : Int) (-1 : Int)) (5 : Int) (-1 : Int)) (6 : Int) (-1 : Int)) (7 : Int) (-1 : Int)))]⟩) ((fun (v13 : Int) (v14 : Int) (v15 : Int) (v16 : Int) (v17 : Int) (v18 : Int) (v19 : Int) (v20 : List Int) (v21 : List (Int × List Int)) (v22 : Int) (v23 : Int) (v24 : List TY8) (v25 : List TY1) => la k [] [.r, .r, .r, .r, .r, .r, .l, .r, .b] k ⟨[(1, .osl 0), (5, .int .i64 (IntKind.i64.wrap ((2 : Int) + (Int.tmod (bAnd .i64 a0 (7 : Int)) (7 : Int))))), (6, .ptr 1 0), (8, .osl 2), (10, .int .i64 v13)], [], 0, []⟩ ⟨9, true, [(0, .row false 31 [.int .i64, .int .i64, .str] a1), (1, .cells 71 [.osl 3, .ptr 4 0, .osl 5, .int .i64 v14, .int .i64 v15, .int .i64 v16, .int .i64 v17, .int .i64 v18, .int .i64 v19]), (2, .row true 3 [.int .i64] v20), (3, .tab false 55 [] 6 (.cons (.leaf (.int .i64)) (.one (.row false 3 [.int .i64]) [])) v21), (4, .cells 115 [.int .i64 v22, .int .i64 v23, .mp 7]), (5, .tab true 78 [] 8 (.one (.box 121 (.cons (.row true 9 [.str]) (.cons (.leaf (.int .i64)) (.one (.leaf (.int .i64)) [])))) []) v24), (6, .ghost), (7, .map 113 true true [.int .i64, .str] [.int .i64, .str, .int .i64, .int .i64] v25), (8, .ghost)]⟩)) := by kernel_rfl
  exact h.trans (by rw [e0, e1]; rfl)
theorem ok (k : Nat) : FnOkC Try.prog 4 ct (fun (x : Int × (List (Int × Int × ByteArray))) (_ : Unit) => S k x.1 x.2) :=
  FnOkC.of_ev (C := ct) tab_ok rfl (calOf_ok (cal_ok k)) mixed Try.func4 nt k (fun _ _ => rfl) (fun (x : Int × (List (Int × Int × ByteArray))) (_ : Unit) => eq k x.1 x.2)
theorem hd {T : Type} (k : Nat) : HdOk Try.prog 4 (pureC (T := T) ct [] (fun (x : Int × (List (Int × Int × ByteArray))) (_ : Unit) => S k x.1 x.2)) :=
  pureC_ok rfl [] (ok k) Try.call4
end F_aqueductlaw20_BridgeKnown
end Go.Proofs.Ytkihcmcaignmkaa
end
