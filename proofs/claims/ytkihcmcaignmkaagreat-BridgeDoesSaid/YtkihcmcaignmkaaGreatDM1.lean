/- Texts of this proof, joined (2 of them): DTab, DS0.
   Conditions: none but those that stand at each theorem. -/
import Derived.Test.YtkihcmcaignmkaaGreatE5
import Derived.Test.YtkihcmcaignmkaaGreatProg
section
namespace Go.Proofs.YtkihcmcaignmkaaGreat
open Go.Aq
set_option linter.unusedVariables false
set_option maxRecDepth 100000
noncomputable def tab : Tab := [
 (1, .func),
 (2, .int .i64),
 (3, .int .i64),
 (4, .bool),
 (5, .int .u8),
 (6, .int .u8),
 (7, .struct [(0, 1, false), (1, 1, false), (2, 1, false), (3, 1, false)] 4 [.int .i64 (0 : Int), .int .i64 (0 : Int), .bool false, .int .u8 (0 : Int)] false),
 (8, .struct [(0, 1, false), (1, 1, false), (2, 1, false), (3, 1, false)] 4 [.int .i64 (0 : Int), .int .i64 (0 : Int), .bool false, .int .u8 (0 : Int)] false),
 (9, .str),
 (10, .str),
 (11, .str),
 (12, .int .u64),
 (13, .struct [(0, 1, false), (1, 1, false)] 2 [.str ByteArray.empty, .int .u64 (0 : Int)] false),
 (14, .struct [(0, 1, false), (1, 1, false)] 2 [.str ByteArray.empty, .int .u64 (0 : Int)] false),
 (15, .ptr),
 (16, .ptr),
 (17, .ptr),
 (18, .struct [(0, 1, false)] 1 [.nilp] false),
 (19, .struct [(0, 1, false)] 1 [.nilp] false),
 (20, .iface),
 (21, .int .i32),
 (22, .slice 58),
 (23, .slice 31),
 (24, .struct [(0, 1, false), (1, 1, false), (2, 1, false), (3, 1, false), (4, 1, false)] 5 [.nilsl, .int .i64 (0 : Int), .int .i64 (0 : Int), .int .i64 (0 : Int), .nilsl] false),
 (25, .struct [(0, 1, false), (1, 1, false), (2, 1, false), (3, 1, false), (4, 1, false)] 5 [.nilsl, .int .i64 (0 : Int), .int .i64 (0 : Int), .int .i64 (0 : Int), .nilsl] false),
 (26, .ptr),
 (27, .ptr),
 (29, .func),
 (30, .struct [(0, 1, false), (1, 1, false), (2, 1, false)] 3 [.int .i64 (0 : Int), .int .i64 (0 : Int), .str ByteArray.empty] false),
 (31, .struct [(0, 1, false), (1, 1, false), (2, 1, false)] 3 [.int .i64 (0 : Int), .int .i64 (0 : Int), .str ByteArray.empty] true),
 (32, .slice 3),
 (33, .int .i64),
 (35, .func),
 (36, .func),
 (38, .func),
 (39, .func),
 (40, .ptr),
 (41, .slice 86),
 (42, .struct [(0, 1, false), (1, 1, false), (2, 1, false), (3, 1, false), (4, 1, false), (5, 1, false)] 6 [.int .i64 (0 : Int), .int .i64 (0 : Int), .int .i64 (0 : Int), .int .i64 (0 : Int), .int .i64 (0 : Int), .int .i64 (0 : Int)] false),
 (43, .struct [(0, 1, false), (1, 1, false), (2, 1, false), (3, 1, false), (4, 1, false), (5, 1, false)] 6 [.int .i64 (0 : Int), .int .i64 (0 : Int), .int .i64 (0 : Int), .int .i64 (0 : Int), .int .i64 (0 : Int), .int .i64 (0 : Int)] true),
 (44, .struct [(0, 1, false), (1, 1, false), (2, 1, false), (3, 6, true)] 9 [.nilsl, .nilp, .nilsl, .int .i64 (0 : Int), .int .i64 (0 : Int), .int .i64 (0 : Int), .int .i64 (0 : Int), .int .i64 (0 : Int), .int .i64 (0 : Int)] false),
 (45, .struct [(0, 1, false), (1, 1, false), (2, 1, false), (3, 6, true)] 9 [.nilsl, .nilp, .nilsl, .int .i64 (0 : Int), .int .i64 (0 : Int), .int .i64 (0 : Int), .int .i64 (0 : Int), .int .i64 (0 : Int), .int .i64 (0 : Int)] false),
 (46, .func),
 (47, .func),
 (48, .func),
 (49, .func),
 (50, .slice 89),
 (51, .func),
 (52, .struct [(0, 1, false), (1, 1, false), (2, 1, false)] 3 [.int .i64 (0 : Int), .int .i64 (0 : Int), .nilsl] false),
 (53, .struct [(0, 1, false), (1, 1, false), (2, 1, false)] 3 [.int .i64 (0 : Int), .int .i64 (0 : Int), .nilsl] false),
 (54, .func),
 (55, .func),
 (56, .func),
 (57, .struct [(0, 1, false), (1, 1, false)] 2 [.int .i64 (0 : Int), .nilsl] false),
 (58, .struct [(0, 1, false), (1, 1, false)] 2 [.int .i64 (0 : Int), .nilsl] false),
 (60, .func),
 (62, .func),
 (63, .ptr),
 (64, .slice 78),
 (65, .struct [(0, 1, false), (1, 1, false), (2, 1, false), (3, 6, true)] 9 [.nilsl, .nilp, .nilsl, .int .i64 (0 : Int), .int .i64 (0 : Int), .int .i64 (0 : Int), .int .i64 (0 : Int), .int .i64 (0 : Int), .int .i64 (0 : Int)] false),
 (66, .struct [(0, 1, false), (1, 1, false), (2, 1, false), (3, 6, true)] 9 [.nilsl, .nilp, .nilsl, .int .i64 (0 : Int), .int .i64 (0 : Int), .int .i64 (0 : Int), .int .i64 (0 : Int), .int .i64 (0 : Int), .int .i64 (0 : Int)] false),
 (67, .struct [(0, 1, false), (1, 1, false), (2, 1, false), (3, 1, false), (4, 1, false), (5, 1, false)] 6 [.str ByteArray.empty, .str ByteArray.empty, .int .i64 (0 : Int), .int .i64 (0 : Int), .int .i64 (0 : Int), .str ByteArray.empty] false),
 (68, .struct [(0, 1, false), (1, 1, false), (2, 1, false), (3, 1, false), (4, 1, false), (5, 1, false)] 6 [.str ByteArray.empty, .str ByteArray.empty, .int .i64 (0 : Int), .int .i64 (0 : Int), .int .i64 (0 : Int), .str ByteArray.empty] true),
 (70, .func),
 (71, .func),
 (72, .func),
 (73, .func),
 (74, .func),
 (75, .func),
 (77, .func),
 (78, .ptr),
 (79, .func),
 (81, .func),
 (82, .func),
 (84, .func),
 (85, .func),
 (86, .ptr),
 (87, .func),
 (88, .struct [(0, 1, false), (1, 1, false), (2, 1, false), (3, 1, false)] 4 [.int .i64 (0 : Int), .str ByteArray.empty, .int .i64 (0 : Int), .int .i64 (0 : Int)] false),
 (89, .struct [(0, 1, false), (1, 1, false), (2, 1, false), (3, 1, false)] 4 [.int .i64 (0 : Int), .str ByteArray.empty, .int .i64 (0 : Int), .int .i64 (0 : Int)] true),
 (90, .func),
 (91, .func),
 (92, .func),
 (93, .slice 9),
 (94, .struct [(0, 1, false), (1, 1, false), (2, 1, false)] 3 [.nilsl, .int .i64 (0 : Int), .int .i64 (0 : Int)] false),
 (95, .struct [(0, 1, false), (1, 1, false), (2, 1, false)] 3 [.nilsl, .int .i64 (0 : Int), .int .i64 (0 : Int)] false),
 (96, .func),
 (97, .func),
 (98, .func),
 (100, .func),
 (102, .func),
 (103, .func),
 (105, .func),
 (107, .func),
 (108, .struct [] 0 [] false),
 (109, .struct [] 0 [] false),
 (110, .ptr),
 (111, .struct [(0, 1, false)] 1 [.str ByteArray.empty] false),
 (112, .struct [(0, 1, false)] 1 [.str ByteArray.empty] true),
 (113, .int .u64),
 (114, .func),
 (115, .func),
 (116, .func),
 (117, .func),
 (118, .func),
 (119, .struct [(0, 1, false), (1, 1, false)] 2 [.int .i64 (0 : Int), .str ByteArray.empty] false),
 (120, .struct [(0, 1, false), (1, 1, false)] 2 [.int .i64 (0 : Int), .str ByteArray.empty] true),
 (122, .map 120 89),
 (123, .struct [(0, 1, false), (1, 1, false), (2, 1, false)] 3 [.int .i64 (0 : Int), .int .i64 (0 : Int), .nilm] false),
 (124, .struct [(0, 1, false), (1, 1, false), (2, 1, false)] 3 [.int .i64 (0 : Int), .int .i64 (0 : Int), .nilm] false),
 (126, .func),
 (127, .func),
 (128, .struct [(0, 1, false), (1, 1, false), (2, 1, false)] 3 [.nilsl, .int .i64 (0 : Int), .int .i64 (0 : Int)] false),
 (129, .struct [(0, 1, false), (1, 1, false), (2, 1, false)] 3 [.nilsl, .int .i64 (0 : Int), .int .i64 (0 : Int)] false),
 (130, .func),
 (131, .func),
 (132, .func),
 (133, .slice 5),
 (134, .func),
 (135, .func),
 (136, .func),
 (137, .func),
 (138, .func),
 (139, .func),
 (140, .func),
 (141, .func),
 (142, .int .u64),
 (144, .func),
 (145, .func),
 (146, .func),
 (147, .func),
 (148, .func),
 (149, .func),
 (150, .func),
 (151, .func),
 (152, .func),
 (153, .func),
 (154, .func),
 (155, .func),
 (156, .func),
 (157, .func),
 (158, .int .i64),
 (160, .func),
 (161, .func),
 (162, .func),
 (163, .func),
 (164, .func),
 (165, .int .u32),
 (166, .func),
 (167, .func),
 (168, .int .u64),
 (169, .func),
 (170, .func),
 (171, .func),
 (172, .ptr),
 (173, .func),
 (174, .ptr),
 (176, .func),
 (177, .func),
 (178, .struct [(0, 1, false), (1, 1, false), (2, 1, false), (3, 1, false)] 4 [.nilp, .nilp, .nilp, .str ByteArray.empty] false),
 (179, .struct [(0, 1, false), (1, 1, false), (2, 1, false), (3, 1, false)] 4 [.nilp, .nilp, .nilp, .str ByteArray.empty] false),
 (183, .int .u8),
 (184, .int .u8),
 (185, .func),
 (186, .ptr),
 (187, .int .i32),
 (188, .int .i32),
 (189, .struct [(0, 1, false), (1, 1, false), (2, 1, false), (3, 1, false), (4, 1, false), (5, 1, false), (6, 1, false), (7, 1, false), (8, 1, false), (9, 1, false), (10, 1, false)] 11 [.int .u64 (0 : Int), .int .u64 (0 : Int), .int .u32 (0 : Int), .int .u8 (0 : Int), .int .u8 (0 : Int), .int .u8 (0 : Int), .int .u8 (0 : Int), .nilf, .nilp, .int .i32 (0 : Int), .int .i32 (0 : Int)] false),
 (190, .struct [(0, 1, false), (1, 1, false), (2, 1, false), (3, 1, false), (4, 1, false), (5, 1, false), (6, 1, false), (7, 1, false), (8, 1, false), (9, 1, false), (10, 1, false)] 11 [.int .u64 (0 : Int), .int .u64 (0 : Int), .int .u32 (0 : Int), .int .u8 (0 : Int), .int .u8 (0 : Int), .int .u8 (0 : Int), .int .u8 (0 : Int), .nilf, .nilp, .int .i32 (0 : Int), .int .i32 (0 : Int)] false),
 (1, .tabE 58 (.cons (.leaf (.int .i64)) (.one (.row false 3 [.int .i64]) []))),
 (1, .tabE 78 (.one (.box 129 (.cons (.row true 9 [.str]) (.cons (.leaf (.int .i64)) (.one (.leaf (.int .i64)) [])))) [])),
 (1, .tabE 86 (.one (.box 95 (.cons (.row true 9 [.str]) (.cons (.leaf (.int .i64)) (.one (.leaf (.int .i64)) [])))) []))]
theorem tab_ok : tabChk Tryz.prog tab = true := by kernel_rfl
theorem mixed : Tryz.prog.follows .mixedOrders = true := by kernel_rfl
abbrev TY0 := List ((Int × ByteArray) × Int × ByteArray × Int × Int)
abbrev TY1 := (Int × ByteArray) × Int × ByteArray × Int × Int
abbrev TY2 := (List (Int × List Int)) × (List (List ByteArray × Int × Int)) × (Int × Int × Int × Int × Int × Int)
abbrev TY3 := Int × Int × (List ((Int × ByteArray) × Int × ByteArray × Int × Int))
abbrev TY4 := Int × ((List (Int × List Int)) × (List (List ByteArray × Int × Int)) × (Int × Int × Int × Int × Int × Int)) × (Int × Int × (List ((Int × ByteArray) × Int × ByteArray × Int × Int)))
abbrev TY5 := List (List ByteArray × Int × Int)
abbrev TY6 := Int × Int × Int × Int × Int × Int
abbrev TY7 := List ByteArray × Int × Int
abbrev TY8 := List (Int × List Int)
abbrev TY10 := Int × ((List (Int × List Int)) × (List (List ByteArray × Int × Int)) × (Int × Int × Int × Int × Int × Int)) × (Int × Int × (List (Int × ByteArray × Int × Int)))
abbrev TY11 := Int × Int × (List (Int × ByteArray × Int × Int))
abbrev TY12 := List (Int × ByteArray × Int × Int)
abbrev TY13 := Int × ByteArray × Int × Int
abbrev TY14 := Bool × ((List (Int × List Int)) × (List (List ByteArray × Int × Int)) × (Int × Int × Int × Int × Int × Int)) × (Int × Int × (List ((Int × ByteArray) × Int × ByteArray × Int × Int))) × ((List (Int × List Int)) × (List (List ByteArray × Int × Int)) × (Int × Int × Int × Int × Int × Int)) × (Int × Int × (List (Int × ByteArray × Int × Int)))
abbrev TY15 := Bool × ((List (Int × List Int)) × (List (List ByteArray × Int × Int)) × (Int × Int × Int × Int × Int × Int)) × (Int × Int × (List ((Int × ByteArray) × Int × ByteArray × Int × Int)))
abbrev TY16 := Bool × ((List (Int × List Int)) × (List (List ByteArray × Int × Int)) × (Int × Int × Int × Int × Int × Int)) × (Int × Int × (List (Int × ByteArray × Int × Int)))
abbrev TY17 := List (Int × Int × ByteArray)
abbrev TY19 := (List Int × Int) × ((List (Int × List Int)) × (List (List ByteArray × Int × Int)) × (Int × Int × Int × Int × Int × Int)) × (Int × Int × (List ((Int × ByteArray) × Int × ByteArray × Int × Int)))
abbrev TY20 := ByteArray × ByteArray × Int × Int × Int × ByteArray
abbrev TY21 := (ByteArray × ByteArray × Int × Int × Int × ByteArray) × Int
abbrev TY22 := (ByteArray × ByteArray × Int × Int × Int × ByteArray) × Int × Bool
abbrev TY23 := Int × Int × Int × (List (Int × ByteArray × Int × Int))
abbrev TY24 := Bool × Int × Int × (List (Int × ByteArray × Int × Int))
abbrev TY25 := (List Int × Bool) × ((List (Int × List Int)) × (List (List ByteArray × Int × Int)) × (Int × Int × Int × Int × Int × Int)) × (Int × Int × (List (Int × ByteArray × Int × Int)))
abbrev TY26 := (List Int × Int) × ((List (Int × List Int)) × (List (List ByteArray × Int × Int)) × (Int × Int × Int × Int × Int × Int)) × (Int × Int × (List (Int × ByteArray × Int × Int)))
abbrev TY27 := ((List (Int × List Int)) × (List (List ByteArray × Int × Int)) × (Int × Int × Int × Int × Int × Int)) × (Int × Int × (List ((Int × ByteArray) × Int × ByteArray × Int × Int))) × ((List (Int × List Int)) × (List (List ByteArray × Int × Int)) × (Int × Int × Int × Int × Int × Int)) × (Int × Int × (List ((Int × ByteArray) × Int × ByteArray × Int × Int)))
end Go.Proofs.YtkihcmcaignmkaaGreat
end
section
namespace Go.Proofs.YtkihcmcaignmkaaGreat
open Go.Aq
set_option linter.unusedVariables false
set_option maxRecDepth 100000
namespace F_fdb_New
noncomputable def ct : Ct := ⟨.some (.cons (.leaf (.int .i64)) (.one (.leaf (.int .i64)) [])), [], [⟨.tup (.pin (.nil) (.one (.leaf (.int .i64)) [])), [], []⟩, ⟨.tup (.pin (.ref 0) (.one (.leaf (.int .i64)) [])), [(124, .cons (.leaf (.int .i64)) (.cons (.leaf (.int .i64)) (.one (.map 122 true true [.int .i64, .str] [.int .i64, .str, .int .i64, .int .i64]) [])))], [.arg 0 0]⟩]⟩
noncomputable def nt : Notes := ⟨[], [], [], [], []⟩
noncomputable def cal0 {T : Type} (k : Nat) : List (FuncId × Hd T) := []
theorem cal0_ok {T : Type} (k : Nat) : HdsOk Tryz.prog (cal0 (T := T) k) := trivial
noncomputable def cal {T : Type} (k : Nat) : List (FuncId × Hd T) := cal0 k
theorem cal_ok {T : Type} (k : Nat) : HdsOk Tryz.prog (cal (T := T) k) := cal0_ok k
noncomputable def S (k : Nat) (a0 : Int) (a1 : Int) : O (Int ⊕ (Int × Int × Int × (List ((Int × ByteArray) × Int × ByteArray × Int × Int)))) :=
  O.cond (decide (a0 < (1 : Int))) (
   .ok (.inl (180 : Int))) (
   O.cond (decide (a0 > (1024 : Int))) (
    .ok (.inl (180 : Int))) (
    O.cond (decide (a1 < (1 : Int))) (
     .ok (.inl (180 : Int))) (
     O.cond (decide (a1 > (65535 : Int))) (
      .ok (.inl (180 : Int))) (
      .ok (.inr ((0 : Int), (a0, a1, [])))))))
theorem eq (k : Nat) (a0 : Int) (a1 : Int) : evFn (T := Int ⊕ (Int × Int × Int × (List ((Int × ByteArray) × Int × ByteArray × Int × Int)))) tab (calOf (cal k)) Go.Proofs.Tryz.f45 nt k 0 [.int .i64 a0, .int .i64 a1] [] ⟨0, false, []⟩ (fun v st => outK ct.ob (γ0 ct) ct.outs v st .ok) (fun e st => outP ct.ob (γ0 ct) ct.outs e st .ok) = S k a0 a1 := by kernel_rfl
theorem ok (k : Nat) : FnOkC Tryz.prog 45 ct (fun (x : Int × Int) (_ : Unit) => S k x.1 x.2) :=
 FnOkC.of_ev (C := ct) tab_ok rfl (calOf_ok (cal_ok k)) mixed Tryz.func45 nt k (fun _ _ => rfl) (fun (x : Int × Int) (_ : Unit) => eq k x.1 x.2)
theorem hd {T : Type} (k : Nat) : HdOk Tryz.prog 45 (pureC (T := T) ct [] (fun (x : Int × Int) (_ : Unit) => S k x.1 x.2)) :=
 pureC_ok rfl [] (ok k) Tryz.call45
end F_fdb_New
namespace F_addr_Kind
noncomputable def ct : Ct := ⟨.some (.one (.leaf .str) []), [], [⟨.val (.leaf (.int .i64)), [], []⟩]⟩
noncomputable def nt : Notes := ⟨[], [], [], [], []⟩
noncomputable def cal0 {T : Type} (k : Nat) : List (FuncId × Hd T) := []
theorem cal0_ok {T : Type} (k : Nat) : HdsOk Tryz.prog (cal0 (T := T) k) := trivial
noncomputable def cal {T : Type} (k : Nat) : List (FuncId × Hd T) := cal0 k
theorem cal_ok {T : Type} (k : Nat) : HdsOk Tryz.prog (cal (T := T) k) := cal0_ok k
noncomputable def S (k : Nat) (a0 : ByteArray) : O Int :=
  O.cond (decide ((ByteArray.size a0 : Int) ≠ (6 : Int))) (
   .ok (0 : Int)) (
   O.cond (decide (a0 = (⟨#[255, 255, 255, 255, 255, 255]⟩ : ByteArray))) (
    .ok (3 : Int)) (
    O.chk (decide (0 ≤ (0 : Int) ∧ (0 : Int) < (ByteArray.size a0 : Int))) (
     O.cond (decide ((bAnd .u8 (bt a0 (0 : Int)) (1 : Int)) = (1 : Int))) (
      .ok (2 : Int)) (
      .ok (1 : Int)))))
theorem eq (k : Nat) (a0 : ByteArray) : evFn (T := Int) tab (calOf (cal k)) Go.Proofs.Tryz.f22 nt k 0 [.str a0] [] ⟨0, false, []⟩ (fun v st => outK ct.ob (γ0 ct) ct.outs v st .ok) (fun e st => outP ct.ob (γ0 ct) ct.outs e st .ok) = S k a0 := by kernel_rfl
theorem ok (k : Nat) : FnOkC Tryz.prog 22 ct (fun (x : ByteArray) (_ : Unit) => S k x) :=
 FnOkC.of_ev (C := ct) tab_ok rfl (calOf_ok (cal_ok k)) mixed Tryz.func22 nt k (fun _ _ => rfl) (fun (x : ByteArray) (_ : Unit) => eq k x)
theorem hd {T : Type} (k : Nat) : HdOk Tryz.prog 22 (pureC (T := T) ct [] (fun (x : ByteArray) (_ : Unit) => S k x)) :=
 pureC_ok rfl [] (ok k) Tryz.call22
end F_addr_Kind
namespace F_fdb_Table_Learn
noncomputable def ct : Ct := ⟨.some (.pin (.ref 0) (.cons (.leaf (.int .i64)) (.cons (.leaf .str) (.one (.leaf (.int .i64)) [])))), [(124, .cons (.leaf (.int .i64)) (.cons (.leaf (.int .i64)) (.one (.map 122 true true [.int .i64, .str] [.int .i64, .str, .int .i64, .int .i64]) [])))], [⟨.val (.leaf .bool), [], []⟩]⟩
noncomputable def nt : Notes := ⟨[], [], [(4, [0, 1, 2, 3, 4, 5, 6, 7, 8, 9, 10, 11]), (5, [0, 1, 2, 3, 4, 5, 6, 7, 8, 9, 10, 11, 12, 13]), (7, [0, 1, 2, 3, 4, 5, 6, 7, 8, 9])], [], []⟩
noncomputable def cal0 {T : Type} (k : Nat) : List (FuncId × Hd T) := [(22, pureC F_addr_Kind.ct [] (fun (x : ByteArray) (_ : Unit) => F_addr_Kind.S k x))]
theorem cal0_ok {T : Type} (k : Nat) : HdsOk Tryz.prog (cal0 (T := T) k) := ⟨F_addr_Kind.hd k, trivial⟩
noncomputable def cal {T : Type} (k : Nat) : List (FuncId × Hd T) := cal0 k
theorem cal_ok {T : Type} (k : Nat) : HdsOk Tryz.prog (cal (T := T) k) := cal0_ok k
noncomputable def S (k : Nat) (a1 : Int) (a2 : ByteArray) (a3 : Int) (g0 : Int × Int × TY0) : O (Bool × Int × Int × TY0) :=
  O.cond (decide (a1 < (0 : Int))) (
   .ok (false, g0)) (
   O.cond (decide (a1 > (4094 : Int))) (
    .ok (false, g0)) (
    O.bind (F_addr_Kind.S k a2) fun r2 =>
    O.cond (decide (r2 ≠ (1 : Int))) (
     .ok (false, g0)) (
     O.cond (decide (a3 < (0 : Int))) (
      .ok (false, g0)) (
      O.cond (decide (a3 ≥ (16 : Int))) (
       .ok (false, g0)) (
       O.cond (!(mhas g0.2.2 (a1, a2))) (
        O.cond (decide ((List.length g0.2.2 : Int) ≥ g0.1)) (
         .ok (false, g0)) (
         .ok (true, (g0.1, g0.2.1, (mput g0.2.2 (a1, a2) (a1, a2, a3, (0 : Int))))))) (
        .ok (true, (g0.1, g0.2.1, (mput g0.2.2 (a1, a2) (a1, a2, a3, (0 : Int)))))))))))
theorem eq (k : Nat) (a1 : Int) (a2 : ByteArray) (a3 : Int) (g0 : Int × Int × TY0) : evFn (T := Bool × Int × Int × TY0) tab (calOf (cal k)) Go.Proofs.Tryz.f25 nt k 1 [.ptr 0 0, .int .i64 a1, .str a2, .int .i64 a3] [] ⟨2, false, [(0, .cells 124 [.int .i64 g0.1, .int .i64 g0.2.1, .mp 1]), (1, .map 122 true true [.int .i64, .str] [.int .i64, .str, .int .i64, .int .i64] g0.2.2)]⟩ (fun v st => outK ct.ob (γ0 ct) ct.outs v st .ok) (fun e st => outP ct.ob (γ0 ct) ct.outs e st .ok) = S k a1 a2 a3 g0 := by kernel_rfl
theorem ok (k : Nat) : FnOkC Tryz.prog 25 ct (fun (x : Int × ByteArray × Int) (g : Int × Int × TY0) => S k x.1 x.2.1 x.2.2 g) :=
 FnOkC.of_ev (C := ct) tab_ok rfl (calOf_ok (cal_ok k)) mixed Tryz.func25 nt k (fun _ _ => rfl) (fun (x : Int × ByteArray × Int) (g : Int × Int × TY0) => eq k x.1 x.2.1 x.2.2 g)
theorem hd {T : Type} (k : Nat) : HdOk Tryz.prog 25 (pureC (T := T) ct [.arg 0 0] (fun (x : Int × ByteArray × Int) (g : Int × Int × TY0) => S k x.1 x.2.1 x.2.2 g)) :=
 pureC_ok rfl [.arg 0 0] (ok k) Tryz.call25
end F_fdb_Table_Learn
end Go.Proofs.YtkihcmcaignmkaaGreat
end
