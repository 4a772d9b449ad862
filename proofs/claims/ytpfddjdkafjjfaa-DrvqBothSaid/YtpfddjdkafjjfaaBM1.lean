/- Texts of this proof, joined (2 of them): BTab, BS0.
   Conditions: none but those that stand at each theorem. -/
import Derived.Test.YtpfddjdkafjjfaaE5
import Derived.Test.YtpfddjdkafjjfaaProg
section
namespace Go.Proofs.Ytpfddjdkafjjfaa
open Go.Aq
set_option linter.unusedVariables false
set_option maxRecDepth 100000
noncomputable def tab : Tab := [
 (1, .func),
 (2, .int .i64),
 (3, .int .i64),
 (4, .bool),
 (5, .int .u8),
 (6, .int .u8),
 (7, .struct [(0, 1, false), (1, 1, false), (2, 1, false), (3, 1, false)] 4 [.int .i64 (0 : Int), .int .i64 (0 : Int), .bool false, .int .u8 (0 : Int)] false),
 (8, .struct [(0, 1, false), (1, 1, false), (2, 1, false), (3, 1, false)] 4 [.int .i64 (0 : Int), .int .i64 (0 : Int), .bool false, .int .u8 (0 : Int)] false),
 (9, .str),
 (10, .str),
 (11, .str),
 (12, .int .u64),
 (13, .struct [(0, 1, false), (1, 1, false)] 2 [.str ByteArray.empty, .int .u64 (0 : Int)] false),
 (14, .struct [(0, 1, false), (1, 1, false)] 2 [.str ByteArray.empty, .int .u64 (0 : Int)] false),
 (15, .ptr),
 (16, .ptr),
 (17, .ptr),
 (18, .struct [(0, 1, false)] 1 [.nilp] false),
 (19, .struct [(0, 1, false)] 1 [.nilp] false),
 (20, .iface),
 (21, .int .i32),
 (22, .struct [(0, 1, false), (1, 1, false), (2, 1, false), (3, 1, false)] 4 [.int .i64 (0 : Int), .int .i64 (0 : Int), .int .i64 (0 : Int), .int .i64 (0 : Int)] false),
 (23, .struct [(0, 1, false), (1, 1, false), (2, 1, false), (3, 1, false)] 4 [.int .i64 (0 : Int), .int .i64 (0 : Int), .int .i64 (0 : Int), .int .i64 (0 : Int)] true),
 (24, .slice 36),
 (25, .struct [(0, 1, false), (1, 4, true), (5, 1, false)] 6 [.int .i64 (0 : Int), .int .i64 (0 : Int), .int .i64 (0 : Int), .int .i64 (0 : Int), .int .i64 (0 : Int), .nilsl] false),
 (26, .struct [(0, 1, false), (1, 4, true), (5, 1, false)] 6 [.int .i64 (0 : Int), .int .i64 (0 : Int), .int .i64 (0 : Int), .int .i64 (0 : Int), .int .i64 (0 : Int), .nilsl] false),
 (27, .ptr),
 (28, .ptr),
 (29, .ptr),
 (31, .func),
 (32, .slice 56),
 (33, .struct [(0, 1, false), (1, 1, false), (2, 1, false)] 3 [.int .i64 (0 : Int), .bool false, .int .i64 (0 : Int)] false),
 (34, .struct [(0, 1, false), (1, 1, false), (2, 1, false)] 3 [.int .i64 (0 : Int), .bool false, .int .i64 (0 : Int)] true),
 (35, .struct [(0, 1, false), (1, 1, false), (2, 1, false), (3, 1, false), (4, 1, false), (5, 1, false), (6, 3, true), (9, 1, false)] 10 [.int .i64 (0 : Int), .int .i64 (0 : Int), .int .i64 (0 : Int), .int .i64 (0 : Int), .nilsl, .str ByteArray.empty, .int .i64 (0 : Int), .bool false, .int .i64 (0 : Int), .bool false] false),
 (36, .struct [(0, 1, false), (1, 1, false), (2, 1, false), (3, 1, false), (4, 1, false), (5, 1, false), (6, 3, true), (9, 1, false)] 10 [.int .i64 (0 : Int), .int .i64 (0 : Int), .int .i64 (0 : Int), .int .i64 (0 : Int), .nilsl, .str ByteArray.empty, .int .i64 (0 : Int), .bool false, .int .i64 (0 : Int), .bool false] false),
 (37, .func),
 (38, .func),
 (39, .slice 3),
 (40, .func),
 (41, .struct [(0, 1, false), (1, 1, false)] 2 [.int .i64 (0 : Int), .bool false] false),
 (42, .struct [(0, 1, false), (1, 1, false)] 2 [.int .i64 (0 : Int), .bool false] true),
 (43, .func),
 (44, .int .i64),
 (46, .func),
 (47, .func),
 (48, .func),
 (50, .func),
 (51, .func),
 (52, .func),
 (53, .func),
 (54, .func),
 (55, .struct [(0, 1, false), (1, 1, false), (2, 1, false)] 3 [.int .i64 (0 : Int), .int .i64 (0 : Int), .bool false] false),
 (56, .struct [(0, 1, false), (1, 1, false), (2, 1, false)] 3 [.int .i64 (0 : Int), .int .i64 (0 : Int), .bool false] true),
 (57, .func),
 (58, .func),
 (59, .func),
 (60, .func),
 (61, .slice 71),
 (63, .func),
 (65, .func),
 (66, .ptr),
 (68, .func),
 (69, .slice 74),
 (70, .struct [(0, 1, false), (1, 1, false), (2, 1, false), (3, 1, false), (4, 1, false), (5, 1, false), (6, 1, false)] 7 [.nilsl, .bool false, .bool false, .bool false, .int .i64 (0 : Int), .int .i64 (0 : Int), .int .i64 (0 : Int)] false),
 (71, .struct [(0, 1, false), (1, 1, false), (2, 1, false), (3, 1, false), (4, 1, false), (5, 1, false), (6, 1, false)] 7 [.nilsl, .bool false, .bool false, .bool false, .int .i64 (0 : Int), .int .i64 (0 : Int), .int .i64 (0 : Int)] false),
 (72, .func),
 (73, .struct [(0, 1, false), (1, 1, false), (2, 1, false)] 3 [.int .i64 (0 : Int), .int .i64 (0 : Int), .nilsl] false),
 (74, .struct [(0, 1, false), (1, 1, false), (2, 1, false)] 3 [.int .i64 (0 : Int), .int .i64 (0 : Int), .nilsl] false),
 (76, .func),
 (77, .func),
 (78, .func),
 (79, .func),
 (80, .func),
 (81, .func),
 (82, .ptr),
 (84, .func),
 (85, .slice 5),
 (87, .func),
 (88, .slice 121),
 (89, .struct [(0, 1, false), (1, 1, false), (2, 1, false)] 3 [.str ByteArray.empty, .int .i64 (0 : Int), .nilsl] false),
 (90, .struct [(0, 1, false), (1, 1, false), (2, 1, false)] 3 [.str ByteArray.empty, .int .i64 (0 : Int), .nilsl] false),
 (91, .struct [(0, 1, false), (1, 1, false), (2, 1, false)] 3 [.nilsl, .int .i64 (0 : Int), .nilsl] false),
 (92, .struct [(0, 1, false), (1, 1, false), (2, 1, false)] 3 [.nilsl, .int .i64 (0 : Int), .nilsl] false),
 (93, .map 3 3),
 (94, .struct [(0, 1, false), (1, 4, true), (5, 2, true), (7, 2, true), (9, 2, true), (11, 1, false), (12, 1, false), (13, 1, false)] 14 [.nilp, .int .i64 (0 : Int), .int .i64 (0 : Int), .int .i64 (0 : Int), .int .i64 (0 : Int), .int .i64 (0 : Int), .bool false, .int .i64 (0 : Int), .bool false, .int .i64 (0 : Int), .bool false, .int .i64 (0 : Int), .int .i64 (0 : Int), .nilm] false),
 (95, .struct [(0, 1, false), (1, 4, true), (5, 2, true), (7, 2, true), (9, 2, true), (11, 1, false), (12, 1, false), (13, 1, false)] 14 [.nilp, .int .i64 (0 : Int), .int .i64 (0 : Int), .int .i64 (0 : Int), .int .i64 (0 : Int), .int .i64 (0 : Int), .bool false, .int .i64 (0 : Int), .bool false, .int .i64 (0 : Int), .bool false, .int .i64 (0 : Int), .int .i64 (0 : Int), .nilm] false),
 (96, .func),
 (97, .func),
 (98, .func),
 (99, .func),
 (100, .func),
 (101, .func),
 (102, .func),
 (103, .int .u64),
 (105, .func),
 (107, .func),
 (108, .int .u32),
 (109, .struct [(0, 1, false), (1, 1, false), (2, 1, false), (3, 1, false)] 4 [.int .u64 (0 : Int), .int .u32 (0 : Int), .int .i64 (0 : Int), .int .i64 (0 : Int)] false),
 (110, .struct [(0, 1, false), (1, 1, false), (2, 1, false), (3, 1, false)] 4 [.int .u64 (0 : Int), .int .u32 (0 : Int), .int .i64 (0 : Int), .int .i64 (0 : Int)] true),
 (112, .func),
 (113, .func),
 (115, .func),
 (116, .func),
 (117, .func),
 (118, .func),
 (119, .func),
 (120, .struct [(0, 1, false), (1, 1, false), (2, 1, false), (3, 1, false)] 4 [.int .i64 (0 : Int), .int .i64 (0 : Int), .int .i64 (0 : Int), .bool false] false),
 (121, .struct [(0, 1, false), (1, 1, false), (2, 1, false), (3, 1, false)] 4 [.int .i64 (0 : Int), .int .i64 (0 : Int), .int .i64 (0 : Int), .bool false] true),
 (122, .func),
 (123, .func),
 (124, .func),
 (125, .struct [(0, 1, false), (1, 4, true), (5, 2, true), (7, 2, true), (9, 2, true), (11, 1, false), (12, 1, false), (13, 1, false)] 14 [.nilp, .int .i64 (0 : Int), .int .i64 (0 : Int), .int .i64 (0 : Int), .int .i64 (0 : Int), .int .i64 (0 : Int), .bool false, .int .i64 (0 : Int), .bool false, .int .i64 (0 : Int), .bool false, .int .i64 (0 : Int), .int .i64 (0 : Int), .bool false] false),
 (126, .struct [(0, 1, false), (1, 4, true), (5, 2, true), (7, 2, true), (9, 2, true), (11, 1, false), (12, 1, false), (13, 1, false)] 14 [.nilp, .int .i64 (0 : Int), .int .i64 (0 : Int), .int .i64 (0 : Int), .int .i64 (0 : Int), .int .i64 (0 : Int), .bool false, .int .i64 (0 : Int), .bool false, .int .i64 (0 : Int), .bool false, .int .i64 (0 : Int), .int .i64 (0 : Int), .bool false] false),
 (127, .struct [] 0 [] false),
 (128, .struct [] 0 [] false),
 (129, .func),
 (130, .func),
 (131, .func),
 (132, .struct [(0, 1, false), (1, 4, true), (5, 2, true), (7, 2, true), (9, 2, true), (11, 1, false), (12, 1, false)] 13 [.nilp, .int .i64 (0 : Int), .int .i64 (0 : Int), .int .i64 (0 : Int), .int .i64 (0 : Int), .int .i64 (0 : Int), .bool false, .int .i64 (0 : Int), .bool false, .int .i64 (0 : Int), .bool false, .int .i64 (0 : Int), .nilsl] false),
 (133, .struct [(0, 1, false), (1, 4, true), (5, 2, true), (7, 2, true), (9, 2, true), (11, 1, false), (12, 1, false)] 13 [.nilp, .int .i64 (0 : Int), .int .i64 (0 : Int), .int .i64 (0 : Int), .int .i64 (0 : Int), .int .i64 (0 : Int), .bool false, .int .i64 (0 : Int), .bool false, .int .i64 (0 : Int), .bool false, .int .i64 (0 : Int), .nilsl] false),
 (134, .func),
 (135, .func),
 (136, .func),
 (137, .func),
 (139, .func),
 (140, .func),
 (141, .func),
 (142, .func),
 (143, .int .u64),
 (145, .func),
 (146, .func),
 (147, .ptr),
 (148, .struct [(0, 1, false), (1, 1, false)] 2 [.nilp, .nilsl] false),
 (149, .struct [(0, 1, false), (1, 1, false)] 2 [.nilp, .nilsl] false),
 (150, .func),
 (151, .iface),
 (152, .iface),
 (154, .func),
 (155, .func),
 (156, .slice 110),
 (157, .func),
 (158, .func),
 (159, .func),
 (160, .func),
 (161, .func),
 (162, .func),
 (163, .func),
 (165, .func),
 (167, .func),
 (168, .ptr),
 (169, .func),
 (170, .int .i64),
 (172, .func),
 (173, .func),
 (174, .func),
 (175, .func),
 (176, .func),
 (177, .func),
 (179, .func),
 (180, .func),
 (181, .int .u64),
 (182, .func),
 (183, .func),
 (184, .func),
 (185, .ptr),
 (186, .func),
 (187, .ptr),
 (189, .func),
 (190, .struct [(0, 1, false), (1, 1, false), (2, 1, false), (3, 1, false)] 4 [.nilp, .nilp, .nilp, .str ByteArray.empty] false),
 (191, .struct [(0, 1, false), (1, 1, false), (2, 1, false), (3, 1, false)] 4 [.nilp, .nilp, .nilp, .str ByteArray.empty] false),
 (195, .int .u8),
 (196, .int .u8),
 (197, .func),
 (198, .int .i32),
 (199, .int .i32),
 (200, .struct [(0, 1, false), (1, 1, false), (2, 1, false), (3, 1, false), (4, 1, false), (5, 1, false), (6, 1, false), (7, 1, false), (8, 1, false), (9, 1, false), (10, 1, false)] 11 [.int .u64 (0 : Int), .int .u64 (0 : Int), .int .u32 (0 : Int), .int .u8 (0 : Int), .int .u8 (0 : Int), .int .u8 (0 : Int), .int .u8 (0 : Int), .nilf, .nilp, .int .i32 (0 : Int), .int .i32 (0 : Int)] false),
 (201, .struct [(0, 1, false), (1, 1, false), (2, 1, false), (3, 1, false), (4, 1, false), (5, 1, false), (6, 1, false), (7, 1, false), (8, 1, false), (9, 1, false), (10, 1, false)] 11 [.int .u64 (0 : Int), .int .u64 (0 : Int), .int .u32 (0 : Int), .int .u8 (0 : Int), .int .u8 (0 : Int), .int .u8 (0 : Int), .int .u8 (0 : Int), .nilf, .nilp, .int .i32 (0 : Int), .int .i32 (0 : Int)] false),
 (1, .tabE 36 (.cons (.leaf (.int .i64)) (.cons (.leaf (.int .i64)) (.cons (.leaf (.int .i64)) (.cons (.leaf (.int .i64)) (.cons (.row false 56 [.int .i64, .int .i64, .bool]) (.cons (.leaf .str) (.cons (.agg (.cons (.leaf (.int .i64)) (.cons (.leaf .bool) (.one (.leaf (.int .i64)) [])))) (.one (.leaf .bool) []))))))))),
 (1, .tabE 71 (.cons (.row false 56 [.int .i64, .int .i64, .bool]) (.cons (.leaf .bool) (.cons (.leaf .bool) (.cons (.leaf .bool) (.cons (.leaf (.int .i64)) (.cons (.leaf (.int .i64)) (.one (.leaf (.int .i64)) [])))))))),
 (1, .tabE 74 (.cons (.leaf (.int .i64)) (.cons (.leaf (.int .i64)) (.one (.row false 56 [.int .i64, .int .i64, .bool]) []))))]
theorem tab_ok : tabChk Try.prog tab = true := by kernel_rfl
theorem mixed : Try.prog.follows .mixedOrders = true := by kernel_rfl
abbrev TY0 := Int × (List Int × Int × (List (Int × Int × Int × Bool))) × ((Int × Int × Int × Int) × (Int × Bool) × (Int × Bool) × (Int × Bool) × Int × Int × (List (Int × Int)))
abbrev TY1 := List (Int × Int × Int × Bool)
abbrev TY2 := Int × ((Int × Int × Int × Int) × (Int × Bool) × (Int × Bool) × (Int × Bool) × Int × Int × (List (Int × Int))) × (List Int × Int × (List (Int × Int × Int × Bool)))
abbrev TY3 := (Int × Int × Int × Int) × (Int × Bool) × (Int × Bool) × (Int × Bool) × Int × Int × (List (Int × Int))
abbrev TY4 := List Int × Int × (List (Int × Int × Int × Bool))
abbrev TY5 := Int × Int × Int × Bool
abbrev TY6 := Int × Int × Int × Int
abbrev TY7 := List (Int × Int)
abbrev TY8 := (Int × Int) × ((Int × Int × Int × Int) × (Int × Bool) × (Int × Bool) × (Int × Bool) × Int × Int × (List (Int × Int))) × (List Int × Int × (List (Int × Int × Int × Bool)))
abbrev TY9 := Int × Int × Bool
abbrev TY10 := Bool × (List Int × Int × (List (Int × Int × Int × Bool))) × ((Int × Int × Int × Int) × (Int × Bool) × (Int × Bool) × (Int × Bool) × Int × Int × (List (Int × Int))) × ((Int × Int × Int × Int) × (Int × Bool) × (Int × Bool) × (Int × Bool) × Int × List Int) × (ByteArray × Int × (List (Int × Int × Int × Bool)))
abbrev TY11 := Bool × (List Int × Int × (List (Int × Int × Int × Bool))) × ((Int × Int × Int × Int) × (Int × Bool) × (Int × Bool) × (Int × Bool) × Int × List Int) × (ByteArray × Int × (List (Int × Int × Int × Bool)))
abbrev TY12 := Bool × (List Int × Int × (List (Int × Int × Int × Bool))) × ((Int × Int × Int × Int) × (Int × Bool) × (Int × Bool) × (Int × Bool) × Int × Int × (List (Int × Int)))
abbrev TY13 := List (Int × Int × Int × Int × (List (Int × Int × Bool)) × ByteArray × (Int × Bool × Int) × Bool)
abbrev TY16 := Bool × List Int × Int × (List (Int × Int × Int × Bool))
abbrev TY18 := (List (Int × Int × Int × Int)) × ((Int × Int × Int × Int) × (Int × Bool) × (Int × Bool) × (Int × Bool) × Int × Int × Bool) × (List Int × Int × (List (Int × Int × Int × Bool)))
abbrev TY19 := ((Int × Int × Int × Int) × (Int × Bool) × (Int × Bool) × (Int × Bool) × Int × Int × Bool) × (List Int × Int × (List (Int × Int × Int × Bool)))
abbrev TY20 := (Int × Int × Int × Int) × (Int × Bool) × (Int × Bool) × (Int × Bool) × Int × Int × Bool
abbrev TY21 := List (Int × Int × Int × Int)
abbrev TY22 := (Int × Int × Bool) × ((Int × Int × Int × Int) × (Int × Bool) × (Int × Bool) × (Int × Bool) × Int × Int × Bool) × (List Int × Int × (List (Int × Int × Int × Bool)))
abbrev TY23 := (Int × Int × (List (Int × Int × Bool))) × ((Int × Int × Int × Int) × (Int × Bool) × (Int × Bool) × (Int × Bool) × Int × Int × Bool) × (List Int × Int × (List (Int × Int × Int × Bool)))
abbrev TY24 := Int × Int × (List (Int × Int × Bool))
abbrev TY25 := List (Int × Int × Bool)
abbrev TY26 := ((Int × Int × (List (Int × Int × Bool))) × Bool × Int) × ((Int × Int × Int × Int) × (Int × Bool) × (Int × Bool) × (Int × Bool) × Int × Int × Bool) × (List Int × Int × (List (Int × Int × Int × Bool)))
abbrev TY27 := (Int × Int × (List (Int × Int × Bool))) × Bool × Int
abbrev TY28 := Int × ((Int × Int × Int × Int) × (Int × Bool) × (Int × Bool) × (Int × Bool) × Int × Int × Bool) × (List Int × Int × (List (Int × Int × Int × Bool)))
abbrev TY29 := List (Int × Int × (List (Int × Int × Bool)))
abbrev TY30 := Bool × ((Int × Int × Int × Int) × (Int × Bool) × (Int × Bool) × (Int × Bool) × Int × Int × (List (Int × Int))) × (List Int × Int × (List (Int × Int × Int × Bool))) × ((Int × Int × Int × Int) × (Int × Bool) × (Int × Bool) × (Int × Bool) × Int × Int × Bool)
abbrev TY31 := (List (Int × Int × Bool)) × Bool × Bool × Bool × Int × Int × Int
end Go.Proofs.Ytpfddjdkafjjfaa
end
section
namespace Go.Proofs.Ytpfddjdkafjjfaa
open Go.Aq
set_option linter.unusedVariables false
set_option maxRecDepth 100000
namespace F_gmem_New
noncomputable def ct : Ct := ⟨.some (.one (.leaf (.int .i64)) []), [], [⟨.tup (.pin (.nil) (.one (.leaf (.int .i64)) [])), [], []⟩, ⟨.tup (.pin (.ref 0) (.one (.leaf (.int .i64)) [])), [(92, .cons (.row true 5 [.int .u8]) (.cons (.leaf (.int .i64)) (.one (.row true 121 [.int .i64, .int .i64, .int .i64, .bool]) [])))], [.arg 0 0]⟩]⟩
noncomputable def nt : Notes := ⟨[], [], [], [], []⟩
noncomputable def cal0 {T : Type} (k : Nat) : List (FuncId × Hd T) := []
theorem cal0_ok {T : Type} (k : Nat) : HdsOk Try.prog (cal0 (T := T) k) := trivial
noncomputable def cal {T : Type} (k : Nat) : List (FuncId × Hd T) := cal0 k
theorem cal_ok {T : Type} (k : Nat) : HdsOk Try.prog (cal (T := T) k) := cal0_ok k
noncomputable def S (k : Nat) (a0 : Int) : O (Int ⊕ (Int × List Int × Int × (List (Int × Int × Int × Bool)))) :=
  O.cond (decide (a0 < (64 : Int))) (
   .ok (.inl (40 : Int))) (
   O.cond (decide (a0 > (1048576 : Int))) (
    .ok (.inl (40 : Int))) (
    O.chk (decide (0 ≤ a0 ∧ a0 = a0 ∧ a0 ≤ 1073741824)) (
     .ok (.inr ((0 : Int), ((List.replicate a0.toNat (0 : Int)), (0 : Int), []))))))
theorem eq (k : Nat) (a0 : Int) : evFn (T := Int ⊕ (Int × List Int × Int × (List (Int × Int × Int × Bool)))) tab (calOf (cal k)) Go.Proofs.Try.f22 nt k 0 [.int .i64 a0] [] ⟨0, false, []⟩ (fun v st => outK ct.ob (γ0 ct) ct.outs v st .ok) (fun e st => outP ct.ob (γ0 ct) ct.outs e st .ok) = S k a0 := by kernel_rfl
theorem ok (k : Nat) : FnOkC Try.prog 22 ct (fun (x : Int) (_ : Unit) => S k x) :=
 FnOkC.of_ev (C := ct) tab_ok rfl (calOf_ok (cal_ok k)) mixed Try.func22 nt k (fun _ _ => rfl) (fun (x : Int) (_ : Unit) => eq k x)
theorem hd {T : Type} (k : Nat) : HdOk Try.prog 22 (pureC (T := T) ct [] (fun (x : Int) (_ : Unit) => S k x)) :=
 pureC_ok rfl [] (ok k) Try.call22
end F_gmem_New
end Go.Proofs.Ytpfddjdkafjjfaa
end
