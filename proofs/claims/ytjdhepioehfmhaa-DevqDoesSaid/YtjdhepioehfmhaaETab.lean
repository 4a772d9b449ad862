/- What this seat's functions come to, as plain functions, each with the proof that the code does just that. Printed by a program of this repo (wip/gen2/gen.py). -/
import Derived.Test.YtjdhepioehfmhaaV20
import Derived.Test.YtjdhepioehfmhaaProg
namespace Go.Proofs.Ytjdhepioehfmhaa
open Go.Aq
set_option linter.unusedVariables false
set_option maxRecDepth 100000
noncomputable def tab : Tab := [
  (1, .func),
  (2, .int .i64),
  (3, .int .i64),
  (4, .bool),
  (5, .int .u8),
  (6, .int .u8),
  (7, .struct [(0, 1, false), (1, 1, false), (2, 1, false), (3, 1, false)] 4 [.int .i64 (0 : Int), .int .i64 (0 : Int), .bool false, .int .u8 (0 : Int)] false),
  (8, .struct [(0, 1, false), (1, 1, false), (2, 1, false), (3, 1, false)] 4 [.int .i64 (0 : Int), .int .i64 (0 : Int), .bool false, .int .u8 (0 : Int)] false),
  (9, .str),
  (10, .str),
  (11, .str),
  (12, .int .u64),
  (13, .struct [(0, 1, false), (1, 1, false)] 2 [.str ByteArray.empty, .int .u64 (0 : Int)] false),
  (14, .struct [(0, 1, false), (1, 1, false)] 2 [.str ByteArray.empty, .int .u64 (0 : Int)] false),
  (15, .ptr),
  (16, .ptr),
  (17, .ptr),
  (18, .struct [(0, 1, false)] 1 [.nilp] false),
  (19, .struct [(0, 1, false)] 1 [.nilp] false),
  (20, .iface),
  (21, .int .i32),
  (22, .slice 3),
  (23, .struct [(0, 1, false), (1, 1, false), (2, 1, false), (3, 1, false)] 4 [.int .i64 (0 : Int), .int .i64 (0 : Int), .int .i64 (0 : Int), .int .i64 (0 : Int)] false),
  (24, .struct [(0, 1, false), (1, 1, false), (2, 1, false), (3, 1, false)] 4 [.int .i64 (0 : Int), .int .i64 (0 : Int), .int .i64 (0 : Int), .int .i64 (0 : Int)] true),
  (25, .ptr),
  (26, .ptr),
  (27, .ptr),
  (29, .func),
  (30, .slice 61),
  (31, .struct [(0, 1, false), (1, 4, true), (5, 1, false)] 6 [.int .i64 (0 : Int), .int .i64 (0 : Int), .int .i64 (0 : Int), .int .i64 (0 : Int), .int .i64 (0 : Int), .nilsl] false),
  (32, .struct [(0, 1, false), (1, 4, true), (5, 1, false)] 6 [.int .i64 (0 : Int), .int .i64 (0 : Int), .int .i64 (0 : Int), .int .i64 (0 : Int), .int .i64 (0 : Int), .nilsl] false),
  (33, .int .u64),
  (34, .int .u32),
  (35, .struct [(0, 1, false), (1, 1, false), (2, 1, false), (3, 1, false)] 4 [.int .u64 (0 : Int), .int .u32 (0 : Int), .int .i64 (0 : Int), .int .i64 (0 : Int)] false),
  (36, .struct [(0, 1, false), (1, 1, false), (2, 1, false), (3, 1, false)] 4 [.int .u64 (0 : Int), .int .u32 (0 : Int), .int .i64 (0 : Int), .int .i64 (0 : Int)] true),
  (37, .func),
  (38, .int .i64),
  (40, .func),
  (41, .func),
  (42, .slice 49),
  (43, .struct [(0, 1, false), (1, 1, false), (2, 1, false)] 3 [.int .i64 (0 : Int), .int .i64 (0 : Int), .nilsl] false),
  (44, .struct [(0, 1, false), (1, 1, false), (2, 1, false)] 3 [.int .i64 (0 : Int), .int .i64 (0 : Int), .nilsl] false),
  (46, .func),
  (47, .func),
  (48, .struct [(0, 1, false), (1, 1, false), (2, 1, false)] 3 [.int .i64 (0 : Int), .int .i64 (0 : Int), .bool false] false),
  (49, .struct [(0, 1, false), (1, 1, false), (2, 1, false)] 3 [.int .i64 (0 : Int), .int .i64 (0 : Int), .bool false] true),
  (50, .func),
  (52, .func),
  (53, .func),
  (54, .func),
  (55, .func),
  (57, .func),
  (58, .struct [(0, 1, false), (1, 1, false), (2, 1, false)] 3 [.int .i64 (0 : Int), .bool false, .int .i64 (0 : Int)] false),
  (59, .struct [(0, 1, false), (1, 1, false), (2, 1, false)] 3 [.int .i64 (0 : Int), .bool false, .int .i64 (0 : Int)] true),
  (60, .struct [(0, 1, false), (1, 1, false), (2, 4, true), (6, 1, false), (7, 1, false), (8, 1, false), (9, 3, true), (12, 1, false)] 13 [.int .i64 (0 : Int), .int .i64 (0 : Int), .int .u64 (0 : Int), .int .u32 (0 : Int), .int .i64 (0 : Int), .int .i64 (0 : Int), .str ByteArray.empty, .int .i64 (0 : Int), .int .i64 (0 : Int), .int .i64 (0 : Int), .bool false, .int .i64 (0 : Int), .bool false] false),
  (61, .struct [(0, 1, false), (1, 1, false), (2, 4, true), (6, 1, false), (7, 1, false), (8, 1, false), (9, 3, true), (12, 1, false)] 13 [.int .i64 (0 : Int), .int .i64 (0 : Int), .int .u64 (0 : Int), .int .u32 (0 : Int), .int .i64 (0 : Int), .int .i64 (0 : Int), .str ByteArray.empty, .int .i64 (0 : Int), .int .i64 (0 : Int), .int .i64 (0 : Int), .bool false, .int .i64 (0 : Int), .bool false] false),
  (62, .func),
  (63, .func),
  (64, .func),
  (65, .func),
  (66, .func),
  (67, .func),
  (68, .func),
  (69, .ptr),
  (70, .struct [(0, 1, false), (1, 1, false)] 2 [.int .i64 (0 : Int), .bool false] false),
  (71, .struct [(0, 1, false), (1, 1, false)] 2 [.int .i64 (0 : Int), .bool false] true),
  (72, .struct [(0, 1, false), (1, 4, true), (5, 2, true), (7, 2, true), (9, 2, true), (11, 1, false), (12, 1, false), (13, 1, false)] 14 [.nilp, .int .i64 (0 : Int), .int .i64 (0 : Int), .int .i64 (0 : Int), .int .i64 (0 : Int), .int .i64 (0 : Int), .bool false, .int .i64 (0 : Int), .bool false, .int .i64 (0 : Int), .bool false, .int .i64 (0 : Int), .int .i64 (0 : Int), .bool false] false),
  (73, .struct [(0, 1, false), (1, 4, true), (5, 2, true), (7, 2, true), (9, 2, true), (11, 1, false), (12, 1, false), (13, 1, false)] 14 [.nilp, .int .i64 (0 : Int), .int .i64 (0 : Int), .int .i64 (0 : Int), .int .i64 (0 : Int), .int .i64 (0 : Int), .bool false, .int .i64 (0 : Int), .bool false, .int .i64 (0 : Int), .bool false, .int .i64 (0 : Int), .int .i64 (0 : Int), .bool false] false),
  (74, .func),
  (75, .slice 107),
  (76, .struct [(0, 1, false), (1, 1, false), (2, 1, false)] 3 [.str ByteArray.empty, .int .i64 (0 : Int), .nilsl] false),
  (77, .struct [(0, 1, false), (1, 1, false), (2, 1, false)] 3 [.str ByteArray.empty, .int .i64 (0 : Int), .nilsl] false),
  (79, .func),
  (81, .func),
  (83, .func),
  (85, .func),
  (86, .func),
  (87, .func),
  (88, .func),
  (89, .func),
  (90, .slice 5),
  (91, .struct [(0, 1, false), (1, 1, false), (2, 1, false)] 3 [.nilsl, .int .i64 (0 : Int), .nilsl] false),
  (92, .struct [(0, 1, false), (1, 1, false), (2, 1, false)] 3 [.nilsl, .int .i64 (0 : Int), .nilsl] false),
  (93, .struct [(0, 1, false), (1, 4, true), (5, 2, true), (7, 2, true), (9, 2, true), (11, 1, false), (12, 1, false), (13, 1, false)] 14 [.nilp, .int .i64 (0 : Int), .int .i64 (0 : Int), .int .i64 (0 : Int), .int .i64 (0 : Int), .int .i64 (0 : Int), .bool false, .int .i64 (0 : Int), .bool false, .int .i64 (0 : Int), .bool false, .int .i64 (0 : Int), .int .i64 (0 : Int), .bool false] false),
  (94, .struct [(0, 1, false), (1, 4, true), (5, 2, true), (7, 2, true), (9, 2, true), (11, 1, false), (12, 1, false), (13, 1, false)] 14 [.nilp, .int .i64 (0 : Int), .int .i64 (0 : Int), .int .i64 (0 : Int), .int .i64 (0 : Int), .int .i64 (0 : Int), .bool false, .int .i64 (0 : Int), .bool false, .int .i64 (0 : Int), .bool false, .int .i64 (0 : Int), .int .i64 (0 : Int), .bool false] false),
  (95, .struct [] 0 [] false),
  (96, .struct [] 0 [] false),
  (97, .func),
  (98, .func),
  (100, .func),
  (101, .func),
  (102, .func),
  (103, .func),
  (104, .func),
  (105, .func),
  (106, .struct [(0, 1, false), (1, 1, false), (2, 1, false), (3, 1, false)] 4 [.int .i64 (0 : Int), .int .i64 (0 : Int), .int .i64 (0 : Int), .bool false] false),
  (107, .struct [(0, 1, false), (1, 1, false), (2, 1, false), (3, 1, false)] 4 [.int .i64 (0 : Int), .int .i64 (0 : Int), .int .i64 (0 : Int), .bool false] true),
  (108, .func),
  (110, .func),
  (111, .func),
  (113, .func),
  (114, .func),
  (115, .func),
  (117, .func),
  (118, .func),
  (119, .slice 36),
  (120, .func),
  (121, .func),
  (122, .func),
  (123, .func),
  (124, .int .u64),
  (126, .func),
  (128, .func),
  (129, .func),
  (131, .func),
  (132, .func),
  (133, .func),
  (134, .slice 71),
  (135, .struct [(0, 1, false), (1, 1, false), (2, 1, false), (3, 1, false)] 4 [.nilp, .nilp, .nilp, .str ByteArray.empty] false),
  (136, .struct [(0, 1, false), (1, 1, false), (2, 1, false), (3, 1, false)] 4 [.nilp, .nilp, .nilp, .str ByteArray.empty] false),
  (140, .int .u8),
  (141, .int .u8),
  (142, .func),
  (143, .ptr),
  (144, .int .i32),
  (145, .int .i32),
  (146, .struct [(0, 1, false), (1, 1, false), (2, 1, false), (3, 1, false), (4, 1, false), (5, 1, false), (6, 1, false), (7, 1, false), (8, 1, false), (9, 1, false), (10, 1, false)] 11 [.int .u64 (0 : Int), .int .u64 (0 : Int), .int .u32 (0 : Int), .int .u8 (0 : Int), .int .u8 (0 : Int), .int .u8 (0 : Int), .int .u8 (0 : Int), .nilf, .nilp, .int .i32 (0 : Int), .int .i32 (0 : Int)] false),
  (147, .struct [(0, 1, false), (1, 1, false), (2, 1, false), (3, 1, false), (4, 1, false), (5, 1, false), (6, 1, false), (7, 1, false), (8, 1, false), (9, 1, false), (10, 1, false)] 11 [.int .u64 (0 : Int), .int .u64 (0 : Int), .int .u32 (0 : Int), .int .u8 (0 : Int), .int .u8 (0 : Int), .int .u8 (0 : Int), .int .u8 (0 : Int), .nilf, .nilp, .int .i32 (0 : Int), .int .i32 (0 : Int)] false),
  (148, .func)]
theorem tab_ok : tabChk Try.prog tab = true := by kernel_rfl
theorem mixed : Try.prog.follows .mixedOrders = true := by kernel_rfl
abbrev TY0 := Bool × (List Int × Int × (List (Int × Int × Int × Bool))) × ((Int × Int × Int × Int) × (Int × Bool) × (Int × Bool) × (Int × Bool) × Int × Int × Bool) × ((Int × Int × Int × Int) × (Int × Bool) × (Int × Bool) × (Int × Bool) × Int × Int × Bool) × (ByteArray × Int × (List (Int × Int × Int × Bool)))
abbrev TY1 := Bool × (List Int × Int × (List (Int × Int × Int × Bool))) × ((Int × Int × Int × Int) × (Int × Bool) × (Int × Bool) × (Int × Bool) × Int × Int × Bool) × (ByteArray × Int × (List (Int × Int × Int × Bool)))
abbrev TY2 := Bool × (List Int × Int × (List (Int × Int × Int × Bool))) × ((Int × Int × Int × Int) × (Int × Bool) × (Int × Bool) × (Int × Bool) × Int × Int × Bool)
abbrev TY3 := List (Int × Int × Int × Int × Int × Int × ByteArray × Int × Int × Int × Bool × Int × Bool)
abbrev TY4 := (Int × Int × Int × Int) × (Int × Bool) × (Int × Bool) × (Int × Bool) × Int × Int × Bool
abbrev TY5 := Int × Int × Int × Int × Int × Int × ByteArray × Int × Int × Int × Bool × Int × Bool
abbrev TY6 := List (Int × Int × Int × Bool)
abbrev TY7 := Int × Int × Int × Bool
abbrev TY8 := (List (Int × Int × Int × Int)) × ((Int × Int × Int × Int) × (Int × Bool) × (Int × Bool) × (Int × Bool) × Int × Int × Bool) × (List Int × Int × (List (Int × Int × Int × Bool)))
abbrev TY9 := ((Int × Int × Int × Int) × (Int × Bool) × (Int × Bool) × (Int × Bool) × Int × Int × Bool) × (List Int × Int × (List (Int × Int × Int × Bool)))
abbrev TY10 := List Int × Int × (List (Int × Int × Int × Bool))
abbrev TY11 := List (Int × Int × Int × Int)
abbrev TY12 := Int × Int × Int × Int
abbrev TY13 := (Int × Int × Bool) × ((Int × Int × Int × Int) × (Int × Bool) × (Int × Bool) × (Int × Bool) × Int × Int × Bool) × (List Int × Int × (List (Int × Int × Int × Bool)))
abbrev TY14 := (Int × Int × (List (Int × Int × Bool))) × ((Int × Int × Int × Int) × (Int × Bool) × (Int × Bool) × (Int × Bool) × Int × Int × Bool) × (List Int × Int × (List (Int × Int × Int × Bool)))
abbrev TY15 := Int × Int × (List (Int × Int × Bool))
abbrev TY16 := List (Int × Int × Bool)
abbrev TY17 := Int × Int × Bool
abbrev TY18 := ((Int × Int × (List (Int × Int × Bool))) × Bool × Int) × ((Int × Int × Int × Int) × (Int × Bool) × (Int × Bool) × (Int × Bool) × Int × Int × Bool) × (List Int × Int × (List (Int × Int × Int × Bool)))
abbrev TY19 := (Int × Int × (List (Int × Int × Bool))) × Bool × Int
abbrev TY20 := Int × ((Int × Int × Int × Int) × (Int × Bool) × (Int × Bool) × (Int × Bool) × Int × Int × Bool) × (List Int × Int × (List (Int × Int × Int × Bool)))
abbrev TY21 := Bool × ((Int × Int × Int × Int) × (Int × Bool) × (Int × Bool) × (Int × Bool) × Int × Int × Bool) × (List Int × Int × (List (Int × Int × Int × Bool)))
abbrev TY22 := ((List (Int × Int × Int × Int)) × Bool) × ((Int × Int × Int × Int) × (Int × Bool) × (Int × Bool) × (Int × Bool) × Int × Int × Bool) × (ByteArray × Int × (List (Int × Int × Int × Bool)))
abbrev TY23 := ByteArray × Int × (List (Int × Int × Int × Bool))
abbrev TY24 := (List (Int × Int × Int × Int)) × Bool
abbrev TY25 := ((List (Int × Int × Bool)) × Bool) × ((Int × Int × Int × Int) × (Int × Bool) × (Int × Bool) × (Int × Bool) × Int × Int × Bool) × (ByteArray × Int × (List (Int × Int × Int × Bool)))
abbrev TY26 := (List (Int × Int × Bool)) × Bool
abbrev TY27 := ((Int × Int × (List (Int × Int × Bool))) × Bool) × ((Int × Int × Int × Int) × (Int × Bool) × (Int × Bool) × (Int × Bool) × Int × Int × Bool) × (ByteArray × Int × (List (Int × Int × Int × Bool)))
abbrev TY28 := (Int × Int × (List (Int × Int × Bool))) × Bool
abbrev TY29 := ((Int × Int × (List (Int × Int × Bool))) × Bool × Int) × ((Int × Int × Int × Int) × (Int × Bool) × (Int × Bool) × (Int × Bool) × Int × Int × Bool) × (ByteArray × Int × (List (Int × Int × Int × Bool)))
abbrev TY30 := Int × ((Int × Int × Int × Int) × (Int × Bool) × (Int × Bool) × (Int × Bool) × Int × Int × Bool) × (ByteArray × Int × (List (Int × Int × Int × Bool)))
abbrev TY31 := Bool × ((Int × Int × Int × Int) × (Int × Bool) × (Int × Bool) × (Int × Bool) × Int × Int × Bool) × (ByteArray × Int × (List (Int × Int × Int × Bool)))
end Go.Proofs.Ytjdhepioehfmhaa
