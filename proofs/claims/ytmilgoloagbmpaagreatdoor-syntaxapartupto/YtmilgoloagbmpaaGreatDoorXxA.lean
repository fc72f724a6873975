/- A part of the proof of SyntaxApart. -/
import Derived.Test.YtmilgoloagbmpaaGreatDoorProg
import Derived.Test.YtmilgoloagbmpaaGreatDoorAmB
import Derived.KernelRfl
import Derived.Test.YtmilgoloagbmpaaGreatDoorShA
import Derived.Shelf.Strings.Builder1
import Derived.ProofKit
import Derived.Shelf.RegionOpenPlain
import Derived.Lib.ItoaNum
import Derived.Lib.AppendIntMem
namespace Go.Proofs.YtmilgoloagbmpaaGreatDoor
open Go.Am
def T : TT := [
  (1, ⟨.func, 1, 8, [.nilv .func]⟩),
  (2, ⟨.int .i64, 1, 8, [.int .i64 0]⟩),
  (3, ⟨.int .i64, 1, 8, [.int .i64 0]⟩),
  (4, ⟨.bool, 1, 1, [.bool false]⟩),
  (5, ⟨.int .u8, 1, 1, [.int .u8 0]⟩),
  (6, ⟨.int .u8, 1, 1, [.int .u8 0]⟩),
  (7, ⟨.st [(2, 0, 1), (3, 1, 1), (4, 2, 1), (6, 3, 1)], 4, 24, [.int .i64 0, .int .i64 0, .bool false, .int .u8 0]⟩),
  (8, ⟨.st [(2, 0, 1), (3, 1, 1), (4, 2, 1), (6, 3, 1)], 4, 24, [.int .i64 0, .int .i64 0, .bool false, .int .u8 0]⟩),
  (9, ⟨.str, 1, 16, [.str []]⟩),
  (10, ⟨.str, 1, 16, [.str []]⟩),
  (11, ⟨.str, 1, 16, [.str []]⟩),
  (12, ⟨.int .u64, 1, 8, [.int .u64 0]⟩),
  (13, ⟨.st [(9, 0, 1), (12, 1, 1)], 2, 24, [.str [], .int .u64 0]⟩),
  (14, ⟨.st [(9, 0, 1), (12, 1, 1)], 2, 24, [.str [], .int .u64 0]⟩),
  (15, ⟨.ptr 224, 1, 8, [.nilv .ptr]⟩),
  (16, ⟨.ptr 227, 1, 8, [.nilv .ptr]⟩),
  (17, ⟨.ptr 234, 1, 8, [.nilv .ptr]⟩),
  (18, ⟨.st [(17, 0, 1)], 1, 8, [.nilv .ptr]⟩),
  (19, ⟨.st [(17, 0, 1)], 1, 8, [.nilv .ptr]⟩),
  (20, ⟨.iface, 1, 16, [.nilv .iface]⟩),
  (21, ⟨.int .i32, 1, 4, [.int .i32 0]⟩),
  (22, ⟨.sl 64, 1, 24, [.sl []]⟩),
  (23, ⟨.sl 68, 1, 24, [.sl []]⟩),
  (24, ⟨.st [(22, 0, 1), (23, 1, 1)], 2, 48, [.sl [], .sl []]⟩),
  (25, ⟨.st [(22, 0, 1), (23, 1, 1)], 2, 48, [.sl [], .sl []]⟩),
  (26, ⟨.func, 1, 8, [.nilv .func]⟩),
  (27, ⟨.func, 1, 8, [.nilv .func]⟩),
  (28, ⟨.int .i64, 1, 8, [.int .i64 0]⟩),
  (30, ⟨.func, 1, 8, [.nilv .func]⟩),
  (31, ⟨.func, 1, 8, [.nilv .func]⟩),
  (32, ⟨.func, 1, 8, [.nilv .func]⟩),
  (33, ⟨.int .i64, 1, 8, [.int .i64 0]⟩),
  (34, ⟨.sl 36, 1, 24, [.sl []]⟩),
  (35, ⟨.st [(33, 0, 1), (3, 1, 1), (9, 2, 1), (34, 3, 1)], 4, 56, [.int .i64 0, .int .i64 0, .str [], .sl []]⟩),
  (36, ⟨.st [(33, 0, 1), (3, 1, 1), (9, 2, 1), (34, 3, 1)], 4, 56, [.int .i64 0, .int .i64 0, .str [], .sl []]⟩),
  (37, ⟨.func, 1, 8, [.nilv .func]⟩),
  (39, ⟨.func, 1, 8, [.nilv .func]⟩),
  (40, ⟨.func, 1, 8, [.nilv .func]⟩),
  (41, ⟨.func, 1, 8, [.nilv .func]⟩),
  (42, ⟨.func, 1, 8, [.nilv .func]⟩),
  (43, ⟨.func, 1, 8, [.nilv .func]⟩),
  (44, ⟨.int .i64, 1, 8, [.int .i64 0]⟩),
  (45, ⟨.sl 9, 1, 24, [.sl []]⟩),
  (46, ⟨.sl 48, 1, 24, [.sl []]⟩),
  (47, ⟨.st [(44, 0, 1), (3, 1, 1), (3, 2, 1), (3, 3, 1), (9, 4, 1), (45, 5, 1), (46, 6, 1)], 7, 96, [.int .i64 0, .int .i64 0, .int .i64 0, .int .i64 0, .str [], .sl [], .sl []]⟩),
  (48, ⟨.st [(44, 0, 1), (3, 1, 1), (3, 2, 1), (3, 3, 1), (9, 4, 1), (45, 5, 1), (46, 6, 1)], 7, 96, [.int .i64 0, .int .i64 0, .int .i64 0, .int .i64 0, .str [], .sl [], .sl []]⟩),
  (49, ⟨.func, 1, 8, [.nilv .func]⟩),
  (50, ⟨.func, 1, 8, [.nilv .func]⟩),
  (51, ⟨.func, 1, 8, [.nilv .func]⟩),
  (52, ⟨.func, 1, 8, [.nilv .func]⟩),
  (54, ⟨.func, 1, 8, [.nilv .func]⟩),
  (56, ⟨.func, 1, 8, [.nilv .func]⟩),
  (57, ⟨.func, 1, 8, [.nilv .func]⟩),
  (58, ⟨.func, 1, 8, [.nilv .func]⟩),
  (59, ⟨.func, 1, 8, [.nilv .func]⟩),
  (60, ⟨.func, 1, 8, [.nilv .func]⟩),
  (61, ⟨.func, 1, 8, [.nilv .func]⟩),
  (62, ⟨.int .i64, 1, 8, [.int .i64 0]⟩),
  (63, ⟨.st [(62, 0, 1), (9, 1, 1), (48, 2, 7), (3, 9, 1), (36, 10, 4), (22, 14, 1), (22, 15, 1), (23, 16, 1)], 17, 256, [.int .i64 0, .str [], .int .i64 0, .int .i64 0, .int .i64 0, .int .i64 0, .str [], .sl [], .sl [], .int .i64 0, .int .i64 0, .int .i64 0, .str [], .sl [], .sl [], .sl [], .sl []]⟩),
  (64, ⟨.st [(62, 0, 1), (9, 1, 1), (48, 2, 7), (3, 9, 1), (36, 10, 4), (22, 14, 1), (22, 15, 1), (23, 16, 1)], 17, 256, [.int .i64 0, .str [], .int .i64 0, .int .i64 0, .int .i64 0, .int .i64 0, .str [], .sl [], .sl [], .int .i64 0, .int .i64 0, .int .i64 0, .str [], .sl [], .sl [], .sl [], .sl []]⟩),
  (65, ⟨.int .i64, 1, 8, [.int .i64 0]⟩),
  (66, ⟨.sl 3, 1, 24, [.sl []]⟩),
  (67, ⟨.st [(65, 0, 1), (36, 1, 4), (36, 5, 4), (9, 9, 1), (34, 10, 1), (3, 11, 1), (3, 12, 1), (3, 13, 1), (66, 14, 1), (23, 15, 1), (23, 16, 1)], 17, 256, [.int .i64 0, .int .i64 0, .int .i64 0, .str [], .sl [], .int .i64 0, .int .i64 0, .str [], .sl [], .str [], .sl [], .int .i64 0, .int .i64 0, .int .i64 0, .sl [], .sl [], .sl []]⟩),
  (68, ⟨.st [(65, 0, 1), (36, 1, 4), (36, 5, 4), (9, 9, 1), (34, 10, 1), (3, 11, 1), (3, 12, 1), (3, 13, 1), (66, 14, 1), (23, 15, 1), (23, 16, 1)], 17, 256, [.int .i64 0, .int .i64 0, .int .i64 0, .str [], .sl [], .int .i64 0, .int .i64 0, .str [], .sl [], .str [], .sl [], .int .i64 0, .int .i64 0, .int .i64 0, .sl [], .sl [], .sl []]⟩),
  (69, ⟨.func, 1, 8, [.nilv .func]⟩),
  (70, ⟨.func, 1, 8, [.nilv .func]⟩),
  (71, ⟨.ptr 75, 1, 8, [.nilv .ptr]⟩),
  (72, ⟨.func, 1, 8, [.nilv .func]⟩),
  (73, ⟨.func, 1, 8, [.nilv .func]⟩),
  (74, ⟨.st [(3, 0, 1), (3, 1, 1), (4, 2, 1), (4, 3, 1), (4, 4, 1)], 5, 24, [.int .i64 0, .int .i64 0, .bool false, .bool false, .bool false]⟩),
  (75, ⟨.st [(3, 0, 1), (3, 1, 1), (4, 2, 1), (4, 3, 1), (4, 4, 1)], 5, 24, [.int .i64 0, .int .i64 0, .bool false, .bool false, .bool false]⟩),
  (76, ⟨.st [(3, 0, 1), (3, 1, 1)], 2, 16, [.int .i64 0, .int .i64 0]⟩),
  (77, ⟨.st [(3, 0, 1), (3, 1, 1)], 2, 16, [.int .i64 0, .int .i64 0]⟩),
  (78, ⟨.func, 1, 8, [.nilv .func]⟩),
  (79, ⟨.func, 1, 8, [.nilv .func]⟩),
  (80, ⟨.ptr 86, 1, 8, [.nilv .ptr]⟩),
  (81, ⟨.ptr 84, 1, 8, [.nilv .ptr]⟩),
  (82, ⟨.sl 5, 1, 24, [.sl []]⟩),
  (83, ⟨.st [(81, 0, 1), (82, 1, 1)], 2, 32, [.nilv .ptr, .sl []]⟩),
  (84, ⟨.st [(81, 0, 1), (82, 1, 1)], 2, 32, [.nilv .ptr, .sl []]⟩),
  (85, ⟨.st [(84, 0, 2)], 2, 32, [.nilv .ptr, .sl []]⟩),
  (86, ⟨.st [(84, 0, 2)], 2, 32, [.nilv .ptr, .sl []]⟩),
  (87, ⟨.func, 1, 8, [.nilv .func]⟩),
  (88, ⟨.func, 1, 8, [.nilv .func]⟩),
  (89, ⟨.func, 1, 8, [.nilv .func]⟩),
  (90, ⟨.func, 1, 8, [.nilv .func]⟩),
  (91, ⟨.func, 1, 8, [.nilv .func]⟩),
  (92, ⟨.func, 1, 8, [.nilv .func]⟩),
  (93, ⟨.func, 1, 8, [.nilv .func]⟩),
  (94, ⟨.func, 1, 8, [.nilv .func]⟩),
  (95, ⟨.iface, 1, 16, [.nilv .iface]⟩),
  (96, ⟨.iface, 1, 16, [.nilv .iface]⟩),
  (98, ⟨.func, 1, 8, [.nilv .func]⟩),
  (99, ⟨.func, 1, 8, [.nilv .func]⟩),
  (100, ⟨.func, 1, 8, [.nilv .func]⟩),
  (101, ⟨.func, 1, 8, [.nilv .func]⟩),
  (102, ⟨.func, 1, 8, [.nilv .func]⟩),
  (103, ⟨.func, 1, 8, [.nilv .func]⟩),
  (104, ⟨.func, 1, 8, [.nilv .func]⟩),
  (105, ⟨.func, 1, 8, [.nilv .func]⟩),
  (106, ⟨.func, 1, 8, [.nilv .func]⟩),
  (107, ⟨.func, 1, 8, [.nilv .func]⟩),
  (108, ⟨.func, 1, 8, [.nilv .func]⟩),
  (109, ⟨.func, 1, 8, [.nilv .func]⟩),
  (110, ⟨.func, 1, 8, [.nilv .func]⟩),
  (111, ⟨.func, 1, 8, [.nilv .func]⟩),
  (112, ⟨.st [(111, 0, 1)], 1, 8, [.nilv .func]⟩),
  (113, ⟨.st [(111, 0, 1)], 1, 8, [.nilv .func]⟩),
  (114, ⟨.func, 1, 8, [.nilv .func]⟩),
  (115, ⟨.func, 1, 8, [.nilv .func]⟩),
  (116, ⟨.func, 1, 8, [.nilv .func]⟩),
  (117, ⟨.func, 1, 8, [.nilv .func]⟩),
  (118, ⟨.func, 1, 8, [.nilv .func]⟩),
  (119, ⟨.func, 1, 8, [.nilv .func]⟩),
  (120, ⟨.func, 1, 8, [.nilv .func]⟩),
  (121, ⟨.func, 1, 8, [.nilv .func]⟩),
  (122, ⟨.func, 1, 8, [.nilv .func]⟩),
  (123, ⟨.func, 1, 8, [.nilv .func]⟩),
  (124, ⟨.func, 1, 8, [.nilv .func]⟩),
  (125, ⟨.func, 1, 8, [.nilv .func]⟩),
  (126, ⟨.func, 1, 8, [.nilv .func]⟩),
  (127, ⟨.func, 1, 8, [.nilv .func]⟩),
  (128, ⟨.func, 1, 8, [.nilv .func]⟩),
  (129, ⟨.func, 1, 8, [.nilv .func]⟩),
  (130, ⟨.func, 1, 8, [.nilv .func]⟩),
  (131, ⟨.func, 1, 8, [.nilv .func]⟩),
  (132, ⟨.func, 1, 8, [.nilv .func]⟩),
  (133, ⟨.func, 1, 8, [.nilv .func]⟩),
  (134, ⟨.func, 1, 8, [.nilv .func]⟩),
  (135, ⟨.func, 1, 8, [.nilv .func]⟩),
  (136, ⟨.func, 1, 8, [.nilv .func]⟩),
  (137, ⟨.func, 1, 8, [.nilv .func]⟩),
  (138, ⟨.func, 1, 8, [.nilv .func]⟩),
  (139, ⟨.func, 1, 8, [.nilv .func]⟩),
  (140, ⟨.func, 1, 8, [.nilv .func]⟩),
  (141, ⟨.func, 1, 8, [.nilv .func]⟩),
  (142, ⟨.func, 1, 8, [.nilv .func]⟩),
  (143, ⟨.func, 1, 8, [.nilv .func]⟩),
  (144, ⟨.func, 1, 8, [.nilv .func]⟩),
  (145, ⟨.func, 1, 8, [.nilv .func]⟩),
  (146, ⟨.func, 1, 8, [.nilv .func]⟩),
  (147, ⟨.map 9 4, 1, 8, [.nilv .map]⟩),
  (148, ⟨.func, 1, 8, [.nilv .func]⟩),
  (149, ⟨.func, 1, 8, [.nilv .func]⟩),
  (150, ⟨.func, 1, 8, [.nilv .func]⟩),
  (151, ⟨.func, 1, 8, [.nilv .func]⟩),
  (152, ⟨.func, 1, 8, [.nilv .func]⟩),
  (153, ⟨.func, 1, 8, [.nilv .func]⟩),
  (154, ⟨.func, 1, 8, [.nilv .func]⟩),
  (155, ⟨.st [(4, 0, 1), (4, 1, 1), (4, 2, 1), (4, 3, 1), (4, 4, 1), (4, 5, 1), (4, 6, 1), (4, 7, 1), (4, 8, 1)], 9, 9, [.bool false, .bool false, .bool false, .bool false, .bool false, .bool false, .bool false, .bool false, .bool false]⟩),
  (156, ⟨.st [(4, 0, 1), (4, 1, 1), (4, 2, 1), (4, 3, 1), (4, 4, 1), (4, 5, 1), (4, 6, 1), (4, 7, 1), (4, 8, 1)], 9, 9, [.bool false, .bool false, .bool false, .bool false, .bool false, .bool false, .bool false, .bool false, .bool false]⟩),
  (158, ⟨.func, 1, 8, [.nilv .func]⟩),
  (159, ⟨.func, 1, 8, [.nilv .func]⟩),
  (160, ⟨.func, 1, 8, [.nilv .func]⟩),
  (161, ⟨.func, 1, 8, [.nilv .func]⟩),
  (162, ⟨.func, 1, 8, [.nilv .func]⟩),
  (163, ⟨.func, 1, 8, [.nilv .func]⟩),
  (164, ⟨.func, 1, 8, [.nilv .func]⟩),
  (166, ⟨.func, 1, 8, [.nilv .func]⟩),
  (167, ⟨.func, 1, 8, [.nilv .func]⟩),
  (168, ⟨.func, 1, 8, [.nilv .func]⟩),
  (169, ⟨.func, 1, 8, [.nilv .func]⟩),
  (170, ⟨.func, 1, 8, [.nilv .func]⟩),
  (171, ⟨.arr 13 9, 13, 208, [.str [], .str [], .str [], .str [], .str [], .str [], .str [], .str [], .str [], .str [], .str [], .str [], .str []]⟩),
  (172, ⟨.ptr 5, 1, 8, [.nilv .ptr]⟩),
  (174, ⟨.func, 1, 8, [.nilv .func]⟩),
  (175, ⟨.func, 1, 8, [.nilv .func]⟩),
  (176, ⟨.func, 1, 8, [.nilv .func]⟩),
  (177, ⟨.func, 1, 8, [.nilv .func]⟩),
  (178, ⟨.int .u64, 1, 8, [.int .u64 0]⟩),
  (179, ⟨.func, 1, 8, [.nilv .func]⟩),
  (180, ⟨.func, 1, 8, [.nilv .func]⟩),
  (181, ⟨.func, 1, 8, [.nilv .func]⟩),
  (182, ⟨.func, 1, 8, [.nilv .func]⟩),
  (183, ⟨.func, 1, 8, [.nilv .func]⟩),
  (184, ⟨.func, 1, 8, [.nilv .func]⟩),
  (185, ⟨.func, 1, 8, [.nilv .func]⟩),
  (186, ⟨.func, 1, 8, [.nilv .func]⟩),
  (187, ⟨.int .i64, 1, 8, [.int .i64 0]⟩),
  (189, ⟨.func, 1, 8, [.nilv .func]⟩),
  (190, ⟨.func, 1, 8, [.nilv .func]⟩),
  (191, ⟨.func, 1, 8, [.nilv .func]⟩),
  (192, ⟨.func, 1, 8, [.nilv .func]⟩),
  (194, ⟨.func, 1, 8, [.nilv .func]⟩),
  (195, ⟨.func, 1, 8, [.nilv .func]⟩),
  (196, ⟨.int .u32, 1, 4, [.int .u32 0]⟩),
  (197, ⟨.func, 1, 8, [.nilv .func]⟩),
  (198, ⟨.int .u64, 1, 8, [.int .u64 0]⟩),
  (199, ⟨.func, 1, 8, [.nilv .func]⟩),
  (200, ⟨.arr 24 5, 24, 24, [.int .u8 0, .int .u8 0, .int .u8 0, .int .u8 0, .int .u8 0, .int .u8 0, .int .u8 0, .int .u8 0, .int .u8 0, .int .u8 0, .int .u8 0, .int .u8 0, .int .u8 0, .int .u8 0, .int .u8 0, .int .u8 0, .int .u8 0, .int .u8 0, .int .u8 0, .int .u8 0, .int .u8 0, .int .u8 0, .int .u8 0, .int .u8 0]⟩),
  (201, ⟨.func, 1, 8, [.nilv .func]⟩),
  (203, ⟨.func, 1, 8, [.nilv .func]⟩),
  (204, ⟨.int .u64, 1, 8, [.int .u64 0]⟩),
  (205, ⟨.func, 1, 8, [.nilv .func]⟩),
  (206, ⟨.func, 1, 8, [.nilv .func]⟩),
  (207, ⟨.func, 1, 8, [.nilv .func]⟩),
  (208, ⟨.ptr 3, 1, 8, [.nilv .ptr]⟩),
  (209, ⟨.func, 1, 8, [.nilv .func]⟩),
  (210, ⟨.func, 1, 8, [.nilv .func]⟩),
  (211, ⟨.func, 1, 8, [.nilv .func]⟩),
  (212, ⟨.func, 1, 8, [.nilv .func]⟩),
  (213, ⟨.arr 20 198, 20, 160, [.int .u64 0, .int .u64 0, .int .u64 0, .int .u64 0, .int .u64 0, .int .u64 0, .int .u64 0, .int .u64 0, .int .u64 0, .int .u64 0, .int .u64 0, .int .u64 0, .int .u64 0, .int .u64 0, .int .u64 0, .int .u64 0, .int .u64 0, .int .u64 0, .int .u64 0, .int .u64 0]⟩),
  (214, ⟨.arr 65 5, 65, 65, [.int .u8 0, .int .u8 0, .int .u8 0, .int .u8 0, .int .u8 0, .int .u8 0, .int .u8 0, .int .u8 0, .int .u8 0, .int .u8 0, .int .u8 0, .int .u8 0, .int .u8 0, .int .u8 0, .int .u8 0, .int .u8 0, .int .u8 0, .int .u8 0, .int .u8 0, .int .u8 0, .int .u8 0, .int .u8 0, .int .u8 0, .int .u8 0, .int .u8 0, .int .u8 0, .int .u8 0, .int .u8 0, .int .u8 0, .int .u8 0, .int .u8 0, .int .u8 0, .int .u8 0, .int .u8 0, .int .u8 0, .int .u8 0, .int .u8 0, .int .u8 0, .int .u8 0, .int .u8 0, .int .u8 0, .int .u8 0, .int .u8 0, .int .u8 0, .int .u8 0, .int .u8 0, .int .u8 0, .int .u8 0, .int .u8 0, .int .u8 0, .int .u8 0, .int .u8 0, .int .u8 0, .int .u8 0, .int .u8 0, .int .u8 0, .int .u8 0, .int .u8 0, .int .u8 0, .int .u8 0, .int .u8 0, .int .u8 0, .int .u8 0, .int .u8 0, .int .u8 0]⟩),
  (215, ⟨.ptr 204, 1, 8, [.nilv .ptr]⟩),
  (217, ⟨.func, 1, 8, [.nilv .func]⟩),
  (218, ⟨.func, 1, 8, [.nilv .func]⟩),
  (219, ⟨.arr 32 5, 32, 32, [.int .u8 0, .int .u8 0, .int .u8 0, .int .u8 0, .int .u8 0, .int .u8 0, .int .u8 0, .int .u8 0, .int .u8 0, .int .u8 0, .int .u8 0, .int .u8 0, .int .u8 0, .int .u8 0, .int .u8 0, .int .u8 0, .int .u8 0, .int .u8 0, .int .u8 0, .int .u8 0, .int .u8 0, .int .u8 0, .int .u8 0, .int .u8 0, .int .u8 0, .int .u8 0, .int .u8 0, .int .u8 0, .int .u8 0, .int .u8 0, .int .u8 0, .int .u8 0]⟩),
  (220, ⟨.arr 64 5, 64, 64, [.int .u8 0, .int .u8 0, .int .u8 0, .int .u8 0, .int .u8 0, .int .u8 0, .int .u8 0, .int .u8 0, .int .u8 0, .int .u8 0, .int .u8 0, .int .u8 0, .int .u8 0, .int .u8 0, .int .u8 0, .int .u8 0, .int .u8 0, .int .u8 0, .int .u8 0, .int .u8 0, .int .u8 0, .int .u8 0, .int .u8 0, .int .u8 0, .int .u8 0, .int .u8 0, .int .u8 0, .int .u8 0, .int .u8 0, .int .u8 0, .int .u8 0, .int .u8 0, .int .u8 0, .int .u8 0, .int .u8 0, .int .u8 0, .int .u8 0, .int .u8 0, .int .u8 0, .int .u8 0, .int .u8 0, .int .u8 0, .int .u8 0, .int .u8 0, .int .u8 0, .int .u8 0, .int .u8 0, .int .u8 0, .int .u8 0, .int .u8 0, .int .u8 0, .int .u8 0, .int .u8 0, .int .u8 0, .int .u8 0, .int .u8 0, .int .u8 0, .int .u8 0, .int .u8 0, .int .u8 0, .int .u8 0, .int .u8 0, .int .u8 0, .int .u8 0]⟩),
  (222, ⟨.func, 1, 8, [.nilv .func]⟩),
  (223, ⟨.st [(17, 0, 1), (17, 1, 1), (17, 2, 1), (9, 3, 1)], 4, 40, [.nilv .ptr, .nilv .ptr, .nilv .ptr, .str []]⟩),
  (224, ⟨.st [(17, 0, 1), (17, 1, 1), (17, 2, 1), (9, 3, 1)], 4, 40, [.nilv .ptr, .nilv .ptr, .nilv .ptr, .str []]⟩),
  (228, ⟨.int .u8, 1, 1, [.int .u8 0]⟩),
  (229, ⟨.int .u8, 1, 1, [.int .u8 0]⟩),
  (230, ⟨.func, 1, 8, [.nilv .func]⟩),
  (231, ⟨.int .i32, 1, 4, [.int .i32 0]⟩),
  (232, ⟨.int .i32, 1, 4, [.int .i32 0]⟩),
  (233, ⟨.st [(12, 0, 1), (12, 1, 1), (196, 2, 1), (228, 3, 1), (5, 4, 1), (5, 5, 1), (229, 6, 1), (230, 7, 1), (172, 8, 1), (231, 9, 1), (232, 10, 1)], 11, 48, [.int .u64 0, .int .u64 0, .int .u32 0, .int .u8 0, .int .u8 0, .int .u8 0, .int .u8 0, .nilv .func, .nilv .ptr, .int .i32 0, .int .i32 0]⟩),
  (234, ⟨.st [(12, 0, 1), (12, 1, 1), (196, 2, 1), (228, 3, 1), (5, 4, 1), (5, 5, 1), (229, 6, 1), (230, 7, 1), (172, 8, 1), (231, 9, 1), (232, 10, 1)], 11, 48, [.int .u64 0, .int .u64 0, .int .u32 0, .int .u8 0, .int .u8 0, .int .u8 0, .int .u8 0, .nilv .func, .nilv .ptr, .int .i32 0, .int .i32 0]⟩)]
theorem tok : TOk Tryz.prog T := tok_of _ _ (by kernel_rfl)
def tab_signs : List Str := [[43], [45], [42], [47], [37], [61, 61], [33, 61], [60], [60, 61], [62], [62, 61], [38, 38], [124, 124]]
/-- what is known of the variables of the library -/
def Gp (M : Mem) (w : World) : Prop := (∃ m : Int, M ⟨2, 0, none⟩ = some (.int .i64 m)) ∧ (∀ (j : Nat) z, Lib.pow10Tab[j]? = some z → M ⟨1, j, none⟩ = some (.int .u64 z)) ∧ Lib.TabIs Tryz.prog w "internal/strconv.uint64pow10" .u64 Lib.pow10Tab
noncomputable def C : Cx := ⟨Tryz.prog, T, [(0, tab_signs.map D.str)], Gp, fun {M M' w w'} hm hb h => (by
  obtain ⟨⟨m, h0⟩, h1, h2⟩ := h
  exact ⟨⟨m, hm _ _ h0⟩, fun j z hz => hm _ _ (h1 j z hz), tabIs_keep (by kernel_rfl) (by decide) h1 hb h2⟩)⟩
theorem follows : Tryz.prog.follows .mixedOrders = true := by kernel_rfl
theorem hC : CxOk C := ⟨tok, follows⟩
end Go.Proofs.YtmilgoloagbmpaaGreatDoor

namespace Go.Proofs.YtmilgoloagbmpaaGreatDoor
open Go.Shelf Go.RowKit

set_option maxHeartbeats 1000000 in
set_option maxRecDepth 100000 in
theorem copyCheck_used (b : Nat) (w : World) (h0 : w.cell? ⟨b, 0, none⟩ = some (.pointer (some ⟨b, 0, none⟩))) :
    Calls Tryz.prog 116 #[.pointer (some ⟨b, 0, none⟩)] w fun e w' => e = .returned (.tuple #[]) ∧ w' = w := by
  obtain ⟨j, hj, _⟩ := Option.map_eq_some_iff.1 (show (Tryz.prog.info? 84).map (fun i => i.size) = some 2 by kernel_rfl)
  have mixed := (show Tryz.prog.follows .mixedOrders = true by kernel_rfl)
  go_enter Tryz.func116, Tryz.ntmps116
  go_wp2
  rw [Lib.run_neq_ptr_same w _ Tryz.underlying81 hj]
  go_wp2
  go_end0
  exact ⟨rfl, rfl⟩

set_option maxHeartbeats 1000000 in
set_option maxRecDepth 100000 in
theorem copyCheck_fresh (b el : Nat) (w : World) (h0 : w.cell? ⟨b, 0, none⟩ = some (.pointer none)) (hsh : w.shape? b = some (el, 2)) (hfz : w.frozen? ⟨b, 0, none⟩ = false) (hlies : liesAt Tryz.prog Tryz.prog.depth el (2 / Tryz.prog.cellsOf el) 0 84 1 = true) :
    Calls Tryz.prog 116 #[.pointer (some ⟨b, 0, none⟩)] w fun e w' => e = .returned (.tuple #[]) ∧ w' = w.setCell ⟨b, 0, none⟩ (.pointer (some ⟨b, 0, none⟩)) := by
  obtain ⟨j, hj, hjs⟩ := Option.map_eq_some_iff.1 (show (Tryz.prog.info? 84).map (fun i => i.size) = some 2 by kernel_rfl)
  have mixed := (show Tryz.prog.follows .mixedOrders = true by kernel_rfl)
  have t164 : Tryz.prog.underlying 173 = some .unsafePointer := by kernel_rfl
  have f276 := Tryz.func155
  go_enter Tryz.func116, Tryz.ntmps116
  go_wp2
  rw [Lib.run_to_unsafe w ⟨b, 0, none⟩ Tryz.underlying81 t164 hj (by rw [hjs]; decide) hsh (Nat.zero_lt_succ 1)]
  simp only [Result.andThen]
  rw [Oper.upon_value]
  go_wp2
  rw [run_callFunc_extern f276 (by kernel_rfl) (by kernel_rfl) (by kernel_rfl) (e := Extern.AbiNoEscape.same) (by kernel_rfl)]
  rw [Lib.run_noEscape]
  simp only [Result.andThen]
  rw [Oper.upon_value]
  go_wp2
  rw [Lib.run_from_unsafe w ⟨b, 0, none⟩ t164 Tryz.underlying81 hj hsh hlies]
  simp only [Result.andThen]
  rw [Oper.upon_value]
  go_wp2
  go_end0
  exact ⟨rfl, rfl⟩

/-- what stays -/
structure Kept (b : Nat) (row : Option Nat) (w w' : World) : Prop where
  os : w'.os = w.os
  tape : w'.tape = w.tape
  output : w'.output = w.output
  size : w.heap.size ≤ w'.heap.size
  block : ∀ k, k < w.heap.size → k ≠ b → some k ≠ row → w'.heap[k]? = w.heap[k]?

theorem setKept (b off : Nat) (row : Option Nat) (w : World) (v : Value) : Kept b row w (w.setCell ⟨b, off, none⟩ v) :=
  ⟨rfl, rfl, rfl, by simp [World.setCell], fun k _ hk _ => Below.heap_setCell _ _ _ _ (fun e => hk (by simpa using e))⟩
theorem Kept.trans {b : Nat} {row : Option Nat} {w w1 w2 : World} (h : Kept b row w w1) (h' : Kept b row w1 w2) : Kept b row w w2 :=
  ⟨h'.os.trans h.os, h'.tape.trans h.tape, h'.output.trans h.output, Nat.le_trans h.size h'.size, fun k hk hb hr => (h'.block k (Nat.lt_of_lt_of_le hk h.size) hb hr).trans (h.block k hk hb hr)⟩

set_option maxHeartbeats 1000000 in
set_option maxRecDepth 100000 in
theorem copyCheck_any (el b : Nat) (p v : Value) (bs : List Value) (w : World) (hb : w.heap[b]? = some (.cells #[p, v] el (0, 0))) (hp : p = .pointer none ∨ p = .pointer (some ⟨b, 0, none⟩)) (hown : w.ownsRow 0 5 1 v bs.length bs) (hne : v.ownBlock ≠ some b)
    (hlies : liesAt Tryz.prog Tryz.prog.depth el (2 / Tryz.prog.cellsOf el) 0 84 1 = true) :
    Calls Tryz.prog 116 #[.pointer (some ⟨b, 0, none⟩)] w fun e w' => e = .returned (.tuple #[]) ∧ w'.heap[b]? = some (.cells #[.pointer (some ⟨b, 0, none⟩), v] el (0, 0)) ∧ w'.ownsRow 0 5 1 v bs.length bs ∧ ∀ row, Kept b row w w' := by
  have hlt : b < w.heap.size := (Array.getElem?_eq_some_iff.1 hb).1
  have c0 : w.cell? ⟨b, 0, none⟩ = some p := by rw [Lib.cell_of_heap hb]; rfl
  rcases hp with rfl | rfl
  · refine (copyCheck_fresh b el w c0 (by simp [World.shape?, hb]) (Lib.frozen_of_heap hb 0) hlies).mono ?_
    rintro e w' ⟨rfl, rfl⟩
    refine ⟨rfl, ?_, ?_, fun row => setKept _ _ _ _ _⟩
    · simp [World.setCell, Array.getElem?_modify, hb]
    · refine hown.kept (row := some b) ⟨rfl, rfl, rfl, by simp [World.setCell], fun k _ hk => Below.heap_setCell _ _ _ _ (fun e => hk (by simp [e]))⟩ (Or.inr hne)
  · refine (copyCheck_used b w c0).mono ?_
    rintro e w' ⟨rfl, rfl⟩
    exact ⟨rfl, hb, hown, fun row => ⟨rfl, rfl, rfl, Nat.le_refl _, fun _ _ _ _ => rfl⟩⟩

theorem byteInfo : ∃ i, Tryz.prog.info? 5 = some i ∧ i.zero = some (.int .u8 0) ∧ i.size = 1 ∧ i.bytes = 1 :=
  info_parts (show (Tryz.prog.info? 5).map (fun i => (i.zero, i.size, i.bytes)) = some (some (.int .u8 0), 1, 1) by kernel_rfl)

theorem append_block {P : Program} (w : World) (base : Nat) (t u ty e : TypeId) (i : TypeInfo) (ht : P.underlying t = some (.slice e)) (hu : P.underlying u = some .string) (hi : P.info? e = some i) (hz : i.zero = some (.int .u8 0))
    (hsize : i.size = 1) (hby : i.bytes = 1) (v : Value) (n : Nat) (xs : List Value) (hown : w.ownsRow base e 1 v n xs) (s : ByteArray) (h63 : n + s.size ≤ maxLen) (hbytes : n + s.size ≤ 140737488355328) {v' : Value} {w' : World}
    (hr : (Builtin.append_ #[t, u] ty #[v, .string s]).run P w = .ok v' w') : ∀ k, v'.ownBlock = some k → v.ownBlock = some k ∨ w.heap.size ≤ k := by
  have hsmall : n + s.size ≤ 9223372036854775807 := by simp only [maxLen] at h63; omega
  have hxl : xs.length = n := by simpa using hown.1
  rcases hown.2 with ⟨rfl, rfl⟩ | ⟨g, cap, cur, rfl, hbg, hg, hnc, hcm, hcs, htake⟩
  · by_cases hm : s.size = 0
    · have hf := Lib.run_firstCells_string (P := P) w 1 s
      rw [hm] at hf
      have h0 : (Builtin.append_ #[t, u] ty #[.slice none 0 0, .string s]).run P w = .ok (.slice none 0 0) w := by
        simp [Builtin.append_, run_underlying ht, run_underlying hu, sizeOf, typeInfo, hi, hsize, Builtin.lenOf, hm, hf]
      rw [h0] at hr
      cases hr
      intro k hk
      simp [Value.ownBlock] at hk
    · have h0 := run_append_nil_string (P := P) w t u ty e i (.int .u8 0) ht hu hi hz s (by omega) (by omega) (by rw [hby]; omega)
      rw [h0] at hr
      cases hr
      intro k hk
      simp [Value.ownBlock] at hk
      exact .inr (by omega)
  · by_cases hroom : n + s.size ≤ cap
    · have hcs' : cur.size = cap := by simpa using hcs
      have h0 := Lib.run_append_room_string (P := P) w t u ty e i ht hu hi hsize g n cap cur hg s hroom (by omega)
      rw [h0] at hr
      cases hr
      intro k hk
      exact .inl (by simpa [Value.ownBlock] using hk)
    · have holds : ∀ j u, xs[j]? = some u → w.cell? ((⟨g, 0, none⟩ : Addr).add j) = some u := hown.cells (g := g) rfl
      have h0 := Lib.run_append_grow_string (P := P) w t u ty e i (.int .u8 0) ht hu hi hz ⟨g, 0, none⟩ n cap xs (by rw [hsize]; simpa using hxl) holds s (by omega) (by omega) (by rw [hby]; exact growslice_fits (by omega) (by omega))
      rw [h0] at hr
      cases hr
      intro k hk
      simp [Value.ownBlock] at hk
      exact .inr (by omega)
theorem wpList_append_str {P : Program} {w : World} {ops : Array Oper} {rest : List Oper} {o : Oper} {a : Act} {Q : Exit → Act → World → Prop} (hgd : o.guard = none) (sl x : Operand) (t u : TypeId)
    (ho : o.op = .call { callee := .builtin .append, args := #[sl, x], argTypes := #[t, u] })
    (base : Nat) (e : TypeId) (i : TypeInfo) (ht : P.underlying t = some (.slice e)) (hu : P.underlying u = some .string) (hi : P.info? e = some i) (hz : i.zero = some (.int .u8 0))
    (hsize : i.size = 1) (hby : i.bytes = 1)
    (v : Value) (n : Nat) (xs : List Value) (hs : a.eval sl = v) (hown : w.ownsRow base e 1 v n xs) (s : ByteArray) (hx : a.eval x = .string s)
    (h63 : n + s.size ≤ maxLen) (hbytes : n + s.size ≤ 140737488355328) (hbase : base ≤ w.heap.size)
    (h : ∀ v' w', w'.ownsRow base e 1 v' (n + s.size) (xs ++ Lib.strCells s) → w.grownBy w' v.ownBlock → (∀ k, v'.ownBlock = some k → v.ownBlock = some k ∨ w.heap.size ≤ k) → wpList P ops Q rest (a.put o.dst v') w') : wpList P ops Q (o :: rest) a w := by
  refine wpList_plain hgd fun K hK => ?_
  obtain ⟨v', w', hr, h2, h3, h4⟩ := Lib.run_append_own_string (P := P) w base t u o.type e i ht hu hi hz hsize hby v n xs hown s h63 hbytes hbase
  have h5 := append_block w base t u o.type e i ht hu hi hz hsize hby v n xs hown s h63 hbytes hr
  unfold Oper.wp execOp
  simp only [ho, resolve, invoke, builtin, Sem.run_bind, Sem.run_pure, Result.andThen_ok, List.map_toArray, List.map_cons, List.map_nil, hs, hx, hr]
  exact hK _ _ (h v' w' h2 h3 h5)

set_option maxHeartbeats 2000000 in
set_option maxRecDepth 100000 in
theorem writeString (el b : Nat) (p v : Value) (bs : List Value) (s : ByteArray) (w : World) (hb : w.heap[b]? = some (.cells #[p, v] el (0, 0))) (hp : p = .pointer none ∨ p = .pointer (some ⟨b, 0, none⟩)) (hown : w.ownsRow 0 5 1 v bs.length bs) (hel : el ≠ 5)
    (hlies : liesAt Tryz.prog Tryz.prog.depth el (2 / Tryz.prog.cellsOf el) 0 84 1 = true) (hlen : bs.length + s.size ≤ 140737488355328) :
    Calls Tryz.prog 54 #[.pointer (some ⟨b, 0, none⟩), .string s] w fun e w' => e = .returned (.tuple #[.int .i64 s.size, .nilIface]) ∧
      ∃ v', w'.heap[b]? = some (.cells #[.pointer (some ⟨b, 0, none⟩), v'] el (0, 0)) ∧ w'.ownsRow 0 5 1 v' (bs.length + s.size) (bs ++ Lib.strCells s) ∧ v'.ownBlock ≠ some b ∧ Kept b v.ownBlock w w' ∧ ∀ k, v'.ownBlock = some k → v.ownBlock = some k ∨ w.heap.size ≤ k := by
  have hne := Lib.ownBlock_ne hown hb hel
  obtain ⟨i0, hi, hz0, hz1, hz2⟩ := byteInfo
  have mixed := (show Tryz.prog.follows .mixedOrders = true by kernel_rfl)
  have e240 : ∀ args w, (callFunc 116 args).run Tryz.prog w = .ok (.enter 116 args) w := enters_of Tryz.func116 (by kernel_rfl) rfl
  go_enter Tryz.func54, Tryz.ntmps54
  go_wp2_with (go_at_fn 116; refine (copyCheck_any el b p v bs _ hb hp hown hne hlies).mono ?_)
  rintro e w1 ⟨rfl, hbk, hown1, hk1⟩
  have c0 : w1.cell? ⟨b, 0, none⟩ = some (.pointer (some ⟨b, 0, none⟩)) := by rw [Lib.cell_of_heap hbk]; rfl
  have c1 : w1.cell? ⟨b, 1, none⟩ = some v := by rw [Lib.cell_of_heap hbk]; rfl
  go_wp2_with (at_builtin; refine wpList_append_str rfl _ _ 82 9 rfl 0 5 i0 Tryz.underlying82 Tryz.underlying9 hi hz0 hz1 hz2 _ _ _ rfl hown1 s rfl ?c3 ?c4 ?c5 ?_)
  case c3 => unfold maxLen; omega
  case c4 => omega
  case c5 => omega
  intro v' w2 hown' hgrow hfr
  have hlt : b < w1.heap.size := (Array.getElem?_eq_some_iff.1 hbk).1
  have hb2 : w2.heap[b]? = some (.cells #[.pointer (some ⟨b, 0, none⟩), v] el (0, 0)) := by
    rw [hgrow.block b hlt (fun e => hne e.symm)]
    exact hbk
  have d0 : w2.cell? ⟨b, 0, none⟩ = some (.pointer (some ⟨b, 0, none⟩)) := by rw [Lib.cell_of_heap hb2]; rfl
  have d1 : w2.cell? ⟨b, 1, none⟩ = some v := by rw [Lib.cell_of_heap hb2]; rfl
  have f1 : w2.frozen? ⟨b, 1, none⟩ = false := Lib.frozen_of_heap hb2 1
  obtain ⟨ao, n', cap, rfl⟩ : ∃ ao n' cap, v' = .slice ao n' cap := by
    rcases hown'.2 with ⟨hv, _⟩ | ⟨g, cap, cur, hv, _⟩
    · exact ⟨_, _, _, hv⟩
    · exact ⟨_, _, _, hv⟩
  go_wp2
  go_ret2
  have hne' := Lib.ownBlock_ne hown' hb2 hel
  refine ⟨rfl, _, ?_, ?_, hne', ?_, fun k hk => (hfr k hk).imp id (fun h => Nat.le_trans (hk1 none).size h)⟩
  · simp [World.setCell, Array.getElem?_modify, hb2]
  · exact hown'.kept (row := some b) ⟨rfl, rfl, rfl, by simp [World.setCell], fun k _ hk => Below.heap_setCell _ _ _ _ (fun e => hk (by simp [e]))⟩ (Or.inr hne')
  · exact ((hk1 _).trans ⟨hgrow.os, hgrow.tape, hgrow.output, hgrow.size, fun k hk _ hr => hgrow.block k hk hr⟩).trans (setKept _ _ _ _ _)
end Go.Proofs.YtmilgoloagbmpaaGreatDoor

namespace Go.Proofs.YtmilgoloagbmpaaGreatDoor
open Go.Shelf Go.RowKit

theorem keptDrew (b : Nat) (row : Option Nat) (w : World) : Kept b row w w.drew := ⟨rfl, rfl, rfl, Nat.le_refl _, fun _ _ _ _ => rfl⟩
theorem keptFreeze (b g : Nat) (w : World) (n : Nat) : Kept b (some g) w (w.freeze ⟨g, 0, none⟩ n) := by
  unfold World.freeze
  split
  · exact ⟨rfl, rfl, rfl, Nat.le_refl _, fun _ _ _ _ => rfl⟩
  · refine ⟨rfl, rfl, rfl, by simp, fun k _ _ hr => ?_⟩
    simp only [Array.getElem?_modify]
    rw [if_neg (fun e => hr (by simp [← e]))]
theorem keptAlloc (b : Nat) (row : Option Nat) (w : World) (o : Obj) : Kept b row w (w.alloc o) :=
  ⟨rfl, rfl, rfl, by simp, fun k hk _ _ => Lib.alloc_old w o k hk⟩
theorem usNone (W : World) (q : Option Addr) : (Builtin.unsafeString_ #[172, 3] 9 #[.pointer q, .int .i64 0]).run Tryz.prog W = .ok (.string .empty) W :=
  Lib.run_unsafeString_none W _ _ _ q
theorem byteCellsOf : Tryz.prog.cellsOf 5 = 1 := by kernel_rfl

set_option maxHeartbeats 2000000 in
set_option maxRecDepth 100000 in
theorem string_full (el b g cap : Nat) (p : Value) (cur : Array Value) (l : List UInt8) (w : World) (h0 : l ≠ []) (hbk : w.heap[b]? = some (.cells #[p, .slice (some ⟨g, 0, none⟩) l.length cap] el (0, 0))) (hown : w.ownsRow 0 5 1 (.slice (some ⟨g, 0, none⟩) l.length cap) l.length (Lib.byteCells l))
    (hg : w.heap[g]? = some (.cells cur 5 (0, 0))) (hnc : l.length ≤ cap) (hcm : cap ≤ maxLen) (hcs : cur.size = cap * 1) :
    Calls Tryz.prog 95 #[.pointer (some ⟨b, 0, none⟩)] w fun e w' => e = .returned (.string ⟨l.toArray⟩) ∧ Kept b (some g) w w' := by
  have hl0 : l.length ≠ 0 := by simpa using h0
  have c1 : w.drew.cell? ⟨b, 1, none⟩ = some (.slice (some ⟨g, 0, none⟩) l.length cap) := by
    have : w.drew.heap[b]? = some (.cells #[p, .slice (some ⟨g, 0, none⟩) l.length cap] el (0, 0)) := hbk
    rw [Lib.cell_of_heap this]; rfl
  have hSD : (Builtin.unsafeSliceData_ #[82] 172 #[.slice (some ⟨g, 0, none⟩) l.length cap]).run Tryz.prog w.drew = .ok (.pointer (some ⟨g, 0, none⟩)) w.drew :=
    Lib.run_unsafeSliceData_row _ _ _ _ _ _ (by omega)
  have hUS : (Builtin.unsafeString_ #[172, 3] 9 #[.pointer (some ⟨g, 0, none⟩), .int .i64 l.length]).run Tryz.prog w.drew = .ok (.string ⟨l.toArray⟩) (w.drew.freeze ⟨g, 0, none⟩ l.length) := by
    refine Lib.run_unsafeString_row w.drew 172 3 9 5 Tryz.underlying172 byteCellsOf g cur.size (by have hg' : w.drew.heap[g]? = some (.cells cur 5 (0, 0)) := hg; simp [World.shape?, hg']) l h0 (by omega) (by unfold maxLen at hcm; omega) ?_
    intro j x hx
    have := hown.cells (g := g) rfl j (.int .u8 x.toNat) (by simp [Lib.byteCells, hx])
    exact this
  have mixed := (show Tryz.prog.follows .mixedOrders = true by kernel_rfl)
  go_enter Tryz.func95, Tryz.ntmps95
  go_wp2
  go_region_o
  all_goals (go_wp2; go_ret; exact ⟨rfl, (keptDrew _ _ _).trans (keptFreeze _ _ _ _)⟩)

set_option maxHeartbeats 2000000 in
set_option maxRecDepth 100000 in
theorem string_nil (el b : Nat) (p : Value) (w : World) (hbk : w.heap[b]? = some (.cells #[p, .slice none 0 0] el (0, 0))) :
    Calls Tryz.prog 95 #[.pointer (some ⟨b, 0, none⟩)] w fun e w' => e = .returned (.string ⟨#[]⟩) ∧ ∀ row, Kept b row w w' := by
  have hUS := usNone
  have c1 : w.drew.cell? ⟨b, 1, none⟩ = some (.slice none 0 0) := by
    have : w.drew.heap[b]? = some (.cells #[p, .slice none 0 0] el (0, 0)) := hbk
    rw [Lib.cell_of_heap this]; rfl
  have hSD : (Builtin.unsafeSliceData_ #[82] 172 #[.slice none 0 0]).run Tryz.prog w.drew = .ok (.pointer none) w.drew := rfl
  have mixed := (show Tryz.prog.follows .mixedOrders = true by kernel_rfl)
  go_enter Tryz.func95, Tryz.ntmps95
  go_wp2
  go_region_o
  all_goals (go_wp2; go_ret; exact ⟨rfl, fun row => keptDrew _ _ _⟩)

set_option maxHeartbeats 2000000 in
set_option maxRecDepth 100000 in
theorem string_noroom (el b g : Nat) (p : Value) (cur : Array Value) (w : World) (hbk : w.heap[b]? = some (.cells #[p, .slice (some ⟨g, 0, none⟩) 0 0] el (0, 0))) (hg : w.heap[g]? = some (.cells cur 5 (0, 0))) :
    Calls Tryz.prog 95 #[.pointer (some ⟨b, 0, none⟩)] w fun e w' => e = .returned (.string ⟨#[]⟩) ∧ ∀ row, Kept b row w w' := by
  have hUS := usNone
  have hlt : b < w.heap.size := (Array.getElem?_eq_some_iff.1 hbk).1
  have c1 : w.drew.cell? ⟨b, 1, none⟩ = some (.slice (some ⟨g, 0, none⟩) 0 0) := by
    have : w.drew.heap[b]? = some (.cells #[p, .slice (some ⟨g, 0, none⟩) 0 0] el (0, 0)) := hbk
    rw [Lib.cell_of_heap this]; rfl
  have hSD : (Builtin.unsafeSliceData_ #[82] 172 #[.slice (some ⟨g, 0, none⟩) 0 0]).run Tryz.prog w.drew = .ok (.pointer (some ⟨w.drew.heap.size, 0, none⟩)) (w.drew.alloc (.view ⟨g, 0, none⟩ 5)) :=
    Lib.run_unsafeSliceData_zero w.drew _ _ 5 Tryz.underlying172 ⟨g, 0, none⟩ 0 (5, cur.size) (by have hg' : w.drew.heap[g]? = some (.cells cur 5 (0, 0)) := hg; simp [World.shape?, hg'])
  have c2 : (w.drew.alloc (.view ⟨g, 0, none⟩ 5)).cell? ⟨b, 1, none⟩ = some (.slice (some ⟨g, 0, none⟩) 0 0) := by
    have : (w.drew.alloc (.view ⟨g, 0, none⟩ 5)).heap[b]? = _ := (Lib.alloc_old w.drew _ b hlt).trans hbk
    rw [Lib.cell_of_heap this]; rfl
  have c3 : (w.alloc (.view ⟨g, 0, none⟩ 5)).drew.cell? ⟨b, 1, none⟩ = some (.slice (some ⟨g, 0, none⟩) 0 0) := c2
  have c0 : w.cell? ⟨b, 1, none⟩ = some (.slice (some ⟨g, 0, none⟩) 0 0) := c1
  have mixed := (show Tryz.prog.follows .mixedOrders = true by kernel_rfl)
  go_enter Tryz.func95, Tryz.ntmps95
  go_wp2
  go_region_o
  all_goals (go_wp2; go_ret; exact ⟨rfl, fun row => (keptDrew _ _ _).trans (keptAlloc _ _ _ _)⟩)

set_option maxHeartbeats 2000000 in
set_option maxRecDepth 100000 in
theorem string_room (el b g cap : Nat) (p : Value) (w : World) (hc0 : cap ≠ 0) (hbk : w.heap[b]? = some (.cells #[p, .slice (some ⟨g, 0, none⟩) 0 cap] el (0, 0))) :
    Calls Tryz.prog 95 #[.pointer (some ⟨b, 0, none⟩)] w fun e w' => e = .returned (.string ⟨#[]⟩) ∧ ∀ row, Kept b row w w' := by
  have hUS := usNone
  have c1 : w.drew.cell? ⟨b, 1, none⟩ = some (.slice (some ⟨g, 0, none⟩) 0 cap) := by
    have : w.drew.heap[b]? = some (.cells #[p, .slice (some ⟨g, 0, none⟩) 0 cap] el (0, 0)) := hbk
    rw [Lib.cell_of_heap this]; rfl
  have hSD : (Builtin.unsafeSliceData_ #[82] 172 #[.slice (some ⟨g, 0, none⟩) 0 cap]).run Tryz.prog w.drew = .ok (.pointer (some ⟨g, 0, none⟩)) w.drew :=
    Lib.run_unsafeSliceData_row _ _ _ _ _ _ hc0
  clear hc0
  have mixed := (show Tryz.prog.follows .mixedOrders = true by kernel_rfl)
  go_enter Tryz.func95, Tryz.ntmps95
  go_wp2
  go_region_o
  all_goals (go_wp2; go_ret; exact ⟨rfl, fun row => keptDrew _ _ _⟩)

/-- String, whatever the builder holds -/
theorem string_any (el b : Nat) (p v : Value) (l : List UInt8) (w : World) (hbk : w.heap[b]? = some (.cells #[p, v] el (0, 0))) (hown : w.ownsRow 0 5 1 v l.length (Lib.byteCells l)) :
    Calls Tryz.prog 95 #[.pointer (some ⟨b, 0, none⟩)] w fun e w' => e = .returned (.string ⟨l.toArray⟩) ∧ Kept b v.ownBlock w w' := by
  rcases hown.2 with ⟨rfl, hz⟩ | ⟨g, cap, cur, rfl, _, hg, hnc, hcm, hcs, _⟩
  · obtain rfl := List.eq_nil_of_length_eq_zero hz
    exact (string_nil el b p w hbk).mono fun e w' ⟨h1, h2⟩ => ⟨h1, h2 _⟩
  · by_cases h0 : l = []
    · subst h0
      by_cases hc : cap = 0
      · subst hc
        exact (string_noroom el b g p cur w hbk hg).mono fun e w' ⟨h1, h2⟩ => ⟨h1, h2 _⟩
      · exact (string_room el b g cap p w hc hbk).mono fun e w' ⟨h1, h2⟩ => ⟨h1, h2 _⟩
    · exact string_full el b g cap p cur l w h0 hbk hown hg hnc hcm hcs

set_option maxHeartbeats 1000000 in
set_option maxRecDepth 100000 in
theorem len_any (el b : Nat) (p v : Value) (bs : List Value) (w : World) (hbk : w.heap[b]? = some (.cells #[p, v] el (0, 0))) (hown : w.ownsRow 0 5 1 v bs.length bs) :
    Calls Tryz.prog 94 #[.pointer (some ⟨b, 0, none⟩)] w fun e w' => e = .returned (.int .i64 bs.length) ∧ w' = w := by
  obtain ⟨ao, cap, rfl⟩ : ∃ ao cap, v = .slice ao bs.length cap := by
    rcases hown.2 with ⟨hv, h0⟩ | ⟨g, cap, cur, hv, _⟩
    · exact ⟨none, 0, by rw [hv, h0]⟩
    · exact ⟨_, _, hv⟩
  have c1 : w.cell? ⟨b, 1, none⟩ = some (.slice ao bs.length cap) := by rw [Lib.cell_of_heap hbk]; rfl
  have mixed := (show Tryz.prog.follows .mixedOrders = true by kernel_rfl)
  go_enter Tryz.func94, Tryz.ntmps94
  go_wp2
  go_ret
  exact ⟨rfl, rfl⟩
end Go.Proofs.YtmilgoloagbmpaaGreatDoor

set_option linter.unusedSimpArgs false
namespace Go.Proofs.YtmilgoloagbmpaaGreatDoor
open Go.Am

theorem owns_of {M : Mem} {G : Nat → Value} {w : World} {bs : Str} {g : Value} (h : ObRel M G w (.buf 5 bs) g) : w.ownsRow 0 5 1 g bs.length (Lib.byteCells bs) := by
  obtain ⟨h0, h⟩ := h
  refine ⟨by simp [Lib.byteCells], ?_⟩
  rcases h with ⟨rfl, rfl⟩ | ⟨b, cap, cur, rfl, h1, h2, h3, h4, h5, h6⟩
  · exact .inl ⟨rfl, rfl⟩
  · exact .inr ⟨b, cap, cur, rfl, Nat.zero_le _, h1, h2, h3, by omega, by rw [Nat.mul_one]; exact h5⟩
theorem owns_to {M : Mem} {G : Nat → Value} {w : World} {bs : Str} {g : Value} (h : w.ownsRow 0 5 1 g bs.length (Lib.byteCells bs)) (hl : bs.length ≤ maxLen) (hM : ∀ b, g.ownBlock = some b → ∀ off sp, M ⟨b, off, sp⟩ = none) : ObRel M G w (.buf 5 bs) g := by
  refine ⟨hl, ?_⟩
  rcases h.2 with ⟨rfl, h0⟩ | ⟨b, cap, cur, rfl, _, h1, h2, h3, h4, h5⟩
  · exact .inl ⟨rfl, List.eq_nil_of_length_eq_zero h0⟩
  · exact .inr ⟨b, cap, cur, rfl, h1, h2, h3, by omega, by rw [Nat.mul_one] at h5; exact h5, hM b rfl⟩
theorem blk_buf {e : TypeId} {bs : Str} {g : Value} {b : Nat} : blk (.buf e bs) g = some b ↔ g.ownBlock = some b := by
  cases g <;> simp [blk, Value.ownBlock]
  rename_i a l c
  cases a <;> simp [blk, Value.ownBlock]

/-- what a method of a builder leaves -/
theorem bldPost {M : Mem} {G : Nat → Value} {w w' : World} {el b : Nat} {bs bs' : Str} {v' : Value} (hg : Go.Am.Good M w) (hh : HRel M G w [.bld 1 el, .buf 5 bs]) (hG : G 0 = .pointer (some ⟨b, 0, none⟩)) (hb' : w'.heap[b]? = some (.cells #[.pointer (some ⟨b, 0, none⟩), v'] el (0, 0)))
    (hown : w'.ownsRow 0 5 1 v' bs'.length (Lib.byteCells bs')) (hne : v'.ownBlock ≠ some b) (hk : Kept b (G 1).ownBlock w w') (hfr : ∀ k, v'.ownBlock = some k → (G 1).ownBlock = some k ∨ w.heap.size ≤ k) (hl : bs'.length ≤ maxLen) (r : A) (v : Value) (hr : RelA M (updG G 1 v') r v)
    {Q : A → Heap → Prop} (hQ : Q r [.bld 1 el, .buf 5 bs']) : RetPost M G w [.bld 1 el, .buf 5 bs] Q (.returned v) w' := by
  have o0 := hh.obj 0 _ rfl
  have o1 := hh.obj 1 _ rfl
  obtain ⟨b0, v0, e1, hb, hv0, hnt, hMb⟩ := o0
  rw [hG] at e1
  obtain rfl : b = b0 := by cases e1; rfl
  have hM1 : ∀ k, (G 1).ownBlock = some k → ∀ off sp, M ⟨k, off, sp⟩ = none := fun k hk' => by
    obtain ⟨_, h⟩ := o1
    rcases h with ⟨e, _⟩ | ⟨b1, cap, cur, e, _, _, _, _, _, h6⟩
    · rw [e] at hk'; simp [Value.ownBlock] at hk'
    · rw [e] at hk'
      simp [Value.ownBlock] at hk'
      subst hk'
      exact h6
  have hM' : ∀ k, v'.ownBlock = some k → ∀ off sp, M ⟨k, off, sp⟩ = none := fun k hk' off sp => by
    rcases hfr k hk' with h | h
    · exact hM1 k h off sp
    · cases hm : M ⟨k, off, sp⟩ with
      | none => rfl
      | some x => have := hg.lt hm; simp only at this; omega
  have hw0 : own G [.bld 1 el, .buf 5 bs] b := ⟨0, _, rfl, by rw [hG]; rfl⟩
  have hw1 : ∀ k, (G 1).ownBlock = some k → own G [.bld 1 el, .buf 5 bs] k := fun k h => ⟨1, _, rfl, blk_buf.2 h⟩
  have hnt' : v' ≠ .tuple #[] := fun e => by
    subst e
    rcases hown.2 with ⟨h, _⟩ | ⟨_, _, _, h, _⟩ <;> cases h
  refine ⟨v, r, _, M, updG G 1 v', rfl, hQ, hr, ?_, ⟨?_, ?_, ?_⟩, ⟨fun _ _ h => h, hk.size, hk.os, hk.output, hk.tape, fun k hlt hn => ?_, fun _ _ h => .inl h⟩, ?_, Nat.le_refl _, ?_⟩
  · intro a x hx
    obtain ⟨s1, s2⟩ := hg a x hx
    refine ⟨s1, ?_⟩
    rw [cell_of_block (hk.block a.block (hg.lt hx) (fun e => ?_) (fun e => ?_))]
    · exact s2
    · have := hMb a.off a.spot
      rw [← e] at this
      rw [show (⟨a.block, a.off, a.spot⟩ : Addr) = a from rfl, hx] at this
      cases this
    · have := hM1 a.block e.symm a.off a.spot
      rw [show (⟨a.block, a.off, a.spot⟩ : Addr) = a from rfl, hx] at this
      cases this
  · intro o x ho
    match o, ho with
    | 0, ho =>
      cases ho
      rw [updG_ne (by decide), hG]
      exact ⟨b, _, rfl, by rw [updG_same]; exact hb', .inr rfl, by rw [updG_same]; exact hnt', hMb⟩
    | 1, ho =>
      cases ho
      rw [updG_same]
      exact owns_to hown hl hM'
    | o + 2, ho => simp at ho
  · intro o o' x x' k ho ho' h1 h2
    match o, o', ho, ho' with
    | 0, 0, _, _ => rfl
    | 1, 1, _, _ => rfl
    | 0, 1, ho, ho' =>
      cases ho; cases ho'
      rw [updG_ne (by decide), hG] at h1
      rw [updG_same] at h2
      simp only [blk, Option.some.injEq] at h1
      subst h1
      exact absurd (blk_buf.1 h2) hne
    | 1, 0, ho, ho' =>
      cases ho; cases ho'
      rw [updG_ne (by decide), hG] at h2
      rw [updG_same] at h1
      simp only [blk, Option.some.injEq] at h2
      subst h2
      exact absurd (blk_buf.1 h1) hne
    | o + 2, _, ho, _ => simp at ho
    | _, o + 2, _, ho' => simp at ho'
  · intro o ho
    rw [updG_ne (by simp at ho; omega)]
    exact hh.fresh o ho
  · exact hk.block k hlt (fun e => hn (e ▸ hw0)) (fun e => hn (hw1 k e.symm))
  · rintro k ⟨o, x, ho, hx⟩
    match o, ho with
    | 0, ho =>
      cases ho
      rw [updG_ne (by decide)] at hx
      exact .inl ⟨0, _, rfl, hx⟩
    | 1, ho =>
      cases ho
      rw [updG_same] at hx
      rcases hfr k (blk_buf.1 hx) with h | h
      · exact .inl (hw1 k h)
      · exact .inr h
    | o + 2, ho => simp at ho
  · intro o x ho ht
    match o, ho with
    | 0, ho =>
      cases ho
      exact ⟨updG_ne (by decide), fun y hy => by cases hy; rfl⟩
    | 1, ho => cases ho; cases ht
    | o + 2, ho => simp at ho

theorem WriteString_ok {el : Nat} {s bs : Str} (hel : el ≠ 5) (hlies : liesAt Tryz.prog Tryz.prog.depth el (2 / Tryz.prog.cellsOf el) 0 84 1 = true) (hlen : bs.length + s.length ≤ 140737488351231) :
    ACall C 54 [.ref 0 0, .d (.str s)] [.bld 1 el, .buf 5 bs] (fun x H' => H' = [.bld 1 el, .buf 5 (bs ++ s)] ∧ x = .tup [.d (.int .i64 s.length), .d (.nilv .iface)]) := by
  refine ⟨fnOk_of Tryz.func54 rfl rfl, fun M G w vs hg hgl hh hl hr => ?_⟩
  obtain ⟨h1, hm⟩ := args_str hl hr (i := 1) rfl
  obtain ⟨b, v0, e1, hb, hv0, hnt, hMb⟩ := hh.obj 0 _ rfl
  have h0 : vs[0]? = some (.pointer (some ⟨b, 0, none⟩)) := by
    have hlt : 0 < vs.size := by rw [← hl]; simp
    have hv : vs[0]? = some vs[0] := Array.getElem?_eq_getElem hlt
    have := hr 0 _ _ rfl hv
    generalize vs[0] = z at this hv
    cases this with
    | ref h => rw [e1] at h; cases h; exact hv
  obtain rfl := arr2 hl.symm h0 h1
  have hown := owns_of (hh.obj 1 _ rfl)
  have hs : (⟨s.toArray⟩ : ByteArray).size = s.length := rfl
  have hbl : (Lib.byteCells bs).length = bs.length := by simp [Lib.byteCells]
  refine (writeString el b v0 (G 1) (Lib.byteCells bs) ⟨s.toArray⟩ w hb hv0 (by rw [hbl]; exact hown) hel hlies (by rw [hbl, hs]; omega)).mono ?_
  rintro e w' ⟨rfl, v', q1, q2, q3, q4, q5⟩
  refine bldPost hg hh e1 q1 (bs' := bs ++ s) ?_ q3 q4 q5 (by unfold maxLen; simp; omega) (.tup [.d (.int .i64 s.length), .d (.nilv .iface)]) _ ?_ ⟨rfl, rfl⟩
  · rw [hbl, hs] at q2
    have e : Lib.byteCells bs ++ Lib.strCells ⟨s.toArray⟩ = Lib.byteCells (bs ++ s) := by simp [Lib.byteCells, Lib.strCells]
    rw [e] at q2
    rw [List.length_append]
    exact q2
  · refine .tup rfl fun i x v hx hv => ?_
    match i, hx, hv with
    | 0, hx, hv =>
      cases hx
      simp at hv
      subst hv
      refine .d (.int ?_)
      rw [inK_i64]
      unfold maxLen at hm
      omega
    | 1, hx, hv =>
      cases hx
      simp at hv
      subst hv
      exact .d .niliface
    | i + 2, hx, _ => simp at hx
end Go.Proofs.YtmilgoloagbmpaaGreatDoor

set_option linter.unusedSimpArgs false
namespace Go.Proofs.YtmilgoloagbmpaaGreatDoor
open Go.Am

theorem bldArg {M : Mem} {G : Nat → Value} {w : World} {el : Nat} {bs : Str} {xs : List A} {vs : Array Value} (hh : HRel M G w [.bld 1 el, .buf 5 bs]) (hl : (A.ref 0 0 :: xs).length = vs.size) (hr : ∀ (i : Nat) x v, (A.ref 0 0 :: xs)[i]? = some x → vs[i]? = some v → RelA M G x v) :
    ∃ b v0, G 0 = .pointer (some ⟨b, 0, none⟩) ∧ w.heap[b]? = some (.cells #[v0, G 1] el (0, 0)) ∧ vs[0]? = some (.pointer (some ⟨b, 0, none⟩)) ∧ (∀ off sp, M ⟨b, off, sp⟩ = none) := by
  obtain ⟨b, v0, e1, hb, hv0, hnt, hMb⟩ := hh.obj 0 _ rfl
  refine ⟨b, v0, e1, hb, ?_, hMb⟩
  have hlt : 0 < vs.size := by rw [← hl]; simp
  have hv : vs[0]? = some vs[0] := Array.getElem?_eq_getElem hlt
  have := hr 0 _ _ rfl hv
  generalize vs[0] = z at this hv
  cases this with
  | ref h => rw [e1] at h; cases h; exact hv

theorem Len_ok {el : Nat} {bs : Str} : ACall C 94 [.ref 0 0] [.bld 1 el, .buf 5 bs] (fun x H' => H' = [.bld 1 el, .buf 5 bs] ∧ x = .d (.int .i64 bs.length)) := by
  refine ⟨fnOk_of Tryz.func94 rfl rfl, fun M G w vs hg hgl hh hl hr => ?_⟩
  obtain ⟨b, v0, e1, hb, h0, hMb⟩ := bldArg hh hl hr
  obtain rfl := arr1 hl.symm h0
  have hown := owns_of (hh.obj 1 _ rfl)
  have hbm := (hh.obj 1 _ rfl).1
  have hbl : (Lib.byteCells bs).length = bs.length := by simp [Lib.byteCells]
  refine (len_any el b v0 (G 1) (Lib.byteCells bs) w hb (by rw [hbl]; exact hown)).mono ?_
  rintro e w' ⟨rfl, rfl⟩
  refine ⟨_, .d (.int .i64 bs.length), _, M, G, rfl, ⟨rfl, rfl⟩, ?_, hg, hh, Ext.refl _ _ _, fun b hb => .inl hb, Nat.le_refl _, fun o x ho ht => ⟨rfl, fun y hy => ?_⟩⟩
  · rw [hbl]
    refine .d (.int ?_)
    rw [inK_i64]
    unfold maxLen at hbm
    omega
  · rw [ho] at hy; cases hy; exact ht

theorem String_ok {el : Nat} {bs : Str} : ACall C 95 [.ref 0 0] [.bld 1 el, .buf 5 bs] (fun x H' => H' = [.dead, .dead] ∧ x = .d (.str bs)) := by
  refine ⟨fnOk_of Tryz.func95 rfl rfl, fun M G w vs hg hgl hh hl hr => ?_⟩
  obtain ⟨b, v0, e1, hb, h0, hMb⟩ := bldArg hh hl hr
  obtain rfl := arr1 hl.symm h0
  have hown := owns_of (hh.obj 1 _ rfl)
  obtain ⟨hbm, o1⟩ := hh.obj 1 _ rfl
  have hM1 : ∀ k, (G 1).ownBlock = some k → ∀ off sp, M ⟨k, off, sp⟩ = none := fun k hk' => by
    rcases o1 with ⟨e, _⟩ | ⟨b1, cap, cur, e, _, _, _, _, _, h6⟩
    · rw [e] at hk'; simp [Value.ownBlock] at hk'
    · rw [e] at hk'
      simp [Value.ownBlock] at hk'
      subst hk'
      exact h6
  have hw0 : own G [.bld 1 el, .buf 5 bs] b := ⟨0, _, rfl, by rw [e1]; rfl⟩
  have hw1 : ∀ k, (G 1).ownBlock = some k → own G [.bld 1 el, .buf 5 bs] k := fun k h => ⟨1, _, rfl, blk_buf.2 h⟩
  refine (string_any el b v0 (G 1) bs w hb hown).mono ?_
  rintro e w' ⟨rfl, hk⟩
  refine ⟨_, .d (.str bs), [.dead, .dead], M, G, rfl, ⟨rfl, rfl⟩, .d (.str hbm), ?_, ⟨?_, ?_, ?_⟩, ⟨fun _ _ h => h, hk.size, hk.os, hk.output, hk.tape, fun k hlt hn => ?_, fun _ _ h => .inl h⟩, ?_, Nat.le_refl _, ?_⟩
  · intro a x hx
    obtain ⟨s1, s2⟩ := hg a x hx
    refine ⟨s1, ?_⟩
    rw [cell_of_block (hk.block a.block (hg.lt hx) (fun e => ?_) (fun e => ?_))]
    · exact s2
    · have := hMb a.off a.spot
      rw [← e] at this
      rw [show (⟨a.block, a.off, a.spot⟩ : Addr) = a from rfl, hx] at this
      cases this
    · have := hM1 a.block e.symm a.off a.spot
      rw [show (⟨a.block, a.off, a.spot⟩ : Addr) = a from rfl, hx] at this
      cases this
  · intro o x ho
    match o, ho with
    | 0, ho => cases ho; trivial
    | 1, ho => cases ho; trivial
    | o + 2, ho => simp at ho
  · intro o o' x x' k ho ho' h1 h2
    match o, ho with
    | 0, ho => cases ho; simp [blk] at h1
    | 1, ho => cases ho; simp [blk] at h1
    | o + 2, ho => simp at ho
  · intro o ho
    exact hh.fresh o ho
  · exact hk.block k hlt (fun e => hn (e ▸ hw0)) (fun e => hn (hw1 k e.symm))
  · rintro k ⟨o, x, ho, hx⟩
    match o, ho with
    | 0, ho => cases ho; simp [blk] at hx
    | 1, ho => cases ho; simp [blk] at hx
    | o + 2, ho => simp at ho
  · intro o x ho ht
    match o, ho with
    | 0, ho => exact ⟨rfl, fun y hy => by cases hy; rfl⟩
    | 1, ho => exact ⟨rfl, fun y hy => by cases hy; rfl⟩
    | o + 2, ho => simp at ho
end Go.Proofs.YtmilgoloagbmpaaGreatDoor

set_option linter.unusedVariables false
set_option linter.unusedSimpArgs false
namespace Go.Proofs.YtmilgoloagbmpaaGreatDoor
open Go.Am
def X_Contains (s t : Str) : Option Bool := if decide (s.length < 4294967281) = true then some (Lib.contains s t) else none
theorem X_Contains_ok {s t : Str} {res : Bool} (hh : X_Contains s t = some res) : ACall C 184 [.d (.str s), .d (.str t)] [] (fun x H' => H' = [] ∧ x = .d (.bool res)) := by
  obtain ⟨hs, hh⟩ := asrt_some hh
  cases hh
  refine ACall.ofBelow (fnOk_of Tryz.func184 rfl rfl) fun M G w vs hg hgl hl hr => ?_
  obtain ⟨h0, _⟩ := args_str hl hr (i := 0) rfl
  obtain ⟨h1, _⟩ := args_str hl hr (i := 1) rfl
  obtain rfl := arr2 hl.symm h0 h1
  obtain ⟨⟨m, hm⟩, _⟩ := hgl.gp
  refine ⟨.bool (Lib.contains s t), fun _ _ => .d .bool, (Tryz.strings_Contains ⟨s.toArray⟩ ⟨t.toArray⟩ m w (by rw [size_mk]; exact hs) (hg _ _ hm).2).mono ?_⟩
  rintro e w' ⟨he, rfl⟩
  exact ⟨by simpa using he, .refl _ _⟩

theorem decDigits_len : ∀ (k u : Nat), u < 10 ^ (k + 1) → (Lib.decDigits u).length ≤ k + 1
  | 0, u, h => by rw [Lib.decDigits, dif_pos (by simpa using h)]; simp
  | k + 1, u, h => by
    rw [Lib.decDigits]
    split
    · simp
    · rw [List.length_append]
      have := decDigits_len k (u / 10) (by rw [Nat.div_lt_iff_lt_mul (by decide)]; rw [Nat.pow_succ] at h; exact h)
      simp; omega
def X_Itoa (n : Int) : Option Str := if decide (-1000000000000000000 < n ∧ n < 1000000000000000000) = true then some (Lib.itoa n) else none
theorem itoa_len {n : Int} (h : -1000000000000000000 < n ∧ n < 1000000000000000000) : (Lib.itoa n).length ≤ 19 := by
  unfold Lib.itoa
  split
  · have := decDigits_len 17 n.natAbs (by omega)
    simp; omega
  · have := decDigits_len 17 n.toNat (by omega)
    omega
theorem X_Itoa_ok {n : Int} {res : Str} (hh : X_Itoa n = some res) : ACall C 90 [.d (.int .i64 n)] [] (fun x H' => H' = [] ∧ x = .d (.str res)) := by
  obtain ⟨hs, hh⟩ := asrt_some hh
  cases hh
  refine ACall.ofBelow (fnOk_of Tryz.func90 rfl rfl) fun M G w vs hg hgl hl hr => ?_
  obtain ⟨h0, _⟩ := args_int hl hr (i := 0) rfl
  obtain rfl := arr1 hl.symm h0
  obtain ⟨_, _, htab⟩ := hgl.gp
  refine ⟨.string ⟨(Lib.itoa n).toArray⟩, fun _ _ => .d (.str ?_), (Tryz.strconv_Itoa n (by omega) (by omega) w htab).mono ?_⟩
  · have := itoa_len hs
    unfold maxLen; omega
  · rintro e w' ⟨he, k, os, rfl⟩
    exact ⟨he, Lib.below_grow _ _ (Nat.le_refl _) _ _⟩
def X_Itoa_F (n : Int) : Option Str := if decide (0 ≤ n ∧ n < 100) = true then some (if n.toNat < 10 then [UInt8.ofNat (48 + n.toNat)] else [UInt8.ofNat (48 + n.toNat / 10), UInt8.ofNat (48 + n.toNat % 10)]) else none
theorem X_Itoa_le (n : Int) : Le (X_Itoa_F n) (X_Itoa n) := by
  unfold X_Itoa_F X_Itoa
  by_cases h : 0 ≤ n ∧ n < 100
  · rw [if_pos (decide_eq_true h), if_pos (decide_eq_true (by omega))]
    obtain ⟨k, rfl⟩ : ∃ k : Nat, n = k := ⟨n.toNat, by omega⟩
    have hk : k < 100 := by omega
    have : ∀ k < 100, (if k < 10 then [UInt8.ofNat (48 + k)] else [UInt8.ofNat (48 + k / 10), UInt8.ofNat (48 + k % 10)]) = Lib.decDigits k := by
      intro k hk
      rw [Lib.decDigits]
      split
      · rfl
      · rename_i h
        rw [Lib.decDigits, dif_pos (by omega)]
        rfl
    rw [show (k : Int).toNat = k from rfl, this k hk]
    unfold Lib.itoa
    rw [if_neg (by omega)]
    exact Le.rfl
  · rw [if_neg (by simpa using h)]
    exact Le.none
theorem zB86 : ∀ w, (Instr.build 86 #[]).run Tryz.prog w = .ok (.agg #[.pointer none, .slice none 0 0]) w := fun w => by kernel_rfl
def X_WriteString_SyntaxPrinter (s b : Str) : Option (Int × Str) := if decide (b.length + s.length ≤ 140737488351231) = true then some ((s.length : Int), b ++ s) else none
theorem X_WriteString_SyntaxPrinter_ok {s b : Str} {res : Int × Str} (hh : X_WriteString_SyntaxPrinter s b = some res) : ACall C 54 [.ref 0 0, .d (.str s)] [.bld 1 86, .buf 5 b] (fun x H' => H' = [.bld 1 86, .buf 5 res.2] ∧ x = .tup [.d (.int .i64 res.1), .d (.nilv .iface)]) := by
  obtain ⟨hs, hh⟩ := asrt_some hh
  cases hh
  exact WriteString_ok (by decide) (by kernel_rfl) hs
def X_BLen_SyntaxPrinter (b : Str) : Option Int := some (b.length : Int)
theorem X_BLen_SyntaxPrinter_ok {b : Str} {res : Int} (hh : X_BLen_SyntaxPrinter b = some res) : ACall C 94 [.ref 0 0] [.bld 1 86, .buf 5 b] (fun x H' => H' = [.bld 1 86, .buf 5 b] ∧ x = .d (.int .i64 res)) := by
  cases hh
  exact Len_ok
def X_BString_SyntaxPrinter (b : Str) : Option Str := some b
theorem X_BString_SyntaxPrinter_ok {b : Str} {res : Str} (hh : X_BString_SyntaxPrinter b = some res) : ACall C 95 [.ref 0 0] [.bld 1 86, .buf 5 b] (fun x H' => H' = [.dead, .dead] ∧ x = .d (.str res)) := by
  cases hh
  exact String_ok
end Go.Proofs.YtmilgoloagbmpaaGreatDoor

