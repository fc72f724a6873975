/- A part of the proof of TypecheckNames. -/
import Derived.Test.YtdkabnfphmmmnaaGreatDoorProg
import Derived.Test.YtdkabnfphmmmnaaGreatDoorAmB
import Derived.KernelRfl
import Derived.Test.YtdkabnfphmmmnaaGreatDoorShA
import Derived.Lib.ItoaNum
import Derived.Lib.AppendIntMem
namespace Go.Proofs.YtdkabnfphmmmnaaGreatDoor
open Go.Am
def T:TT:=[
 (1,⟨.func,1,8,[.nilv .func]⟩),
 (2,⟨.int .i64,1,8,[.int .i64 0]⟩),
 (3,⟨.int .i64,1,8,[.int .i64 0]⟩),
 (4,⟨.bool,1,1,[.bool false]⟩),
 (5,⟨.int .u8,1,1,[.int .u8 0]⟩),
 (6,⟨.int .u8,1,1,[.int .u8 0]⟩),
 (7,⟨.st [(2,0,1),(3,1,1),(4,2,1),(6,3,1)],4,24,[.int .i64 0,.int .i64 0,.bool false,.int .u8 0]⟩),
 (8,⟨.st [(2,0,1),(3,1,1),(4,2,1),(6,3,1)],4,24,[.int .i64 0,.int .i64 0,.bool false,.int .u8 0]⟩),
 (9,⟨.str,1,16,[.str []]⟩),
 (10,⟨.str,1,16,[.str []]⟩),
 (11,⟨.str,1,16,[.str []]⟩),
 (12,⟨.int .u64,1,8,[.int .u64 0]⟩),
 (13,⟨.st [(9,0,1),(12,1,1)],2,24,[.str [],.int .u64 0]⟩),
 (14,⟨.st [(9,0,1),(12,1,1)],2,24,[.str [],.int .u64 0]⟩),
 (15,⟨.ptr 256,1,8,[.nilv .ptr]⟩),
 (16,⟨.ptr 259,1,8,[.nilv .ptr]⟩),
 (17,⟨.ptr 266,1,8,[.nilv .ptr]⟩),
 (18,⟨.st [(17,0,1)],1,8,[.nilv .ptr]⟩),
 (19,⟨.st [(17,0,1)],1,8,[.nilv .ptr]⟩),
 (20,⟨.iface,1,16,[.nilv .iface]⟩),
 (21,⟨.int .i32,1,4,[.int .i32 0]⟩),
 (22,⟨.sl 59,1,24,[.sl []]⟩),
 (23,⟨.sl 53,1,24,[.sl []]⟩),
 (24,⟨.st [(22,0,1),(23,1,1)],2,48,[.sl [],.sl []]⟩),
 (25,⟨.st [(22,0,1),(23,1,1)],2,48,[.sl [],.sl []]⟩),
 (26,⟨.func,1,8,[.nilv .func]⟩),
 (27,⟨.func,1,8,[.nilv .func]⟩),
 (28,⟨.int .i64,1,8,[.int .i64 0]⟩),
 (30,⟨.func,1,8,[.nilv .func]⟩),
 (31,⟨.int .i64,1,8,[.int .i64 0]⟩),
 (32,⟨.sl 34,1,24,[.sl []]⟩),
 (33,⟨.st [(31,0,1),(3,1,1),(9,2,1),(32,3,1)],4,56,[.int .i64 0,.int .i64 0,.str [],.sl []]⟩),
 (34,⟨.st [(31,0,1),(3,1,1),(9,2,1),(32,3,1)],4,56,[.int .i64 0,.int .i64 0,.str [],.sl []]⟩),
 (35,⟨.func,1,8,[.nilv .func]⟩),
 (36,⟨.int .i64,1,8,[.int .i64 0]⟩),
 (37,⟨.sl 9,1,24,[.sl []]⟩),
 (38,⟨.sl 40,1,24,[.sl []]⟩),
 (39,⟨.st [(36,0,1),(3,1,1),(3,2,1),(3,3,1),(9,4,1),(37,5,1),(38,6,1)],7,96,[.int .i64 0,.int .i64 0,.int .i64 0,.int .i64 0,.str [],.sl [],.sl []]⟩),
 (40,⟨.st [(36,0,1),(3,1,1),(3,2,1),(3,3,1),(9,4,1),(37,5,1),(38,6,1)],7,96,[.int .i64 0,.int .i64 0,.int .i64 0,.int .i64 0,.str [],.sl [],.sl []]⟩),
 (42,⟨.func,1,8,[.nilv .func]⟩),
 (43,⟨.func,1,8,[.nilv .func]⟩),
 (44,⟨.func,1,8,[.nilv .func]⟩),
 (46,⟨.func,1,8,[.nilv .func]⟩),
 (48,⟨.func,1,8,[.nilv .func]⟩),
 (49,⟨.func,1,8,[.nilv .func]⟩),
 (50,⟨.int .i64,1,8,[.int .i64 0]⟩),
 (51,⟨.sl 3,1,24,[.sl []]⟩),
 (52,⟨.st [(50,0,1),(34,1,4),(34,5,4),(9,9,1),(32,10,1),(3,11,1),(3,12,1),(3,13,1),(51,14,1),(23,15,1),(23,16,1)],17,256,[.int .i64 0,.int .i64 0,.int .i64 0,.str [],.sl [],.int .i64 0,.int .i64 0,.str [],.sl [],.str [],.sl [],.int .i64 0,.int .i64 0,.int .i64 0,.sl [],.sl [],.sl []]⟩),
 (53,⟨.st [(50,0,1),(34,1,4),(34,5,4),(9,9,1),(32,10,1),(3,11,1),(3,12,1),(3,13,1),(51,14,1),(23,15,1),(23,16,1)],17,256,[.int .i64 0,.int .i64 0,.int .i64 0,.str [],.sl [],.int .i64 0,.int .i64 0,.str [],.sl [],.str [],.sl [],.int .i64 0,.int .i64 0,.int .i64 0,.sl [],.sl [],.sl []]⟩),
 (54,⟨.func,1,8,[.nilv .func]⟩),
 (55,⟨.func,1,8,[.nilv .func]⟩),
 (56,⟨.func,1,8,[.nilv .func]⟩),
 (57,⟨.int .i64,1,8,[.int .i64 0]⟩),
 (58,⟨.st [(57,0,1),(9,1,1),(40,2,7),(3,9,1),(34,10,4),(22,14,1),(22,15,1),(23,16,1)],17,256,[.int .i64 0,.str [],.int .i64 0,.int .i64 0,.int .i64 0,.int .i64 0,.str [],.sl [],.sl [],.int .i64 0,.int .i64 0,.int .i64 0,.str [],.sl [],.sl [],.sl [],.sl []]⟩),
 (59,⟨.st [(57,0,1),(9,1,1),(40,2,7),(3,9,1),(34,10,4),(22,14,1),(22,15,1),(23,16,1)],17,256,[.int .i64 0,.str [],.int .i64 0,.int .i64 0,.int .i64 0,.int .i64 0,.str [],.sl [],.sl [],.int .i64 0,.int .i64 0,.int .i64 0,.str [],.sl [],.sl [],.sl [],.sl []]⟩),
 (60,⟨.func,1,8,[.nilv .func]⟩),
 (61,⟨.func,1,8,[.nilv .func]⟩),
 (62,⟨.func,1,8,[.nilv .func]⟩),
 (63,⟨.ptr 66,1,8,[.nilv .ptr]⟩),
 (64,⟨.map 9 4,1,8,[.nilv .map]⟩),
 (65,⟨.st [(25,0,2),(3,2,1),(4,3,1),(64,4,1)],5,72,[.sl [],.sl [],.int .i64 0,.bool false,.nilv .map]⟩),
 (66,⟨.st [(25,0,2),(3,2,1),(4,3,1),(64,4,1)],5,72,[.sl [],.sl [],.int .i64 0,.bool false,.nilv .map]⟩),
 (67,⟨.func,1,8,[.nilv .func]⟩),
 (68,⟨.func,1,8,[.nilv .func]⟩),
 (69,⟨.func,1,8,[.nilv .func]⟩),
 (70,⟨.ptr 110,1,8,[.nilv .ptr]⟩),
 (71,⟨.func,1,8,[.nilv .func]⟩),
 (72,⟨.func,1,8,[.nilv .func]⟩),
 (73,⟨.func,1,8,[.nilv .func]⟩),
 (74,⟨.func,1,8,[.nilv .func]⟩),
 (75,⟨.func,1,8,[.nilv .func]⟩),
 (76,⟨.sl 146,1,24,[.sl []]⟩),
 (77,⟨.st [(25,0,2),(3,2,1),(76,3,1),(37,4,1)],5,104,[.sl [],.sl [],.int .i64 0,.sl [],.sl []]⟩),
 (78,⟨.st [(25,0,2),(3,2,1),(76,3,1),(37,4,1)],5,104,[.sl [],.sl [],.int .i64 0,.sl [],.sl []]⟩),
 (79,⟨.func,1,8,[.nilv .func]⟩),
 (80,⟨.func,1,8,[.nilv .func]⟩),
 (81,⟨.func,1,8,[.nilv .func]⟩),
 (82,⟨.func,1,8,[.nilv .func]⟩),
 (83,⟨.func,1,8,[.nilv .func]⟩),
 (84,⟨.st [(3,0,1),(3,1,1)],2,16,[.int .i64 0,.int .i64 0]⟩),
 (85,⟨.st [(3,0,1),(3,1,1)],2,16,[.int .i64 0,.int .i64 0]⟩),
 (86,⟨.func,1,8,[.nilv .func]⟩),
 (88,⟨.func,1,8,[.nilv .func]⟩),
 (90,⟨.func,1,8,[.nilv .func]⟩),
 (91,⟨.func,1,8,[.nilv .func]⟩),
 (92,⟨.func,1,8,[.nilv .func]⟩),
 (93,⟨.func,1,8,[.nilv .func]⟩),
 (94,⟨.func,1,8,[.nilv .func]⟩),
 (95,⟨.func,1,8,[.nilv .func]⟩),
 (96,⟨.ptr 135,1,8,[.nilv .ptr]⟩),
 (97,⟨.func,1,8,[.nilv .func]⟩),
 (98,⟨.sl 22,1,24,[.sl []]⟩),
 (99,⟨.func,1,8,[.nilv .func]⟩),
 (100,⟨.func,1,8,[.nilv .func]⟩),
 (101,⟨.func,1,8,[.nilv .func]⟩),
 (102,⟨.func,1,8,[.nilv .func]⟩),
 (103,⟨.func,1,8,[.nilv .func]⟩),
 (104,⟨.func,1,8,[.nilv .func]⟩),
 (105,⟨.func,1,8,[.nilv .func]⟩),
 (106,⟨.st [(40,0,7),(4,7,1)],8,104,[.int .i64 0,.int .i64 0,.int .i64 0,.int .i64 0,.str [],.sl [],.sl [],.bool false]⟩),
 (107,⟨.st [(40,0,7),(4,7,1)],8,104,[.int .i64 0,.int .i64 0,.int .i64 0,.int .i64 0,.str [],.sl [],.sl [],.bool false]⟩),
 (108,⟨.map 9 107,1,8,[.nilv .map]⟩),
 (109,⟨.st [(70,0,1),(108,1,1)],2,16,[.nilv .ptr,.nilv .map]⟩),
 (110,⟨.st [(70,0,1),(108,1,1)],2,16,[.nilv .ptr,.nilv .map]⟩),
 (111,⟨.map 57 3,1,8,[.nilv .map]⟩),
 (113,⟨.sl 117,1,24,[.sl []]⟩),
 (115,⟨.func,1,8,[.nilv .func]⟩),
 (116,⟨.st [(9,0,1),(4,1,1),(3,2,1),(3,3,1)],4,40,[.str [],.bool false,.int .i64 0,.int .i64 0]⟩),
 (117,⟨.st [(9,0,1),(4,1,1),(3,2,1),(3,3,1)],4,40,[.str [],.bool false,.int .i64 0,.int .i64 0]⟩),
 (118,⟨.func,1,8,[.nilv .func]⟩),
 (119,⟨.func,1,8,[.nilv .func]⟩),
 (120,⟨.st [(3,0,1),(3,1,1)],2,16,[.int .i64 0,.int .i64 0]⟩),
 (121,⟨.st [(3,0,1),(3,1,1)],2,16,[.int .i64 0,.int .i64 0]⟩),
 (122,⟨.func,1,8,[.nilv .func]⟩),
 (123,⟨.func,1,8,[.nilv .func]⟩),
 (124,⟨.func,1,8,[.nilv .func]⟩),
 (125,⟨.func,1,8,[.nilv .func]⟩),
 (126,⟨.func,1,8,[.nilv .func]⟩),
 (127,⟨.func,1,8,[.nilv .func]⟩),
 (128,⟨.func,1,8,[.nilv .func]⟩),
 (129,⟨.func,1,8,[.nilv .func]⟩),
 (130,⟨.func,1,8,[.nilv .func]⟩),
 (131,⟨.func,1,8,[.nilv .func]⟩),
 (132,⟨.func,1,8,[.nilv .func]⟩),
 (133,⟨.func,1,8,[.nilv .func]⟩),
 (134,⟨.st [(3,0,1),(3,1,1),(4,2,1),(4,3,1),(4,4,1)],5,24,[.int .i64 0,.int .i64 0,.bool false,.bool false,.bool false]⟩),
 (135,⟨.st [(3,0,1),(3,1,1),(4,2,1),(4,3,1),(4,4,1)],5,24,[.int .i64 0,.int .i64 0,.bool false,.bool false,.bool false]⟩),
 (136,⟨.func,1,8,[.nilv .func]⟩),
 (137,⟨.func,1,8,[.nilv .func]⟩),
 (138,⟨.func,1,8,[.nilv .func]⟩),
 (140,⟨.func,1,8,[.nilv .func]⟩),
 (141,⟨.func,1,8,[.nilv .func]⟩),
 (142,⟨.func,1,8,[.nilv .func]⟩),
 (143,⟨.func,1,8,[.nilv .func]⟩),
 (144,⟨.func,1,8,[.nilv .func]⟩),
 (145,⟨.st [(9,0,1),(40,1,7),(4,8,1)],9,120,[.str [],.int .i64 0,.int .i64 0,.int .i64 0,.int .i64 0,.str [],.sl [],.sl [],.bool false]⟩),
 (146,⟨.st [(9,0,1),(40,1,7),(4,8,1)],9,120,[.str [],.int .i64 0,.int .i64 0,.int .i64 0,.int .i64 0,.str [],.sl [],.sl [],.bool false]⟩),
 (148,⟨.func,1,8,[.nilv .func]⟩),
 (149,⟨.map 9 85,1,8,[.nilv .map]⟩),
 (150,⟨.st [(149,0,1)],1,8,[.nilv .map]⟩),
 (151,⟨.st [(149,0,1)],1,8,[.nilv .map]⟩),
 (152,⟨.func,1,8,[.nilv .func]⟩),
 (153,⟨.func,1,8,[.nilv .func]⟩),
 (154,⟨.func,1,8,[.nilv .func]⟩),
 (155,⟨.func,1,8,[.nilv .func]⟩),
 (156,⟨.func,1,8,[.nilv .func]⟩),
 (157,⟨.func,1,8,[.nilv .func]⟩),
 (158,⟨.func,1,8,[.nilv .func]⟩),
 (159,⟨.func,1,8,[.nilv .func]⟩),
 (160,⟨.func,1,8,[.nilv .func]⟩),
 (161,⟨.func,1,8,[.nilv .func]⟩),
 (162,⟨.func,1,8,[.nilv .func]⟩),
 (163,⟨.func,1,8,[.nilv .func]⟩),
 (164,⟨.func,1,8,[.nilv .func]⟩),
 (165,⟨.func,1,8,[.nilv .func]⟩),
 (166,⟨.func,1,8,[.nilv .func]⟩),
 (167,⟨.func,1,8,[.nilv .func]⟩),
 (168,⟨.func,1,8,[.nilv .func]⟩),
 (169,⟨.func,1,8,[.nilv .func]⟩),
 (170,⟨.func,1,8,[.nilv .func]⟩),
 (171,⟨.func,1,8,[.nilv .func]⟩),
 (172,⟨.func,1,8,[.nilv .func]⟩),
 (173,⟨.func,1,8,[.nilv .func]⟩),
 (174,⟨.func,1,8,[.nilv .func]⟩),
 (175,⟨.func,1,8,[.nilv .func]⟩),
 (176,⟨.func,1,8,[.nilv .func]⟩),
 (177,⟨.func,1,8,[.nilv .func]⟩),
 (179,⟨.func,1,8,[.nilv .func]⟩),
 (180,⟨.func,1,8,[.nilv .func]⟩),
 (181,⟨.func,1,8,[.nilv .func]⟩),
 (182,⟨.func,1,8,[.nilv .func]⟩),
 (183,⟨.func,1,8,[.nilv .func]⟩),
 (184,⟨.func,1,8,[.nilv .func]⟩),
 (185,⟨.func,1,8,[.nilv .func]⟩),
 (186,⟨.func,1,8,[.nilv .func]⟩),
 (187,⟨.func,1,8,[.nilv .func]⟩),
 (188,⟨.func,1,8,[.nilv .func]⟩),
 (189,⟨.func,1,8,[.nilv .func]⟩),
 (190,⟨.func,1,8,[.nilv .func]⟩),
 (191,⟨.func,1,8,[.nilv .func]⟩),
 (192,⟨.func,1,8,[.nilv .func]⟩),
 (193,⟨.func,1,8,[.nilv .func]⟩),
 (194,⟨.func,1,8,[.nilv .func]⟩),
 (195,⟨.func,1,8,[.nilv .func]⟩),
 (196,⟨.func,1,8,[.nilv .func]⟩),
 (197,⟨.func,1,8,[.nilv .func]⟩),
 (198,⟨.func,1,8,[.nilv .func]⟩),
 (199,⟨.func,1,8,[.nilv .func]⟩),
 (200,⟨.func,1,8,[.nilv .func]⟩),
 (202,⟨.func,1,8,[.nilv .func]⟩),
 (203,⟨.func,1,8,[.nilv .func]⟩),
 (204,⟨.func,1,8,[.nilv .func]⟩),
 (205,⟨.st [(4,0,1),(4,1,1),(4,2,1),(4,3,1),(4,4,1),(4,5,1),(4,6,1),(4,7,1),(4,8,1)],9,9,[.bool false,.bool false,.bool false,.bool false,.bool false,.bool false,.bool false,.bool false,.bool false]⟩),
 (206,⟨.st [(4,0,1),(4,1,1),(4,2,1),(4,3,1),(4,4,1),(4,5,1),(4,6,1),(4,7,1),(4,8,1)],9,9,[.bool false,.bool false,.bool false,.bool false,.bool false,.bool false,.bool false,.bool false,.bool false]⟩),
 (208,⟨.func,1,8,[.nilv .func]⟩),
 (209,⟨.func,1,8,[.nilv .func]⟩),
 (210,⟨.map 9 40,1,8,[.nilv .map]⟩),
 (212,⟨.func,1,8,[.nilv .func]⟩),
 (213,⟨.func,1,8,[.nilv .func]⟩),
 (214,⟨.func,1,8,[.nilv .func]⟩),
 (215,⟨.func,1,8,[.nilv .func]⟩),
 (216,⟨.func,1,8,[.nilv .func]⟩),
 (217,⟨.func,1,8,[.nilv .func]⟩),
 (218,⟨.func,1,8,[.nilv .func]⟩),
 (220,⟨.func,1,8,[.nilv .func]⟩),
 (221,⟨.func,1,8,[.nilv .func]⟩),
 (222,⟨.func,1,8,[.nilv .func]⟩),
 (223,⟨.func,1,8,[.nilv .func]⟩),
 (224,⟨.func,1,8,[.nilv .func]⟩),
 (225,⟨.sl 5,1,24,[.sl []]⟩),
 (226,⟨.ptr 5,1,8,[.nilv .ptr]⟩),
 (227,⟨.func,1,8,[.nilv .func]⟩),
 (228,⟨.func,1,8,[.nilv .func]⟩),
 (229,⟨.func,1,8,[.nilv .func]⟩),
 (230,⟨.func,1,8,[.nilv .func]⟩),
 (231,⟨.func,1,8,[.nilv .func]⟩),
 (232,⟨.func,1,8,[.nilv .func]⟩),
 (233,⟨.func,1,8,[.nilv .func]⟩),
 (234,⟨.func,1,8,[.nilv .func]⟩),
 (235,⟨.arr 24 5,24,24,[.int .u8 0,.int .u8 0,.int .u8 0,.int .u8 0,.int .u8 0,.int .u8 0,.int .u8 0,.int .u8 0,.int .u8 0,.int .u8 0,.int .u8 0,.int .u8 0,.int .u8 0,.int .u8 0,.int .u8 0,.int .u8 0,.int .u8 0,.int .u8 0,.int .u8 0,.int .u8 0,.int .u8 0,.int .u8 0,.int .u8 0,.int .u8 0]⟩),
 (236,⟨.int .u64,1,8,[.int .u64 0]⟩),
 (237,⟨.func,1,8,[.nilv .func]⟩),
 (238,⟨.func,1,8,[.nilv .func]⟩),
 (240,⟨.func,1,8,[.nilv .func]⟩),
 (241,⟨.func,1,8,[.nilv .func]⟩),
 (242,⟨.func,1,8,[.nilv .func]⟩),
 (243,⟨.arr 20 236,20,160,[.int .u64 0,.int .u64 0,.int .u64 0,.int .u64 0,.int .u64 0,.int .u64 0,.int .u64 0,.int .u64 0,.int .u64 0,.int .u64 0,.int .u64 0,.int .u64 0,.int .u64 0,.int .u64 0,.int .u64 0,.int .u64 0,.int .u64 0,.int .u64 0,.int .u64 0,.int .u64 0]⟩),
 (244,⟨.int .u32,1,4,[.int .u32 0]⟩),
 (245,⟨.arr 65 5,65,65,[.int .u8 0,.int .u8 0,.int .u8 0,.int .u8 0,.int .u8 0,.int .u8 0,.int .u8 0,.int .u8 0,.int .u8 0,.int .u8 0,.int .u8 0,.int .u8 0,.int .u8 0,.int .u8 0,.int .u8 0,.int .u8 0,.int .u8 0,.int .u8 0,.int .u8 0,.int .u8 0,.int .u8 0,.int .u8 0,.int .u8 0,.int .u8 0,.int .u8 0,.int .u8 0,.int .u8 0,.int .u8 0,.int .u8 0,.int .u8 0,.int .u8 0,.int .u8 0,.int .u8 0,.int .u8 0,.int .u8 0,.int .u8 0,.int .u8 0,.int .u8 0,.int .u8 0,.int .u8 0,.int .u8 0,.int .u8 0,.int .u8 0,.int .u8 0,.int .u8 0,.int .u8 0,.int .u8 0,.int .u8 0,.int .u8 0,.int .u8 0,.int .u8 0,.int .u8 0,.int .u8 0,.int .u8 0,.int .u8 0,.int .u8 0,.int .u8 0,.int .u8 0,.int .u8 0,.int .u8 0,.int .u8 0,.int .u8 0,.int .u8 0,.int .u8 0,.int .u8 0]⟩),
 (246,⟨.int .u64,1,8,[.int .u64 0]⟩),
 (247,⟨.func,1,8,[.nilv .func]⟩),
 (248,⟨.func,1,8,[.nilv .func]⟩),
 (249,⟨.func,1,8,[.nilv .func]⟩),
 (250,⟨.arr 32 5,32,32,[.int .u8 0,.int .u8 0,.int .u8 0,.int .u8 0,.int .u8 0,.int .u8 0,.int .u8 0,.int .u8 0,.int .u8 0,.int .u8 0,.int .u8 0,.int .u8 0,.int .u8 0,.int .u8 0,.int .u8 0,.int .u8 0,.int .u8 0,.int .u8 0,.int .u8 0,.int .u8 0,.int .u8 0,.int .u8 0,.int .u8 0,.int .u8 0,.int .u8 0,.int .u8 0,.int .u8 0,.int .u8 0,.int .u8 0,.int .u8 0,.int .u8 0,.int .u8 0]⟩),
 (251,⟨.arr 64 5,64,64,[.int .u8 0,.int .u8 0,.int .u8 0,.int .u8 0,.int .u8 0,.int .u8 0,.int .u8 0,.int .u8 0,.int .u8 0,.int .u8 0,.int .u8 0,.int .u8 0,.int .u8 0,.int .u8 0,.int .u8 0,.int .u8 0,.int .u8 0,.int .u8 0,.int .u8 0,.int .u8 0,.int .u8 0,.int .u8 0,.int .u8 0,.int .u8 0,.int .u8 0,.int .u8 0,.int .u8 0,.int .u8 0,.int .u8 0,.int .u8 0,.int .u8 0,.int .u8 0,.int .u8 0,.int .u8 0,.int .u8 0,.int .u8 0,.int .u8 0,.int .u8 0,.int .u8 0,.int .u8 0,.int .u8 0,.int .u8 0,.int .u8 0,.int .u8 0,.int .u8 0,.int .u8 0,.int .u8 0,.int .u8 0,.int .u8 0,.int .u8 0,.int .u8 0,.int .u8 0,.int .u8 0,.int .u8 0,.int .u8 0,.int .u8 0,.int .u8 0,.int .u8 0,.int .u8 0,.int .u8 0,.int .u8 0,.int .u8 0,.int .u8 0,.int .u8 0]⟩),
 (253,⟨.func,1,8,[.nilv .func]⟩),
 (254,⟨.func,1,8,[.nilv .func]⟩),
 (255,⟨.st [(17,0,1),(17,1,1),(17,2,1),(9,3,1)],4,40,[.nilv .ptr,.nilv .ptr,.nilv .ptr,.str []]⟩),
 (256,⟨.st [(17,0,1),(17,1,1),(17,2,1),(9,3,1)],4,40,[.nilv .ptr,.nilv .ptr,.nilv .ptr,.str []]⟩),
 (260,⟨.int .u8,1,1,[.int .u8 0]⟩),
 (261,⟨.int .u8,1,1,[.int .u8 0]⟩),
 (262,⟨.func,1,8,[.nilv .func]⟩),
 (263,⟨.int .i32,1,4,[.int .i32 0]⟩),
 (264,⟨.int .i32,1,4,[.int .i32 0]⟩),
 (265,⟨.st [(12,0,1),(12,1,1),(244,2,1),(260,3,1),(5,4,1),(5,5,1),(261,6,1),(262,7,1),(226,8,1),(263,9,1),(264,10,1)],11,48,[.int .u64 0,.int .u64 0,.int .u32 0,.int .u8 0,.int .u8 0,.int .u8 0,.int .u8 0,.nilv .func,.nilv .ptr,.int .i32 0,.int .i32 0]⟩),
 (266,⟨.st [(12,0,1),(12,1,1),(244,2,1),(260,3,1),(5,4,1),(5,5,1),(261,6,1),(262,7,1),(226,8,1),(263,9,1),(264,10,1)],11,48,[.int .u64 0,.int .u64 0,.int .u32 0,.int .u8 0,.int .u8 0,.int .u8 0,.int .u8 0,.nilv .func,.nilv .ptr,.int .i32 0,.int .i32 0]⟩)]
theorem tok:TOk Tryz.prog T:=T1m _ _ (by kernel_rfl)
def Gp (M:Mem)(w:World):Prop:=(∃ m:Int,M ⟨1,0,none⟩=some (.int .i64 m))∧(∀ (j:Nat) z,Lib.pow10Tab[j]?=some z→M ⟨0,j,none⟩=some (.int .u64 z))∧Lib.TabIs Tryz.prog w "internal/strconv.uint64pow10" .u64 Lib.pow10Tab
noncomputable def C:Cx:=⟨Tryz.prog,T,[],Gp,fun {M M' w w'} hm hb h=>(by
 obtain ⟨⟨m,h0⟩,h1,h2⟩:=h
 exact ⟨⟨m,hm _ _ h0⟩,fun j z hz=>hm _ _ (h1 j z hz),J1l (by kernel_rfl) (by decide) h1 hb h2⟩)⟩
theorem follows:Tryz.prog.follows .mixedOrders=true:=by kernel_rfl
theorem hC:T1 C:=⟨tok,follows⟩
end Go.Proofs.YtdkabnfphmmmnaaGreatDoor

set_option linter.unusedVariables false
set_option linter.unusedSimpArgs false
namespace Go.Proofs.YtdkabnfphmmmnaaGreatDoor
open Go.Am
def En (s t:Str):Option Bool:=if decide (s.length < 4294967281)=true then some (Lib.contains s t) else none
theorem N11 {s t:Str}{res:Bool}(hh:En s t=some res):L0 C 231 [.d (.str s),.d (.str t)] [] (fun x H'=>H'=[]∧x = .d (.bool res)):=by
 obtain ⟨hs,hh⟩:=J1 hh
 cases hh
 refine L0.ofBelow (R1b Tryz.func231 rfl rfl) fun M G w vs hg hgl hl hr=>?_
 obtain ⟨h0,_⟩:=X17 hl hr (i:=0) rfl
 obtain ⟨h1,_⟩:=X17 hl hr (i:=1) rfl
 obtain rfl:=A1w hl.symm h0 h1
 obtain ⟨⟨m,hm⟩,_⟩:=hgl.gp
 refine ⟨.bool (Lib.contains s t),fun _ _=>.d .bool,(Tryz.strings_Contains ⟨s.toArray⟩ ⟨t.toArray⟩ m w (by rw [Lx]; exact hs) (hg.at hm rfl)).mono ?_⟩
 rintro e w' ⟨he,rfl⟩
 exact ⟨by simpa using he,.refl _ _⟩
def Y1b (s:Str):Option Str:=if decide (s.length≤281474976710656)=true then some s else none
theorem P1l {s:Str}{res:Str}(hh:Y1b s=some res):L0 C 189 [.d (.str s)] [] (fun x H'=>H'=[]∧x = .d (.str res)):=by
 obtain ⟨hs,hh⟩:=J1 hh
 cases hh
 refine L0.ofBelow (R1b Tryz.func189 rfl rfl) fun M G w vs hg hgl hl hr=>?_
 obtain ⟨h0,hm⟩:=X17 hl hr (i:=0) rfl
 obtain rfl:=E1u hl.symm h0
 refine ⟨.string ⟨s.toArray⟩,fun _ _=>.d (.str hm),(Tryz.stringslite_Clone ⟨s.toArray⟩ w (by rw [Lx]; exact hs)).mono ?_⟩
 rintro e w' ⟨he,hb⟩
 exact ⟨he,hb⟩
theorem Ir:∀ (k u:Nat),u < 10 ^ (k+1)→(Lib.decDigits u).length≤k+1
 | 0,u,h=>by rw [Lib.decDigits,dif_pos (by simpa using h)]; simp
 | k+1,u,h=>by
  rw [Lib.decDigits]
  split
  ·simp
  ·rw [List.length_append]
   have:=Ir k (u / 10) (by rw [Nat.div_lt_iff_lt_mul (by decide)]; rw [Nat.pow_succ] at h; exact h)
   simp; omega
def L1a (n:Int):Option Str:=if decide (-1000000000000000000 < n∧n < 1000000000000000000)=true then some (Lib.itoa n) else none
theorem N1q {n:Int}(h : -1000000000000000000 < n∧n < 1000000000000000000):(Lib.itoa n).length≤19:=by
 unfold Lib.itoa
 split
 ·have:=Ir 17 n.natAbs (by omega)
  simp; omega
 ·have:=Ir 17 n.toNat (by omega)
  omega
theorem X1n {n:Int}{res:Str}(hh:L1a n=some res):L0 C 188 [.d (.int .i64 n)] [] (fun x H'=>H'=[]∧x = .d (.str res)):=by
 obtain ⟨hs,hh⟩:=J1 hh
 cases hh
 refine L0.ofBelow (R1b Tryz.func188 rfl rfl) fun M G w vs hg hgl hl hr=>?_
 obtain ⟨h0,_⟩:=J1q hl hr (i:=0) rfl
 obtain rfl:=E1u hl.symm h0
 obtain ⟨_,_,htab⟩:=hgl.gp
 refine ⟨.string ⟨(Lib.itoa n).toArray⟩,fun _ _=>.d (.str ?_),(Tryz.strconv_Itoa n (by omega) (by omega) w htab).mono ?_⟩
 ·have:=N1q hs
  unfold maxLen; omega
 ·rintro e w' ⟨he,k,os,rfl⟩
  exact ⟨he,Lib.below_grow _ _ (Nat.le_refl _) _ _⟩
end Go.Proofs.YtdkabnfphmmmnaaGreatDoor

