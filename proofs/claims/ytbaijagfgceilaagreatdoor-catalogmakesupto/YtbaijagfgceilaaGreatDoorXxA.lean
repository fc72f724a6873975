/- A part of the proof of CatalogMakes. -/
import Derived.Test.YtbaijagfgceilaaGreatDoorProg
import Derived.Test.YtbaijagfgceilaaGreatDoorAmB
import Derived.Test.YtbaijagfgceilaaGreatDoorAmE
import Derived.KernelRfl
import Derived.Test.YtbaijagfgceilaaGreatDoorShA
import Derived.Lib.ItoaNum
import Derived.Lib.AppendIntMem
import Derived.Lib.ReplaceLaws
import Derived.Test.YtbaijagfgceilaaGreatDoorAmF
import Derived.Tactics
import Derived.Tactics2
import Derived.Defers
import Derived.Recover
import Derived.Laws.Pointers
import Derived.Lib.SmallJoins
import Derived.Lib.Atoi
import Derived.Lib.Bytealg
namespace Go.Proofs.YtbaijagfgceilaaGreatDoor
open Go.Am
def T:TT:=[
 (1,⟨.func,1,8,[.nilv .func]⟩),
 (2,⟨.int .i64,1,8,[.int .i64 0]⟩),
 (3,⟨.int .i64,1,8,[.int .i64 0]⟩),
 (4,⟨.bool,1,1,[.bool false]⟩),
 (5,⟨.int .u8,1,1,[.int .u8 0]⟩),
 (6,⟨.int .u8,1,1,[.int .u8 0]⟩),
 (7,⟨.st [(2,0,1),(3,1,1),(4,2,1),(6,3,1)],4,24,[.int .i64 0,.int .i64 0,.bool false,.int .u8 0]⟩),
 (8,⟨.st [(2,0,1),(3,1,1),(4,2,1),(6,3,1)],4,24,[.int .i64 0,.int .i64 0,.bool false,.int .u8 0]⟩),
 (9,⟨.str,1,16,[.str []]⟩),
 (10,⟨.str,1,16,[.str []]⟩),
 (11,⟨.str,1,16,[.str []]⟩),
 (12,⟨.int .u64,1,8,[.int .u64 0]⟩),
 (13,⟨.st [(9,0,1),(12,1,1)],2,24,[.str [],.int .u64 0]⟩),
 (14,⟨.st [(9,0,1),(12,1,1)],2,24,[.str [],.int .u64 0]⟩),
 (15,⟨.ptr 251,1,8,[.nilv .ptr]⟩),
 (16,⟨.ptr 254,1,8,[.nilv .ptr]⟩),
 (17,⟨.ptr 261,1,8,[.nilv .ptr]⟩),
 (18,⟨.st [(17,0,1)],1,8,[.nilv .ptr]⟩),
 (19,⟨.st [(17,0,1)],1,8,[.nilv .ptr]⟩),
 (20,⟨.iface,1,16,[.nilv .iface]⟩),
 (21,⟨.int .i32,1,4,[.int .i32 0]⟩),
 (22,⟨.func,1,8,[.nilv .func]⟩),
 (23,⟨.sl 82,1,24,[.sl []]⟩),
 (24,⟨.sl 88,1,24,[.sl []]⟩),
 (25,⟨.st [(23,0,1),(24,1,1)],2,48,[.sl [],.sl []]⟩),
 (26,⟨.st [(23,0,1),(24,1,1)],2,48,[.sl [],.sl []]⟩),
 (27,⟨.int .i64,1,8,[.int .i64 0]⟩),
 (29,⟨.func,1,8,[.nilv .func]⟩),
 (30,⟨.func,1,8,[.nilv .func]⟩),
 (31,⟨.func,1,8,[.nilv .func]⟩),
 (32,⟨.func,1,8,[.nilv .func]⟩),
 (33,⟨.func,1,8,[.nilv .func]⟩),
 (35,⟨.func,1,8,[.nilv .func]⟩),
 (37,⟨.func,1,8,[.nilv .func]⟩),
 (38,⟨.sl 9,1,24,[.sl []]⟩),
 (39,⟨.func,1,8,[.nilv .func]⟩),
 (40,⟨.func,1,8,[.nilv .func]⟩),
 (41,⟨.func,1,8,[.nilv .func]⟩),
 (42,⟨.func,1,8,[.nilv .func]⟩),
 (43,⟨.func,1,8,[.nilv .func]⟩),
 (44,⟨.func,1,8,[.nilv .func]⟩),
 (45,⟨.st [(9,0,1),(3,1,1),(3,2,1),(43,3,1),(9,4,1),(44,5,1)],6,64,[.str [],.int .i64 0,.int .i64 0,.nilv .func,.str [],.nilv .func]⟩),
 (46,⟨.st [(9,0,1),(3,1,1),(3,2,1),(43,3,1),(9,4,1),(44,5,1)],6,64,[.str [],.int .i64 0,.int .i64 0,.nilv .func,.str [],.nilv .func]⟩),
 (48,⟨.func,1,8,[.nilv .func]⟩),
 (49,⟨.func,1,8,[.nilv .func]⟩),
 (50,⟨.func,1,8,[.nilv .func]⟩),
 (51,⟨.arr 2 9,2,32,[.str [],.str []]⟩),
 (52,⟨.sl 51,1,24,[.sl []]⟩),
 (53,⟨.func,1,8,[.nilv .func]⟩),
 (55,⟨.func,1,8,[.nilv .func]⟩),
 (56,⟨.func,1,8,[.nilv .func]⟩),
 (57,⟨.func,1,8,[.nilv .func]⟩),
 (58,⟨.func,1,8,[.nilv .func]⟩),
 (59,⟨.sl 46,1,24,[.sl []]⟩),
 (60,⟨.func,1,8,[.nilv .func]⟩),
 (61,⟨.func,1,8,[.nilv .func]⟩),
 (62,⟨.func,1,8,[.nilv .func]⟩),
 (63,⟨.func,1,8,[.nilv .func]⟩),
 (64,⟨.func,1,8,[.nilv .func]⟩),
 (65,⟨.func,1,8,[.nilv .func]⟩),
 (67,⟨.func,1,8,[.nilv .func]⟩),
 (68,⟨.ptr 112,1,8,[.nilv .ptr]⟩),
 (69,⟨.func,1,8,[.nilv .func]⟩),
 (70,⟨.func,1,8,[.nilv .func]⟩),
 (71,⟨.func,1,8,[.nilv .func]⟩),
 (72,⟨.int .i64,1,8,[.int .i64 0]⟩),
 (73,⟨.int .i64,1,8,[.int .i64 0]⟩),
 (74,⟨.sl 76,1,24,[.sl []]⟩),
 (75,⟨.st [(73,0,1),(3,1,1),(3,2,1),(3,3,1),(9,4,1),(38,5,1),(74,6,1)],7,96,[.int .i64 0,.int .i64 0,.int .i64 0,.int .i64 0,.str [],.sl [],.sl []]⟩),
 (76,⟨.st [(73,0,1),(3,1,1),(3,2,1),(3,3,1),(9,4,1),(38,5,1),(74,6,1)],7,96,[.int .i64 0,.int .i64 0,.int .i64 0,.int .i64 0,.str [],.sl [],.sl []]⟩),
 (77,⟨.int .i64,1,8,[.int .i64 0]⟩),
 (78,⟨.sl 80,1,24,[.sl []]⟩),
 (79,⟨.st [(77,0,1),(3,1,1),(9,2,1),(78,3,1)],4,56,[.int .i64 0,.int .i64 0,.str [],.sl []]⟩),
 (80,⟨.st [(77,0,1),(3,1,1),(9,2,1),(78,3,1)],4,56,[.int .i64 0,.int .i64 0,.str [],.sl []]⟩),
 (81,⟨.st [(72,0,1),(9,1,1),(76,2,7),(3,9,1),(80,10,4),(23,14,1),(23,15,1),(24,16,1)],17,256,[.int .i64 0,.str [],.int .i64 0,.int .i64 0,.int .i64 0,.int .i64 0,.str [],.sl [],.sl [],.int .i64 0,.int .i64 0,.int .i64 0,.str [],.sl [],.sl [],.sl [],.sl []]⟩),
 (82,⟨.st [(72,0,1),(9,1,1),(76,2,7),(3,9,1),(80,10,4),(23,14,1),(23,15,1),(24,16,1)],17,256,[.int .i64 0,.str [],.int .i64 0,.int .i64 0,.int .i64 0,.int .i64 0,.str [],.sl [],.sl [],.int .i64 0,.int .i64 0,.int .i64 0,.str [],.sl [],.sl [],.sl [],.sl []]⟩),
 (83,⟨.func,1,8,[.nilv .func]⟩),
 (84,⟨.func,1,8,[.nilv .func]⟩),
 (85,⟨.int .i64,1,8,[.int .i64 0]⟩),
 (86,⟨.sl 3,1,24,[.sl []]⟩),
 (87,⟨.st [(85,0,1),(80,1,4),(80,5,4),(9,9,1),(78,10,1),(3,11,1),(3,12,1),(3,13,1),(86,14,1),(24,15,1),(24,16,1)],17,256,[.int .i64 0,.int .i64 0,.int .i64 0,.str [],.sl [],.int .i64 0,.int .i64 0,.str [],.sl [],.str [],.sl [],.int .i64 0,.int .i64 0,.int .i64 0,.sl [],.sl [],.sl []]⟩),
 (88,⟨.st [(85,0,1),(80,1,4),(80,5,4),(9,9,1),(78,10,1),(3,11,1),(3,12,1),(3,13,1),(86,14,1),(24,15,1),(24,16,1)],17,256,[.int .i64 0,.int .i64 0,.int .i64 0,.str [],.sl [],.int .i64 0,.int .i64 0,.str [],.sl [],.str [],.sl [],.int .i64 0,.int .i64 0,.int .i64 0,.sl [],.sl [],.sl []]⟩),
 (89,⟨.sl 123,1,24,[.sl []]⟩),
 (91,⟨.func,1,8,[.nilv .func]⟩),
 (93,⟨.func,1,8,[.nilv .func]⟩),
 (94,⟨.func,1,8,[.nilv .func]⟩),
 (95,⟨.ptr 98,1,8,[.nilv .ptr]⟩),
 (96,⟨.sl 5,1,24,[.sl []]⟩),
 (97,⟨.st [(95,0,1),(96,1,1)],2,32,[.nilv .ptr,.sl []]⟩),
 (98,⟨.st [(95,0,1),(96,1,1)],2,32,[.nilv .ptr,.sl []]⟩),
 (99,⟨.func,1,8,[.nilv .func]⟩),
 (100,⟨.iface,1,16,[.nilv .iface]⟩),
 (101,⟨.iface,1,16,[.nilv .iface]⟩),
 (103,⟨.func,1,8,[.nilv .func]⟩),
 (104,⟨.func,1,8,[.nilv .func]⟩),
 (105,⟨.func,1,8,[.nilv .func]⟩),
 (106,⟨.func,1,8,[.nilv .func]⟩),
 (108,⟨.func,1,8,[.nilv .func]⟩),
 (109,⟨.st [(3,0,1)],1,8,[.int .i64 0]⟩),
 (110,⟨.st [(3,0,1)],1,8,[.int .i64 0]⟩),
 (111,⟨.st [(89,0,1),(3,1,1),(3,2,1)],3,40,[.sl [],.int .i64 0,.int .i64 0]⟩),
 (112,⟨.st [(89,0,1),(3,1,1),(3,2,1)],3,40,[.sl [],.int .i64 0,.int .i64 0]⟩),
 (114,⟨.func,1,8,[.nilv .func]⟩),
 (115,⟨.func,1,8,[.nilv .func]⟩),
 (116,⟨.func,1,8,[.nilv .func]⟩),
 (117,⟨.ptr 154,1,8,[.nilv .ptr]⟩),
 (118,⟨.func,1,8,[.nilv .func]⟩),
 (119,⟨.func,1,8,[.nilv .func]⟩),
 (120,⟨.func,1,8,[.nilv .func]⟩),
 (121,⟨.int .i64,1,8,[.int .i64 0]⟩),
 (122,⟨.st [(121,0,1),(9,1,1),(3,2,1)],3,32,[.int .i64 0,.str [],.int .i64 0]⟩),
 (123,⟨.st [(121,0,1),(9,1,1),(3,2,1)],3,32,[.int .i64 0,.str [],.int .i64 0]⟩),
 (125,⟨.func,1,8,[.nilv .func]⟩),
 (126,⟨.func,1,8,[.nilv .func]⟩),
 (128,⟨.func,1,8,[.nilv .func]⟩),
 (129,⟨.func,1,8,[.nilv .func]⟩),
 (131,⟨.func,1,8,[.nilv .func]⟩),
 (132,⟨.func,1,8,[.nilv .func]⟩),
 (133,⟨.st [(3,0,1),(3,1,1)],2,16,[.int .i64 0,.int .i64 0]⟩),
 (134,⟨.st [(3,0,1),(3,1,1)],2,16,[.int .i64 0,.int .i64 0]⟩),
 (135,⟨.func,1,8,[.nilv .func]⟩),
 (136,⟨.func,1,8,[.nilv .func]⟩),
 (137,⟨.func,1,8,[.nilv .func]⟩),
 (138,⟨.ptr 5,1,8,[.nilv .ptr]⟩),
 (139,⟨.arr 24 5,24,24,[.int .u8 0,.int .u8 0,.int .u8 0,.int .u8 0,.int .u8 0,.int .u8 0,.int .u8 0,.int .u8 0,.int .u8 0,.int .u8 0,.int .u8 0,.int .u8 0,.int .u8 0,.int .u8 0,.int .u8 0,.int .u8 0,.int .u8 0,.int .u8 0,.int .u8 0,.int .u8 0,.int .u8 0,.int .u8 0,.int .u8 0,.int .u8 0]⟩),
 (140,⟨.int .u64,1,8,[.int .u64 0]⟩),
 (141,⟨.func,1,8,[.nilv .func]⟩),
 (142,⟨.func,1,8,[.nilv .func]⟩),
 (144,⟨.func,1,8,[.nilv .func]⟩),
 (145,⟨.func,1,8,[.nilv .func]⟩),
 (146,⟨.func,1,8,[.nilv .func]⟩),
 (147,⟨.func,1,8,[.nilv .func]⟩),
 (148,⟨.func,1,8,[.nilv .func]⟩),
 (149,⟨.func,1,8,[.nilv .func]⟩),
 (150,⟨.func,1,8,[.nilv .func]⟩),
 (152,⟨.func,1,8,[.nilv .func]⟩),
 (153,⟨.st [(3,0,1),(3,1,1),(4,2,1),(4,3,1),(4,4,1)],5,24,[.int .i64 0,.int .i64 0,.bool false,.bool false,.bool false]⟩),
 (154,⟨.st [(3,0,1),(3,1,1),(4,2,1),(4,3,1),(4,4,1)],5,24,[.int .i64 0,.int .i64 0,.bool false,.bool false,.bool false]⟩),
 (155,⟨.func,1,8,[.nilv .func]⟩),
 (156,⟨.func,1,8,[.nilv .func]⟩),
 (157,⟨.func,1,8,[.nilv .func]⟩),
 (158,⟨.func,1,8,[.nilv .func]⟩),
 (160,⟨.func,1,8,[.nilv .func]⟩),
 (162,⟨.func,1,8,[.nilv .func]⟩),
 (164,⟨.func,1,8,[.nilv .func]⟩),
 (166,⟨.func,1,8,[.nilv .func]⟩),
 (167,⟨.func,1,8,[.nilv .func]⟩),
 (168,⟨.func,1,8,[.nilv .func]⟩),
 (169,⟨.func,1,8,[.nilv .func]⟩),
 (170,⟨.func,1,8,[.nilv .func]⟩),
 (171,⟨.func,1,8,[.nilv .func]⟩),
 (172,⟨.func,1,8,[.nilv .func]⟩),
 (173,⟨.func,1,8,[.nilv .func]⟩),
 (174,⟨.func,1,8,[.nilv .func]⟩),
 (176,⟨.func,1,8,[.nilv .func]⟩),
 (177,⟨.func,1,8,[.nilv .func]⟩),
 (178,⟨.func,1,8,[.nilv .func]⟩),
 (179,⟨.func,1,8,[.nilv .func]⟩),
 (180,⟨.arr 20 140,20,160,[.int .u64 0,.int .u64 0,.int .u64 0,.int .u64 0,.int .u64 0,.int .u64 0,.int .u64 0,.int .u64 0,.int .u64 0,.int .u64 0,.int .u64 0,.int .u64 0,.int .u64 0,.int .u64 0,.int .u64 0,.int .u64 0,.int .u64 0,.int .u64 0,.int .u64 0,.int .u64 0]⟩),
 (181,⟨.int .u32,1,4,[.int .u32 0]⟩),
 (182,⟨.arr 65 5,65,65,[.int .u8 0,.int .u8 0,.int .u8 0,.int .u8 0,.int .u8 0,.int .u8 0,.int .u8 0,.int .u8 0,.int .u8 0,.int .u8 0,.int .u8 0,.int .u8 0,.int .u8 0,.int .u8 0,.int .u8 0,.int .u8 0,.int .u8 0,.int .u8 0,.int .u8 0,.int .u8 0,.int .u8 0,.int .u8 0,.int .u8 0,.int .u8 0,.int .u8 0,.int .u8 0,.int .u8 0,.int .u8 0,.int .u8 0,.int .u8 0,.int .u8 0,.int .u8 0,.int .u8 0,.int .u8 0,.int .u8 0,.int .u8 0,.int .u8 0,.int .u8 0,.int .u8 0,.int .u8 0,.int .u8 0,.int .u8 0,.int .u8 0,.int .u8 0,.int .u8 0,.int .u8 0,.int .u8 0,.int .u8 0,.int .u8 0,.int .u8 0,.int .u8 0,.int .u8 0,.int .u8 0,.int .u8 0,.int .u8 0,.int .u8 0,.int .u8 0,.int .u8 0,.int .u8 0,.int .u8 0,.int .u8 0,.int .u8 0,.int .u8 0,.int .u8 0,.int .u8 0]⟩),
 (183,⟨.int .u64,1,8,[.int .u64 0]⟩),
 (184,⟨.func,1,8,[.nilv .func]⟩),
 (186,⟨.st [(5,0,1),(5,1,1)],2,2,[.int .u8 0,.int .u8 0]⟩),
 (187,⟨.st [(5,0,1),(5,1,1)],2,2,[.int .u8 0,.int .u8 0]⟩),
 (188,⟨.arr 16 187,32,32,[.int .u8 0,.int .u8 0,.int .u8 0,.int .u8 0,.int .u8 0,.int .u8 0,.int .u8 0,.int .u8 0,.int .u8 0,.int .u8 0,.int .u8 0,.int .u8 0,.int .u8 0,.int .u8 0,.int .u8 0,.int .u8 0,.int .u8 0,.int .u8 0,.int .u8 0,.int .u8 0,.int .u8 0,.int .u8 0,.int .u8 0,.int .u8 0,.int .u8 0,.int .u8 0,.int .u8 0,.int .u8 0,.int .u8 0,.int .u8 0,.int .u8 0,.int .u8 0]⟩),
 (189,⟨.func,1,8,[.nilv .func]⟩),
 (190,⟨.func,1,8,[.nilv .func]⟩),
 (191,⟨.func,1,8,[.nilv .func]⟩),
 (192,⟨.func,1,8,[.nilv .func]⟩),
 (194,⟨.func,1,8,[.nilv .func]⟩),
 (195,⟨.func,1,8,[.nilv .func]⟩),
 (196,⟨.func,1,8,[.nilv .func]⟩),
 (197,⟨.func,1,8,[.nilv .func]⟩),
 (198,⟨.func,1,8,[.nilv .func]⟩),
 (199,⟨.st [(4,0,1),(4,1,1),(4,2,1),(4,3,1),(4,4,1),(4,5,1),(4,6,1),(4,7,1),(4,8,1)],9,9,[.bool false,.bool false,.bool false,.bool false,.bool false,.bool false,.bool false,.bool false,.bool false]⟩),
 (200,⟨.st [(4,0,1),(4,1,1),(4,2,1),(4,3,1),(4,4,1),(4,5,1),(4,6,1),(4,7,1),(4,8,1)],9,9,[.bool false,.bool false,.bool false,.bool false,.bool false,.bool false,.bool false,.bool false,.bool false]⟩),
 (202,⟨.func,1,8,[.nilv .func]⟩),
 (203,⟨.func,1,8,[.nilv .func]⟩),
 (204,⟨.func,1,8,[.nilv .func]⟩),
 (206,⟨.func,1,8,[.nilv .func]⟩),
 (208,⟨.func,1,8,[.nilv .func]⟩),
 (209,⟨.func,1,8,[.nilv .func]⟩),
 (211,⟨.func,1,8,[.nilv .func]⟩),
 (212,⟨.func,1,8,[.nilv .func]⟩),
 (213,⟨.func,1,8,[.nilv .func]⟩),
 (214,⟨.func,1,8,[.nilv .func]⟩),
 (215,⟨.func,1,8,[.nilv .func]⟩),
 (216,⟨.func,1,8,[.nilv .func]⟩),
 (218,⟨.func,1,8,[.nilv .func]⟩),
 (219,⟨.func,1,8,[.nilv .func]⟩),
 (220,⟨.func,1,8,[.nilv .func]⟩),
 (221,⟨.func,1,8,[.nilv .func]⟩),
 (222,⟨.func,1,8,[.nilv .func]⟩),
 (224,⟨.func,1,8,[.nilv .func]⟩),
 (225,⟨.func,1,8,[.nilv .func]⟩),
 (227,⟨.func,1,8,[.nilv .func]⟩),
 (228,⟨.func,1,8,[.nilv .func]⟩),
 (229,⟨.func,1,8,[.nilv .func]⟩),
 (230,⟨.arr 32 5,32,32,[.int .u8 0,.int .u8 0,.int .u8 0,.int .u8 0,.int .u8 0,.int .u8 0,.int .u8 0,.int .u8 0,.int .u8 0,.int .u8 0,.int .u8 0,.int .u8 0,.int .u8 0,.int .u8 0,.int .u8 0,.int .u8 0,.int .u8 0,.int .u8 0,.int .u8 0,.int .u8 0,.int .u8 0,.int .u8 0,.int .u8 0,.int .u8 0,.int .u8 0,.int .u8 0,.int .u8 0,.int .u8 0,.int .u8 0,.int .u8 0,.int .u8 0,.int .u8 0]⟩),
 (231,⟨.arr 64 5,64,64,[.int .u8 0,.int .u8 0,.int .u8 0,.int .u8 0,.int .u8 0,.int .u8 0,.int .u8 0,.int .u8 0,.int .u8 0,.int .u8 0,.int .u8 0,.int .u8 0,.int .u8 0,.int .u8 0,.int .u8 0,.int .u8 0,.int .u8 0,.int .u8 0,.int .u8 0,.int .u8 0,.int .u8 0,.int .u8 0,.int .u8 0,.int .u8 0,.int .u8 0,.int .u8 0,.int .u8 0,.int .u8 0,.int .u8 0,.int .u8 0,.int .u8 0,.int .u8 0,.int .u8 0,.int .u8 0,.int .u8 0,.int .u8 0,.int .u8 0,.int .u8 0,.int .u8 0,.int .u8 0,.int .u8 0,.int .u8 0,.int .u8 0,.int .u8 0,.int .u8 0,.int .u8 0,.int .u8 0,.int .u8 0,.int .u8 0,.int .u8 0,.int .u8 0,.int .u8 0,.int .u8 0,.int .u8 0,.int .u8 0,.int .u8 0,.int .u8 0,.int .u8 0,.int .u8 0,.int .u8 0,.int .u8 0,.int .u8 0,.int .u8 0,.int .u8 0]⟩),
 (232,⟨.func,1,8,[.nilv .func]⟩),
 (233,⟨.func,1,8,[.nilv .func]⟩),
 (234,⟨.int .i64,1,8,[.int .i64 0]⟩),
 (236,⟨.func,1,8,[.nilv .func]⟩),
 (237,⟨.ptr 243,1,8,[.nilv .ptr]⟩),
 (238,⟨.func,1,8,[.nilv .func]⟩),
 (239,⟨.func,1,8,[.nilv .func]⟩),
 (241,⟨.func,1,8,[.nilv .func]⟩),
 (242,⟨.st [(9,0,1),(9,1,1),(101,2,1)],3,48,[.str [],.str [],.nilv .iface]⟩),
 (243,⟨.st [(9,0,1),(9,1,1),(101,2,1)],3,48,[.str [],.str [],.nilv .iface]⟩),
 (244,⟨.func,1,8,[.nilv .func]⟩),
 (245,⟨.func,1,8,[.nilv .func]⟩),
 (246,⟨.ptr 248,1,8,[.nilv .ptr]⟩),
 (247,⟨.st [(9,0,1)],1,16,[.str []]⟩),
 (248,⟨.st [(9,0,1)],1,16,[.str []]⟩),
 (249,⟨.func,1,8,[.nilv .func]⟩),
 (250,⟨.st [(17,0,1),(17,1,1),(17,2,1),(9,3,1)],4,40,[.nilv .ptr,.nilv .ptr,.nilv .ptr,.str []]⟩),
 (251,⟨.st [(17,0,1),(17,1,1),(17,2,1),(9,3,1)],4,40,[.nilv .ptr,.nilv .ptr,.nilv .ptr,.str []]⟩),
 (255,⟨.int .u8,1,1,[.int .u8 0]⟩),
 (256,⟨.int .u8,1,1,[.int .u8 0]⟩),
 (257,⟨.func,1,8,[.nilv .func]⟩),
 (258,⟨.int .i32,1,4,[.int .i32 0]⟩),
 (259,⟨.int .i32,1,4,[.int .i32 0]⟩),
 (260,⟨.st [(12,0,1),(12,1,1),(181,2,1),(255,3,1),(5,4,1),(5,5,1),(256,6,1),(257,7,1),(138,8,1),(258,9,1),(259,10,1)],11,48,[.int .u64 0,.int .u64 0,.int .u32 0,.int .u8 0,.int .u8 0,.int .u8 0,.int .u8 0,.nilv .func,.nilv .ptr,.int .i32 0,.int .i32 0]⟩),
 (261,⟨.st [(12,0,1),(12,1,1),(181,2,1),(255,3,1),(5,4,1),(5,5,1),(256,6,1),(257,7,1),(138,8,1),(258,9,1),(259,10,1)],11,48,[.int .u64 0,.int .u64 0,.int .u32 0,.int .u8 0,.int .u8 0,.int .u8 0,.int .u8 0,.nilv .func,.nilv .ptr,.int .i32 0,.int .i32 0]⟩)]
theorem tok:TOk Tryz.prog T:=N1q _ _ (by kernel_rfl)
def Gp (M:Mem)(w:World):Prop:=(∃ m:Int,M ⟨1,0,none⟩=some (.int .i64 m))∧(∀ (j:Nat) z,Lib.pow10Tab[j]?=some z→M ⟨0,j,none⟩=some (.int .u64 z))∧Lib.TabIs Tryz.prog w "internal/strconv.uint64pow10" .u64 Lib.pow10Tab
noncomputable def C:Cx:=⟨Tryz.prog,T,[],Gp,fun {M M' w w'} hm hb h=>(by
 obtain ⟨⟨m,h0⟩,h1,h2⟩:=h
 exact ⟨⟨m,hm _ _ h0⟩,fun j z hz=>hm _ _ (h1 j z hz),E1p (by kernel_rfl) (by decide) h1 hb h2⟩)⟩
theorem follows:Tryz.prog.follows .mixedOrders=true:=by kernel_rfl
theorem hC:F3 C:=⟨tok,follows⟩
end Go.Proofs.YtbaijagfgceilaaGreatDoor

set_option linter.unusedVariables false
set_option linter.unusedSimpArgs false
namespace Go.Proofs.YtbaijagfgceilaaGreatDoor
open Go.Am
def Wp (s t:Str):Option Bool:=if decide (s.length < 4294967281)=true then some (Lib.contains s t) else none
theorem L15 {s t:Str}{a:Bool}(c:Wp s t=some a):L0 C 198 [.d (.str s),.d (.str t)] [] (fun x H'=>H'=[]∧x = .d (.bool a)):=by
 obtain ⟨hs,c⟩:=Z0 c
 cases c
 refine L0.ofBelow (Xr Tryz.func198 rfl rfl) fun M G w vs hg b hl hr=>?_
 obtain ⟨g,_⟩:=Ul hl hr (i:=0) rfl
 obtain ⟨h1,_⟩:=Ul hl hr (i:=1) rfl
 obtain rfl:=N1u hl.symm g h1
 obtain ⟨⟨m,hm⟩,_⟩:=b.gp
 refine ⟨.bool (Lib.contains s t),fun _ _=>.d .bool,(Tryz.strings_Contains ⟨s.toArray⟩ ⟨t.toArray⟩ m w (by rw [Hh]; exact hs) (hg.at hm rfl)).mono ?_⟩
 rintro e w' ⟨f,rfl⟩
 exact ⟨by simpa using f,.refl _ _⟩
theorem Ih:∀ (k u:Nat),u < 10 ^ (k+1)→(Lib.decDigits u).length≤k+1
 | 0,u,h=>by rw [Lib.decDigits,dif_pos (by simpa using h)]; simp
 | k+1,u,h=>by
  rw [Lib.decDigits]
  split
  ·simp
  ·rw [List.length_append]
   have:=Ih k (u / 10) (by rw [Nat.div_lt_iff_lt_mul (by decide)]; rw [Nat.pow_succ] at h; exact h)
   simp; omega
def Tg (n:Int):Option Str:=if decide (-1000000000000000000 < n∧n < 1000000000000000000)=true then some (Lib.itoa n) else none
theorem I1k {n:Int}(h : -1000000000000000000 < n∧n < 1000000000000000000):(Lib.itoa n).length≤19:=by
 unfold Lib.itoa
 split
 ·have:=Ih 17 n.natAbs (by omega)
  simp; omega
 ·have:=Ih 17 n.toNat (by omega)
  omega
theorem Bp {n:Int}{a:Str}(f:Tg n=some a):L0 C 19 [.d (.int .i64 n)] [] (fun x H'=>H'=[]∧x = .d (.str a)):=by
 obtain ⟨hs,f⟩:=Z0 f
 cases f
 refine L0.ofBelow (Xr Tryz.func19 rfl rfl) fun M G w vs hg c hl hr=>?_
 obtain ⟨h,_⟩:=L1j hl hr (i:=0) rfl
 obtain rfl:=X1y hl.symm h
 obtain ⟨_,_,b⟩:=c.gp
 refine ⟨.string ⟨(Lib.itoa n).toArray⟩,fun _ _=>.d (.str ?_),(Tryz.strconv_Itoa n (by omega) (by omega) w b).mono ?_⟩
 ·have:=I1k hs
  unfold maxLen; omega
 ·rintro e w' ⟨g,k,os,rfl⟩
  exact ⟨g,Lib.below_grow _ _ (Nat.le_refl _) _ _⟩
def Eb (s o n:Str):Option Str:=if decide (s.length≤1000000∧1≤o.length∧n.length≤1000000∧(Lib.replaceAll s o n).length≤1000000)=true then some (Lib.replaceAll s o n) else none
theorem B22 {vs:Array Value}{a b c:Value}(hl:vs.size=3)(d:vs[0]?=some a)(h1:vs[1]?=some b)(h2:vs[2]?=some c):vs = #[a,b,c]:=by
 apply Array.ext_getElem?
 intro i
 match i with
 | 0=>simpa using d
 | 1=>simpa using h1
 | 2=>simpa using h2
 | i+3=>rw [Array.getElem?_eq_none (by omega),Array.getElem?_eq_none (by simp)]
theorem G1d {s o n a:Str}(c:Eb s o n=some a):L0 C 20 [.d (.str s),.d (.str o),.d (.str n)] [] (fun x H'=>H'=[]∧x = .d (.str a)):=by
 obtain ⟨⟨l,g,j,q⟩,c⟩:=Z0 c
 cases c
 refine L0.ofBelow (Xr Tryz.func20 rfl rfl) fun M G w vs hg b hl hr=>?_
 obtain ⟨p,_⟩:=Ul hl hr (i:=0) rfl
 obtain ⟨h1,_⟩:=Ul hl hr (i:=1) rfl
 obtain ⟨h2,_⟩:=Ul hl hr (i:=2) rfl
 obtain rfl:=B22 hl.symm p h1 h2
 obtain ⟨⟨m,hm⟩,_⟩:=b.gp
 have hc:=Lib.countB_mul_le ⟨o.toArray⟩ (by rw [Hh]; exact g) (ByteArray.size ⟨s.toArray⟩) ⟨s.toArray⟩ (Nat.le_refl _)
 rw [Hh,Hh] at hc
 have f:Lib.countB ⟨s.toArray⟩ ⟨o.toArray⟩≤1000000:=Nat.le_trans (Nat.le_trans (Nat.le_mul_of_pos_right _ g) hc) l
 have k:Lib.countB ⟨s.toArray⟩ ⟨o.toArray⟩ * n.length≤1000000 * 1000000:=Nat.mul_le_mul f j
 refine ⟨.string ⟨(Lib.replaceAll s o n).toArray⟩,fun _ _=>.d (.str (by unfold maxLen; omega)),(Tryz.strings_ReplaceAll ⟨s.toArray⟩ ⟨o.toArray⟩ ⟨n.toArray⟩ m w (by rw [Hh]; omega) (hg.at hm rfl) (by rw [Hh]; exact g) (by rw [Hh,Hh]; omega)).mono ?_⟩
 rintro e w' ⟨h,hb⟩
 exact ⟨by simpa using h,hb⟩
def J1k (l:List Str)(s:Str):Option Str:=if decide (l.length≤1000000∧(Lib.join l s).length≤1000000)=true then some (Lib.join l s) else none
end Go.Proofs.YtbaijagfgceilaaGreatDoor

set_option maxRecDepth 100000
set_option maxHeartbeats 1000000
namespace Go.Proofs.YtbaijagfgceilaaGreatDoor
open Go.Am
theorem neC:Nonempty (F3 C):=⟨hC⟩
attribute [local instance] neC
def N3 (n:Int):Value:=.iface 110 (.agg #[.int .i64 n])
theorem K1p (va a:Value)(w:World):CallsD Tryz.prog 64 #[va,a] .returning w fun e u w'=>(∃ v,e = .returned v)∧u = .returning∧w'=w:=by
 refine callsD_of_wpS Tryz.func64 rfl fun c cs b=>?_
 apply wpS_seq
 apply wpS_region
 simp [wpOpsS,go_sem,recoverD,b,Tryz.ntmps64,Exit.thenS]
 refine wpS_of_wp ?_
 go_wp2
 cases c
 simp_all [bodyPostS,results,Tryz.results64]
noncomputable def H1d:Code:=match Tryz.f64.body with
 | some (.seq _ (.block _ (.seq _ (.cond _ _ (.seq _ (.cond _ y _))))))=>y
 | _=>.skip
theorem O1r {x1 x2 m:Int}{t1 t2:TypeId}:AEx ⟨C,⟨13,[]⟩,2,Mp,Uj⟩ H1d (fun t=>match t with | 0=>.ref 0 0 | 1=>.ref 1 0 | 10=>.agg [.d (.int .i64 m)] | _=>.junk) [.row [.d (.int .i64 x1)] t1,.row [.d (.int .i64 x2)] t2]
  (fun x _ h=>x = .normal∧h=[.row [.d (.int .i64 m)] t1,.row [.d (.int .i64 6)] t2,.row [.d (.int .i64 m)] 110]):=by
 unfold H1d
 refine s' rfl rfl (E0.n hC rfl (E0.s hC rfl (n' ?_)))
 refine P' 2 rfl (E0.s hC rfl (E0.s hC rfl (n' ⟨rfl,rfl⟩)))
theorem D1z (m:Int)(w:World):(Instr.typeAssert (.iface 110 (.agg #[.int .i64 m])) 20 110 true).run Tryz.prog w = .ok (.tuple #[.agg #[.int .i64 m],.bool true]) w:=by kernel_rfl
theorem P1r {M:Mem}{G:Nat→Value}{w:World}{x1 x2 m:Int}{t1 t2:TypeId}{va n:Value}(hm:InK .i64 m)(hg:Am.Good M w)(k:Sr C M w)(J:W9 M G w [.row [.d (.int .i64 x1)] t1,.row [.d (.int .i64 x2)] t2])(z:L1 M G (.ref 0 0) va)(E:L1 M G (.ref 1 0) n)(a:Act)(R:a.tmps.size=13)(O:a.defers=[])
  (D:a.tmps.getD 0 undef=va) (K:a.tmps.getD 1 undef=n) (q:a.tmps.getD 10 undef = .agg #[.int .i64 m]) {Q:Exit→Act→World→Prop}
  (S:∀ g w' v,g.defers=[]→(results Tryz.f64 g.tmps).run Tryz.prog w' = .ok v w'→An M G w [.row [.d (.int .i64 x1)] t1,.row [.d (.int .i64 x2)] t2] (fun _ h=>h=[.row [.d (.int .i64 m)] t1,.row [.d (.int .i64 6)] t2]) (.returned v) w'→Q .normal g w'):H1d.wp Tryz.prog Q a w:=by
 have hs:St C ⟨13,[]⟩ M G w (fun t=>match t with | 0=>.ref 0 0 | 1=>.ref 1 0 | 10=>.agg [.d (.int .i64 m)] | _=>.junk) [.row [.d (.int .i64 x1)] t1,.row [.d (.int .i64 x2)] t2] a:=by
  refine ⟨hg,k,J,fun t=>?_,R,O⟩
  split
  ·rw [D]; exact z
  ·rw [K]; exact E
  ·rw [q]
   refine .agg rfl (fun i v hv=>?_) fun i x v c hv=>?_
   ·match i,hv with
    | 0,hv=>cases hv; rfl
    | i+1,hv=>simp at hv
   ·match i,c,hv with
    | 0,c,hv=>cases c; cases hv; exact .d (.int hm)
    | i+1,c,_=>simp at c
  ·exact .junk
 have l:Q2 ⟨[.row [.d (.int .i64 x1)] t1,.row [.d (.int .i64 x2)] t2],G,M,w⟩ M G w [.row [.d (.int .i64 x1)] t1,.row [.d (.int .i64 x2)] t2]:=⟨Ext.refl _ _ _,fun b hb=>.inl hb,Nat.le_refl _,fun _ _ _ _=>rfl,fun o x y c ht p=>by rw [c] at p; exact Option.some.inj p ▸ ht⟩
 refine wp_mono (P:=C.P) (O1r (x1:=x1) (x2:=x2) (m:=m) (t1:=t1) (t2:=t2) ⟨_,G,M,w⟩ M G w _ rfl hs l) fun e g w' s=>?_
 rcases s with ⟨x,env',H',M',G',rfl,⟨rfl,rfl⟩,f,j⟩ | ⟨_,_,_,_,_,_,h,_⟩ | ⟨_,h⟩
 ·obtain ⟨v,h1,h2⟩:=Ct (F:=⟨C,⟨13,[]⟩,2,Mp,Uj⟩) (fn:=Tryz.f64) (Q:=fun _ h=>h=[.row [.d (.int .i64 m)] t1,.row [.d (.int .i64 6)] t2]) hC rfl f j (x:=.normal) (by
   obtain ⟨L,r,H2,B,T,A,N,u,I,U⟩:=rn' (F:=⟨C,⟨13,[]⟩,2,Mp,Uj⟩) (rs:=Tryz.f64.results.toList) (x:=.tup []) (env:=env') (H:=[.row [.d (.int .i64 m)] t1,.row [.d (.int .i64 6)] t2,.row [.d (.int .i64 m)] 110]) (H':=[.row [.d (.int .i64 m)] t1,.row [.d (.int .i64 6)] t2]) rfl rfl rfl
   exact ⟨L,r,H2,B,T,A,N,u,I⟩)
  exact S g w' v f.defers h1 h2
 ·exact h.elim
 ·exact h.elim
theorem Q1r (x1:Int)(t1:TypeId)(x2:Int)(t2:TypeId)(m:Int)(hm:InK .i64 m):M1w C 64 [.ref 0 0,.ref 1 0] [.row [.d (.int .i64 x1)] t1,.row [.d (.int .i64 x2)] t2] (.panicking [{ v:=N3 m,recovered:=false }]) (.panicking [{ v:=N3 m,recovered:=true }]) [.row [.d (.int .i64 m)] t1,.row [.d (.int .i64 6)] t2]:=by
 refine ⟨Xr Tryz.func64 rfl rfl,fun M G w vs hg b j hl hr=>?_⟩
 have hb:Tryz.f64.body=some (.seq _ (.block 0 (.seq _ (.cond (.tmp 7) _ (.seq _ (.cond (.tmp 9) H1d _)))))):=rfl
 obtain ⟨va,a,rfl⟩:∃ va a,vs = #[va,a]:=by
  refine ⟨vs[0]!,vs[1]!,?_⟩
  apply Array.ext
  ·rw [← hl]; rfl
  ·intro i h1 h2
   match i,h2 with
   | 0,_=>simp [← hl]
   | 1,_=>simp [← hl]
 have k:=hr 0 _ va rfl rfl
 have h:=hr 1 _ a rfl rfl
 refine callsD_of_wpS (P:=Tryz.prog) Tryz.func64 hb fun n cs f=>?_
 apply wpS_seq
 apply wpS_region
 simp [wpOpsS,go_sem,recoverD,f,Tryz.ntmps64,Exit.thenS]
 refine wpS_of_wp ?_
 unfold N3
 go_wp2
 simp [Oper.upon,D1z]
 go_wp2
 refine P1r hm hg b j k h _ ?_ rfl ?_ ?_ ?_ fun l w' v g c e=>⟨g,_,rfl,v,c,rfl,e⟩
 ·simp
 ·simp
 ·simp
 ·simp
def Rz (s:Str)(c:Int):Option Int:=some (Lib.indexByte s c.toNat.toUInt8)
theorem N17 (c:UInt8):∀ l:List UInt8,Lib.indexByte l c≤l.length
 | []=>by simp [Lib.indexByte]
 | b::l=>by
  have:=N17 c l
  simp only [Lib.indexByte,List.length_cons]
  split
  ·omega
  ·split <;> omega
theorem E1f {s:Str}{c:Int}{a:Int}(g:Rz s c=some a):L0 C 199 [.d (.str s),.d (.int .u8 c)] [] (fun x H'=>H'=[]∧x = .d (.int .i64 a)):=by
 cases g
 refine L0.ofBelow (Xr Tryz.func199 rfl rfl) fun M G w vs hg f hl hr=>?_
 obtain ⟨h,hm⟩:=Ul hl hr (i:=0) rfl
 obtain ⟨h1,_⟩:=L1j hl hr (i:=1) rfl
 obtain rfl:=N1u hl.symm h h1
 refine ⟨.int .i64 (Lib.indexByte s c.toNat.toUInt8),fun _ _=>.d (.int ?_),(Tryz.strings_IndexByte ⟨s.toArray⟩ c w).mono ?_⟩
 ·have h1:=N17 c.toNat.toUInt8 s
  have h2:=Lib.indexByte_ge s c.toNat.toUInt8
  unfold maxLen at hm
  rw [C19]
  omega
 ·rintro e w' ⟨b,rfl⟩
  exact ⟨by simpa using b,.refl _ _⟩
def O17 (s:Str):Option Int:=if decide (s.length≤18)=true then Lib.atoi s else none
theorem I1d:∀ (l:List UInt8) (a n k:Nat),Lib.decFrom a l=some n→a < 10 ^ k→n < 10 ^ (k+l.length)
 | [],a,n,k,h,ha=>by cases h; simpa using ha
 | b::l,a,n,k,h,ha=>by
  unfold Lib.decFrom at h
  cases hd:Lib.digitVal b with
  | none=>rw [hd] at h; cases h
  | some d=>
   rw [hd] at h
   have c:d < 10:=by
    unfold Lib.digitVal at hd
    split at hd
    ·cases hd; omega
    ·cases hd
   have:=I1d l _ n (k+1) h (by rw [Nat.pow_succ]; omega)
   rw [List.length_cons,show k+(l.length+1)=k+1+l.length by omega]
   exact this
theorem R1r {s:Str}{c:Int}(a:O17 s=some c):L0 C 221 [.d (.str s)] [] (fun x H'=>H'=[]∧x = .tup [.d (.int .i64 c),.d (.nilv .iface)]):=by
 obtain ⟨hs,a⟩:=Z0 a
 refine L0.ofBelow (Xr Tryz.func221 rfl rfl) fun M G w vs hg k hl hr=>?_
 obtain ⟨m,_⟩:=Ul hl hr (i:=0) rfl
 obtain rfl:=X1y hl.symm m
 have hb : -1000000000000000000 < c∧c < 1000000000000000000:=by
  have f:∀ (l:List UInt8) (n:Nat),l.length≤18→Lib.decNat l=some n→n < 1000000000000000000:=fun l n h1 h2=>by
   unfold Lib.decNat at h2
   cases l with
   | nil=>cases h2
   | cons b l=>
    have:=I1d (b::l) 0 n 0 h2 (by decide)
    have o:10 ^ (0+(b::l).length)≤10 ^ 18:=Nat.pow_le_pow_right (by decide) (by omega)
    omega
  cases s with
  | nil=>cases a
  | cons b r=>
   have h:r.length≤18:=by simp only [List.length_cons] at hs; omega
   unfold Lib.atoi at a
   simp only at a
   split at a
   ·cases hd:Lib.decNat r with
    | none=>rw [hd] at a; cases a
    | some n=>rw [hd] at a; cases a; have:=f r n h hd; simp only; omega
   ·split at a
    ·cases hd:Lib.decNat r with
     | none=>rw [hd] at a; cases a
     | some n=>rw [hd] at a; cases a; have:=f r n h hd; simp only; omega
    ·cases hd:Lib.decNat (b::r) with
     | none=>rw [hd] at a; cases a
     | some n=>rw [hd] at a; cases a; have:=f _ n hs hd; simp only; omega
 refine ⟨.tuple #[.int .i64 c,.nilIface],fun _ _=>.tup rfl fun i x v g hv=>?_,(Tryz.strconv_Atoi ⟨s.toArray⟩ c (by rw [Hh]; exact hs) a w).mono ?_⟩
 ·match i,g,hv with
  | 0,g,hv=>cases g; cases hv; exact .d (.int (by rw [C19]; omega))
  | 1,g,hv=>cases g; cases hv; exact .d .niliface
  | i+2,g,_=>simp at g
 ·rintro e w' ⟨j,t,rfl⟩
  exact ⟨j,Joins.below_bytesWorld _ _ _ _ (Nat.le_refl _)⟩
end Go.Proofs.YtbaijagfgceilaaGreatDoor

