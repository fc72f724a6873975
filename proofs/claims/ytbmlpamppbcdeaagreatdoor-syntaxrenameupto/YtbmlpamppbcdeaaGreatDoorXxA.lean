/- A part of the proof of SyntaxRename. -/
import Derived.Test.YtbmlpamppbcdeaaGreatDoorProg
import Derived.Test.YtbmlpamppbcdeaaGreatDoorAmB
import Derived.Test.YtbmlpamppbcdeaaGreatDoorAmE
import Derived.KernelRfl
import Derived.Test.YtbmlpamppbcdeaaGreatDoorShA
import Derived.Shelf.Strings.Builder1
import Derived.ProofKit
import Derived.Shelf.RegionOpenPlain
import Derived.Lib.ItoaNum
import Derived.Lib.AppendIntMem
namespace Go.Proofs.YtbmlpamppbcdeaaGreatDoor
open Go.Am
def T:TT:=[
 (1,⟨.func,1,8,[.nilv .func]⟩),
 (2,⟨.int .i64,1,8,[.int .i64 0]⟩),
 (3,⟨.int .i64,1,8,[.int .i64 0]⟩),
 (4,⟨.bool,1,1,[.bool false]⟩),
 (5,⟨.int .u8,1,1,[.int .u8 0]⟩),
 (6,⟨.int .u8,1,1,[.int .u8 0]⟩),
 (7,⟨.st [(2,0,1),(3,1,1),(4,2,1),(6,3,1)],4,24,[.int .i64 0,.int .i64 0,.bool false,.int .u8 0]⟩),
 (8,⟨.st [(2,0,1),(3,1,1),(4,2,1),(6,3,1)],4,24,[.int .i64 0,.int .i64 0,.bool false,.int .u8 0]⟩),
 (9,⟨.str,1,16,[.str []]⟩),
 (10,⟨.str,1,16,[.str []]⟩),
 (11,⟨.str,1,16,[.str []]⟩),
 (12,⟨.int .u64,1,8,[.int .u64 0]⟩),
 (13,⟨.st [(9,0,1),(12,1,1)],2,24,[.str [],.int .u64 0]⟩),
 (14,⟨.st [(9,0,1),(12,1,1)],2,24,[.str [],.int .u64 0]⟩),
 (15,⟨.ptr 307,1,8,[.nilv .ptr]⟩),
 (16,⟨.ptr 310,1,8,[.nilv .ptr]⟩),
 (17,⟨.ptr 317,1,8,[.nilv .ptr]⟩),
 (18,⟨.st [(17,0,1)],1,8,[.nilv .ptr]⟩),
 (19,⟨.st [(17,0,1)],1,8,[.nilv .ptr]⟩),
 (20,⟨.iface,1,16,[.nilv .iface]⟩),
 (21,⟨.int .i32,1,4,[.int .i32 0]⟩),
 (22,⟨.sl 75,1,24,[.sl []]⟩),
 (23,⟨.sl 79,1,24,[.sl []]⟩),
 (24,⟨.st [(22,0,1),(23,1,1)],2,48,[.sl [],.sl []]⟩),
 (25,⟨.st [(22,0,1),(23,1,1)],2,48,[.sl [],.sl []]⟩),
 (26,⟨.func,1,8,[.nilv .func]⟩),
 (27,⟨.func,1,8,[.nilv .func]⟩),
 (28,⟨.sl 9,1,24,[.sl []]⟩),
 (29,⟨.int .i64,1,8,[.int .i64 0]⟩),
 (31,⟨.func,1,8,[.nilv .func]⟩),
 (32,⟨.func,1,8,[.nilv .func]⟩),
 (34,⟨.func,1,8,[.nilv .func]⟩),
 (35,⟨.func,1,8,[.nilv .func]⟩),
 (36,⟨.func,1,8,[.nilv .func]⟩),
 (37,⟨.int .i64,1,8,[.int .i64 0]⟩),
 (38,⟨.sl 40,1,24,[.sl []]⟩),
 (39,⟨.st [(37,0,1),(3,1,1),(9,2,1),(38,3,1)],4,56,[.int .i64 0,.int .i64 0,.str [],.sl []]⟩),
 (40,⟨.st [(37,0,1),(3,1,1),(9,2,1),(38,3,1)],4,56,[.int .i64 0,.int .i64 0,.str [],.sl []]⟩),
 (42,⟨.func,1,8,[.nilv .func]⟩),
 (43,⟨.func,1,8,[.nilv .func]⟩),
 (44,⟨.func,1,8,[.nilv .func]⟩),
 (45,⟨.int .i64,1,8,[.int .i64 0]⟩),
 (46,⟨.sl 48,1,24,[.sl []]⟩),
 (47,⟨.st [(45,0,1),(3,1,1),(3,2,1),(3,3,1),(9,4,1),(28,5,1),(46,6,1)],7,96,[.int .i64 0,.int .i64 0,.int .i64 0,.int .i64 0,.str [],.sl [],.sl []]⟩),
 (48,⟨.st [(45,0,1),(3,1,1),(3,2,1),(3,3,1),(9,4,1),(28,5,1),(46,6,1)],7,96,[.int .i64 0,.int .i64 0,.int .i64 0,.int .i64 0,.str [],.sl [],.sl []]⟩),
 (50,⟨.func,1,8,[.nilv .func]⟩),
 (51,⟨.func,1,8,[.nilv .func]⟩),
 (52,⟨.func,1,8,[.nilv .func]⟩),
 (54,⟨.func,1,8,[.nilv .func]⟩),
 (55,⟨.func,1,8,[.nilv .func]⟩),
 (56,⟨.func,1,8,[.nilv .func]⟩),
 (57,⟨.func,1,8,[.nilv .func]⟩),
 (59,⟨.func,1,8,[.nilv .func]⟩),
 (60,⟨.func,1,8,[.nilv .func]⟩),
 (61,⟨.sl 5,1,24,[.sl []]⟩),
 (62,⟨.sl 67,1,24,[.sl []]⟩),
 (64,⟨.func,1,8,[.nilv .func]⟩),
 (65,⟨.int .i64,1,8,[.int .i64 0]⟩),
 (66,⟨.st [(65,0,1),(9,1,1),(3,2,1)],3,32,[.int .i64 0,.str [],.int .i64 0]⟩),
 (67,⟨.st [(65,0,1),(9,1,1),(3,2,1)],3,32,[.int .i64 0,.str [],.int .i64 0]⟩),
 (68,⟨.func,1,8,[.nilv .func]⟩),
 (69,⟨.func,1,8,[.nilv .func]⟩),
 (70,⟨.func,1,8,[.nilv .func]⟩),
 (71,⟨.func,1,8,[.nilv .func]⟩),
 (72,⟨.func,1,8,[.nilv .func]⟩),
 (73,⟨.int .i64,1,8,[.int .i64 0]⟩),
 (74,⟨.st [(73,0,1),(9,1,1),(48,2,7),(3,9,1),(40,10,4),(22,14,1),(22,15,1),(23,16,1)],17,256,[.int .i64 0,.str [],.int .i64 0,.int .i64 0,.int .i64 0,.int .i64 0,.str [],.sl [],.sl [],.int .i64 0,.int .i64 0,.int .i64 0,.str [],.sl [],.sl [],.sl [],.sl []]⟩),
 (75,⟨.st [(73,0,1),(9,1,1),(48,2,7),(3,9,1),(40,10,4),(22,14,1),(22,15,1),(23,16,1)],17,256,[.int .i64 0,.str [],.int .i64 0,.int .i64 0,.int .i64 0,.int .i64 0,.str [],.sl [],.sl [],.int .i64 0,.int .i64 0,.int .i64 0,.str [],.sl [],.sl [],.sl [],.sl []]⟩),
 (76,⟨.int .i64,1,8,[.int .i64 0]⟩),
 (77,⟨.sl 3,1,24,[.sl []]⟩),
 (78,⟨.st [(76,0,1),(40,1,4),(40,5,4),(9,9,1),(38,10,1),(3,11,1),(3,12,1),(3,13,1),(77,14,1),(23,15,1),(23,16,1)],17,256,[.int .i64 0,.int .i64 0,.int .i64 0,.str [],.sl [],.int .i64 0,.int .i64 0,.str [],.sl [],.str [],.sl [],.int .i64 0,.int .i64 0,.int .i64 0,.sl [],.sl [],.sl []]⟩),
 (79,⟨.st [(76,0,1),(40,1,4),(40,5,4),(9,9,1),(38,10,1),(3,11,1),(3,12,1),(3,13,1),(77,14,1),(23,15,1),(23,16,1)],17,256,[.int .i64 0,.int .i64 0,.int .i64 0,.str [],.sl [],.int .i64 0,.int .i64 0,.str [],.sl [],.str [],.sl [],.int .i64 0,.int .i64 0,.int .i64 0,.sl [],.sl [],.sl []]⟩),
 (81,⟨.func,1,8,[.nilv .func]⟩),
 (82,⟨.func,1,8,[.nilv .func]⟩),
 (83,⟨.func,1,8,[.nilv .func]⟩),
 (84,⟨.func,1,8,[.nilv .func]⟩),
 (85,⟨.func,1,8,[.nilv .func]⟩),
 (86,⟨.func,1,8,[.nilv .func]⟩),
 (87,⟨.func,1,8,[.nilv .func]⟩),
 (88,⟨.func,1,8,[.nilv .func]⟩),
 (89,⟨.func,1,8,[.nilv .func]⟩),
 (90,⟨.func,1,8,[.nilv .func]⟩),
 (91,⟨.st [(90,0,1)],1,8,[.nilv .func]⟩),
 (92,⟨.st [(90,0,1)],1,8,[.nilv .func]⟩),
 (93,⟨.func,1,8,[.nilv .func]⟩),
 (94,⟨.func,1,8,[.nilv .func]⟩),
 (95,⟨.func,1,8,[.nilv .func]⟩),
 (96,⟨.func,1,8,[.nilv .func]⟩),
 (97,⟨.func,1,8,[.nilv .func]⟩),
 (98,⟨.func,1,8,[.nilv .func]⟩),
 (99,⟨.func,1,8,[.nilv .func]⟩),
 (100,⟨.func,1,8,[.nilv .func]⟩),
 (101,⟨.func,1,8,[.nilv .func]⟩),
 (102,⟨.ptr 170,1,8,[.nilv .ptr]⟩),
 (103,⟨.func,1,8,[.nilv .func]⟩),
 (104,⟨.func,1,8,[.nilv .func]⟩),
 (106,⟨.func,1,8,[.nilv .func]⟩),
 (107,⟨.func,1,8,[.nilv .func]⟩),
 (108,⟨.func,1,8,[.nilv .func]⟩),
 (109,⟨.func,1,8,[.nilv .func]⟩),
 (111,⟨.func,1,8,[.nilv .func]⟩),
 (112,⟨.func,1,8,[.nilv .func]⟩),
 (113,⟨.func,1,8,[.nilv .func]⟩),
 (114,⟨.func,1,8,[.nilv .func]⟩),
 (115,⟨.func,1,8,[.nilv .func]⟩),
 (116,⟨.func,1,8,[.nilv .func]⟩),
 (117,⟨.func,1,8,[.nilv .func]⟩),
 (119,⟨.func,1,8,[.nilv .func]⟩),
 (120,⟨.func,1,8,[.nilv .func]⟩),
 (121,⟨.func,1,8,[.nilv .func]⟩),
 (123,⟨.func,1,8,[.nilv .func]⟩),
 (124,⟨.ptr 129,1,8,[.nilv .ptr]⟩),
 (125,⟨.ptr 127,1,8,[.nilv .ptr]⟩),
 (126,⟨.st [(125,0,1),(61,1,1)],2,32,[.nilv .ptr,.sl []]⟩),
 (127,⟨.st [(125,0,1),(61,1,1)],2,32,[.nilv .ptr,.sl []]⟩),
 (128,⟨.st [(127,0,2)],2,32,[.nilv .ptr,.sl []]⟩),
 (129,⟨.st [(127,0,2)],2,32,[.nilv .ptr,.sl []]⟩),
 (130,⟨.func,1,8,[.nilv .func]⟩),
 (131,⟨.func,1,8,[.nilv .func]⟩),
 (132,⟨.func,1,8,[.nilv .func]⟩),
 (133,⟨.iface,1,16,[.nilv .iface]⟩),
 (134,⟨.iface,1,16,[.nilv .iface]⟩),
 (136,⟨.func,1,8,[.nilv .func]⟩),
 (137,⟨.func,1,8,[.nilv .func]⟩),
 (138,⟨.ptr 142,1,8,[.nilv .ptr]⟩),
 (139,⟨.func,1,8,[.nilv .func]⟩),
 (140,⟨.func,1,8,[.nilv .func]⟩),
 (141,⟨.st [(3,0,1),(3,1,1),(4,2,1),(4,3,1),(4,4,1)],5,24,[.int .i64 0,.int .i64 0,.bool false,.bool false,.bool false]⟩),
 (142,⟨.st [(3,0,1),(3,1,1),(4,2,1),(4,3,1),(4,4,1)],5,24,[.int .i64 0,.int .i64 0,.bool false,.bool false,.bool false]⟩),
 (143,⟨.func,1,8,[.nilv .func]⟩),
 (144,⟨.map 9 4,1,8,[.nilv .map]⟩),
 (145,⟨.func,1,8,[.nilv .func]⟩),
 (146,⟨.func,1,8,[.nilv .func]⟩),
 (147,⟨.st [(3,0,1),(3,1,1)],2,16,[.int .i64 0,.int .i64 0]⟩),
 (148,⟨.st [(3,0,1),(3,1,1)],2,16,[.int .i64 0,.int .i64 0]⟩),
 (149,⟨.func,1,8,[.nilv .func]⟩),
 (150,⟨.func,1,8,[.nilv .func]⟩),
 (151,⟨.func,1,8,[.nilv .func]⟩),
 (152,⟨.func,1,8,[.nilv .func]⟩),
 (153,⟨.func,1,8,[.nilv .func]⟩),
 (154,⟨.func,1,8,[.nilv .func]⟩),
 (155,⟨.func,1,8,[.nilv .func]⟩),
 (156,⟨.func,1,8,[.nilv .func]⟩),
 (157,⟨.func,1,8,[.nilv .func]⟩),
 (158,⟨.st [(4,0,1),(4,1,1),(4,2,1),(4,3,1),(4,4,1),(4,5,1),(4,6,1),(4,7,1),(4,8,1)],9,9,[.bool false,.bool false,.bool false,.bool false,.bool false,.bool false,.bool false,.bool false,.bool false]⟩),
 (159,⟨.st [(4,0,1),(4,1,1),(4,2,1),(4,3,1),(4,4,1),(4,5,1),(4,6,1),(4,7,1),(4,8,1)],9,9,[.bool false,.bool false,.bool false,.bool false,.bool false,.bool false,.bool false,.bool false,.bool false]⟩),
 (161,⟨.func,1,8,[.nilv .func]⟩),
 (162,⟨.func,1,8,[.nilv .func]⟩),
 (163,⟨.func,1,8,[.nilv .func]⟩),
 (164,⟨.func,1,8,[.nilv .func]⟩),
 (165,⟨.func,1,8,[.nilv .func]⟩),
 (166,⟨.func,1,8,[.nilv .func]⟩),
 (167,⟨.st [(3,0,1)],1,8,[.int .i64 0]⟩),
 (168,⟨.st [(3,0,1)],1,8,[.int .i64 0]⟩),
 (169,⟨.st [(62,0,1),(3,1,1),(3,2,1)],3,40,[.sl [],.int .i64 0,.int .i64 0]⟩),
 (170,⟨.st [(62,0,1),(3,1,1),(3,2,1)],3,40,[.sl [],.int .i64 0,.int .i64 0]⟩),
 (171,⟨.func,1,8,[.nilv .func]⟩),
 (172,⟨.func,1,8,[.nilv .func]⟩),
 (173,⟨.func,1,8,[.nilv .func]⟩),
 (174,⟨.func,1,8,[.nilv .func]⟩),
 (175,⟨.func,1,8,[.nilv .func]⟩),
 (176,⟨.func,1,8,[.nilv .func]⟩),
 (177,⟨.func,1,8,[.nilv .func]⟩),
 (178,⟨.func,1,8,[.nilv .func]⟩),
 (180,⟨.func,1,8,[.nilv .func]⟩),
 (182,⟨.func,1,8,[.nilv .func]⟩),
 (183,⟨.func,1,8,[.nilv .func]⟩),
 (184,⟨.func,1,8,[.nilv .func]⟩),
 (185,⟨.func,1,8,[.nilv .func]⟩),
 (186,⟨.func,1,8,[.nilv .func]⟩),
 (187,⟨.func,1,8,[.nilv .func]⟩),
 (188,⟨.func,1,8,[.nilv .func]⟩),
 (190,⟨.func,1,8,[.nilv .func]⟩),
 (191,⟨.func,1,8,[.nilv .func]⟩),
 (192,⟨.func,1,8,[.nilv .func]⟩),
 (194,⟨.func,1,8,[.nilv .func]⟩),
 (196,⟨.func,1,8,[.nilv .func]⟩),
 (197,⟨.func,1,8,[.nilv .func]⟩),
 (198,⟨.func,1,8,[.nilv .func]⟩),
 (199,⟨.func,1,8,[.nilv .func]⟩),
 (200,⟨.func,1,8,[.nilv .func]⟩),
 (201,⟨.func,1,8,[.nilv .func]⟩),
 (202,⟨.func,1,8,[.nilv .func]⟩),
 (203,⟨.func,1,8,[.nilv .func]⟩),
 (204,⟨.func,1,8,[.nilv .func]⟩),
 (205,⟨.func,1,8,[.nilv .func]⟩),
 (206,⟨.func,1,8,[.nilv .func]⟩),
 (207,⟨.func,1,8,[.nilv .func]⟩),
 (208,⟨.func,1,8,[.nilv .func]⟩),
 (209,⟨.func,1,8,[.nilv .func]⟩),
 (210,⟨.func,1,8,[.nilv .func]⟩),
 (211,⟨.func,1,8,[.nilv .func]⟩),
 (212,⟨.int .u64,1,8,[.int .u64 0]⟩),
 (213,⟨.func,1,8,[.nilv .func]⟩),
 (214,⟨.func,1,8,[.nilv .func]⟩),
 (215,⟨.func,1,8,[.nilv .func]⟩),
 (216,⟨.func,1,8,[.nilv .func]⟩),
 (217,⟨.func,1,8,[.nilv .func]⟩),
 (218,⟨.func,1,8,[.nilv .func]⟩),
 (219,⟨.func,1,8,[.nilv .func]⟩),
 (220,⟨.func,1,8,[.nilv .func]⟩),
 (221,⟨.func,1,8,[.nilv .func]⟩),
 (223,⟨.func,1,8,[.nilv .func]⟩),
 (224,⟨.func,1,8,[.nilv .func]⟩),
 (225,⟨.func,1,8,[.nilv .func]⟩),
 (226,⟨.func,1,8,[.nilv .func]⟩),
 (227,⟨.func,1,8,[.nilv .func]⟩),
 (228,⟨.func,1,8,[.nilv .func]⟩),
 (229,⟨.func,1,8,[.nilv .func]⟩),
 (230,⟨.func,1,8,[.nilv .func]⟩),
 (232,⟨.func,1,8,[.nilv .func]⟩),
 (234,⟨.func,1,8,[.nilv .func]⟩),
 (235,⟨.func,1,8,[.nilv .func]⟩),
 (236,⟨.arr 13 9,13,208,[.str [],.str [],.str [],.str [],.str [],.str [],.str [],.str [],.str [],.str [],.str [],.str [],.str []]⟩),
 (237,⟨.ptr 5,1,8,[.nilv .ptr]⟩),
 (239,⟨.func,1,8,[.nilv .func]⟩),
 (241,⟨.func,1,8,[.nilv .func]⟩),
 (242,⟨.func,1,8,[.nilv .func]⟩),
 (243,⟨.func,1,8,[.nilv .func]⟩),
 (244,⟨.func,1,8,[.nilv .func]⟩),
 (245,⟨.int .i64,1,8,[.int .i64 0]⟩),
 (247,⟨.func,1,8,[.nilv .func]⟩),
 (248,⟨.func,1,8,[.nilv .func]⟩),
 (249,⟨.func,1,8,[.nilv .func]⟩),
 (251,⟨.func,1,8,[.nilv .func]⟩),
 (252,⟨.func,1,8,[.nilv .func]⟩),
 (253,⟨.int .u32,1,4,[.int .u32 0]⟩),
 (254,⟨.func,1,8,[.nilv .func]⟩),
 (255,⟨.int .u64,1,8,[.int .u64 0]⟩),
 (256,⟨.func,1,8,[.nilv .func]⟩),
 (257,⟨.func,1,8,[.nilv .func]⟩),
 (259,⟨.func,1,8,[.nilv .func]⟩),
 (260,⟨.func,1,8,[.nilv .func]⟩),
 (261,⟨.func,1,8,[.nilv .func]⟩),
 (262,⟨.func,1,8,[.nilv .func]⟩),
 (263,⟨.int .u64,1,8,[.int .u64 0]⟩),
 (264,⟨.func,1,8,[.nilv .func]⟩),
 (265,⟨.func,1,8,[.nilv .func]⟩),
 (266,⟨.func,1,8,[.nilv .func]⟩),
 (267,⟨.ptr 3,1,8,[.nilv .ptr]⟩),
 (268,⟨.func,1,8,[.nilv .func]⟩),
 (269,⟨.func,1,8,[.nilv .func]⟩),
 (270,⟨.func,1,8,[.nilv .func]⟩),
 (271,⟨.func,1,8,[.nilv .func]⟩),
 (273,⟨.func,1,8,[.nilv .func]⟩),
 (274,⟨.arr 24 5,24,24,[.int .u8 0,.int .u8 0,.int .u8 0,.int .u8 0,.int .u8 0,.int .u8 0,.int .u8 0,.int .u8 0,.int .u8 0,.int .u8 0,.int .u8 0,.int .u8 0,.int .u8 0,.int .u8 0,.int .u8 0,.int .u8 0,.int .u8 0,.int .u8 0,.int .u8 0,.int .u8 0,.int .u8 0,.int .u8 0,.int .u8 0,.int .u8 0]⟩),
 (275,⟨.func,1,8,[.nilv .func]⟩),
 (277,⟨.func,1,8,[.nilv .func]⟩),
 (278,⟨.func,1,8,[.nilv .func]⟩),
 (279,⟨.ptr 263,1,8,[.nilv .ptr]⟩),
 (281,⟨.func,1,8,[.nilv .func]⟩),
 (282,⟨.int .i64,1,8,[.int .i64 0]⟩),
 (284,⟨.func,1,8,[.nilv .func]⟩),
 (285,⟨.ptr 295,1,8,[.nilv .ptr]⟩),
 (286,⟨.func,1,8,[.nilv .func]⟩),
 (287,⟨.func,1,8,[.nilv .func]⟩),
 (288,⟨.func,1,8,[.nilv .func]⟩),
 (289,⟨.func,1,8,[.nilv .func]⟩),
 (290,⟨.arr 20 255,20,160,[.int .u64 0,.int .u64 0,.int .u64 0,.int .u64 0,.int .u64 0,.int .u64 0,.int .u64 0,.int .u64 0,.int .u64 0,.int .u64 0,.int .u64 0,.int .u64 0,.int .u64 0,.int .u64 0,.int .u64 0,.int .u64 0,.int .u64 0,.int .u64 0,.int .u64 0,.int .u64 0]⟩),
 (291,⟨.arr 65 5,65,65,[.int .u8 0,.int .u8 0,.int .u8 0,.int .u8 0,.int .u8 0,.int .u8 0,.int .u8 0,.int .u8 0,.int .u8 0,.int .u8 0,.int .u8 0,.int .u8 0,.int .u8 0,.int .u8 0,.int .u8 0,.int .u8 0,.int .u8 0,.int .u8 0,.int .u8 0,.int .u8 0,.int .u8 0,.int .u8 0,.int .u8 0,.int .u8 0,.int .u8 0,.int .u8 0,.int .u8 0,.int .u8 0,.int .u8 0,.int .u8 0,.int .u8 0,.int .u8 0,.int .u8 0,.int .u8 0,.int .u8 0,.int .u8 0,.int .u8 0,.int .u8 0,.int .u8 0,.int .u8 0,.int .u8 0,.int .u8 0,.int .u8 0,.int .u8 0,.int .u8 0,.int .u8 0,.int .u8 0,.int .u8 0,.int .u8 0,.int .u8 0,.int .u8 0,.int .u8 0,.int .u8 0,.int .u8 0,.int .u8 0,.int .u8 0,.int .u8 0,.int .u8 0,.int .u8 0,.int .u8 0,.int .u8 0,.int .u8 0,.int .u8 0,.int .u8 0,.int .u8 0]⟩),
 (293,⟨.func,1,8,[.nilv .func]⟩),
 (294,⟨.st [(9,0,1),(9,1,1),(134,2,1)],3,48,[.str [],.str [],.nilv .iface]⟩),
 (295,⟨.st [(9,0,1),(9,1,1),(134,2,1)],3,48,[.str [],.str [],.nilv .iface]⟩),
 (296,⟨.func,1,8,[.nilv .func]⟩),
 (298,⟨.func,1,8,[.nilv .func]⟩),
 (299,⟨.func,1,8,[.nilv .func]⟩),
 (300,⟨.ptr 302,1,8,[.nilv .ptr]⟩),
 (301,⟨.st [(9,0,1)],1,16,[.str []]⟩),
 (302,⟨.st [(9,0,1)],1,16,[.str []]⟩),
 (303,⟨.arr 32 5,32,32,[.int .u8 0,.int .u8 0,.int .u8 0,.int .u8 0,.int .u8 0,.int .u8 0,.int .u8 0,.int .u8 0,.int .u8 0,.int .u8 0,.int .u8 0,.int .u8 0,.int .u8 0,.int .u8 0,.int .u8 0,.int .u8 0,.int .u8 0,.int .u8 0,.int .u8 0,.int .u8 0,.int .u8 0,.int .u8 0,.int .u8 0,.int .u8 0,.int .u8 0,.int .u8 0,.int .u8 0,.int .u8 0,.int .u8 0,.int .u8 0,.int .u8 0,.int .u8 0]⟩),
 (304,⟨.arr 64 5,64,64,[.int .u8 0,.int .u8 0,.int .u8 0,.int .u8 0,.int .u8 0,.int .u8 0,.int .u8 0,.int .u8 0,.int .u8 0,.int .u8 0,.int .u8 0,.int .u8 0,.int .u8 0,.int .u8 0,.int .u8 0,.int .u8 0,.int .u8 0,.int .u8 0,.int .u8 0,.int .u8 0,.int .u8 0,.int .u8 0,.int .u8 0,.int .u8 0,.int .u8 0,.int .u8 0,.int .u8 0,.int .u8 0,.int .u8 0,.int .u8 0,.int .u8 0,.int .u8 0,.int .u8 0,.int .u8 0,.int .u8 0,.int .u8 0,.int .u8 0,.int .u8 0,.int .u8 0,.int .u8 0,.int .u8 0,.int .u8 0,.int .u8 0,.int .u8 0,.int .u8 0,.int .u8 0,.int .u8 0,.int .u8 0,.int .u8 0,.int .u8 0,.int .u8 0,.int .u8 0,.int .u8 0,.int .u8 0,.int .u8 0,.int .u8 0,.int .u8 0,.int .u8 0,.int .u8 0,.int .u8 0,.int .u8 0,.int .u8 0,.int .u8 0,.int .u8 0]⟩),
 (305,⟨.func,1,8,[.nilv .func]⟩),
 (306,⟨.st [(17,0,1),(17,1,1),(17,2,1),(9,3,1)],4,40,[.nilv .ptr,.nilv .ptr,.nilv .ptr,.str []]⟩),
 (307,⟨.st [(17,0,1),(17,1,1),(17,2,1),(9,3,1)],4,40,[.nilv .ptr,.nilv .ptr,.nilv .ptr,.str []]⟩),
 (311,⟨.int .u8,1,1,[.int .u8 0]⟩),
 (312,⟨.int .u8,1,1,[.int .u8 0]⟩),
 (313,⟨.func,1,8,[.nilv .func]⟩),
 (314,⟨.int .i32,1,4,[.int .i32 0]⟩),
 (315,⟨.int .i32,1,4,[.int .i32 0]⟩),
 (316,⟨.st [(12,0,1),(12,1,1),(253,2,1),(311,3,1),(5,4,1),(5,5,1),(312,6,1),(313,7,1),(237,8,1),(314,9,1),(315,10,1)],11,48,[.int .u64 0,.int .u64 0,.int .u32 0,.int .u8 0,.int .u8 0,.int .u8 0,.int .u8 0,.nilv .func,.nilv .ptr,.int .i32 0,.int .i32 0]⟩),
 (317,⟨.st [(12,0,1),(12,1,1),(253,2,1),(311,3,1),(5,4,1),(5,5,1),(312,6,1),(313,7,1),(237,8,1),(314,9,1),(315,10,1)],11,48,[.int .u64 0,.int .u64 0,.int .u32 0,.int .u8 0,.int .u8 0,.int .u8 0,.int .u8 0,.nilv .func,.nilv .ptr,.int .i32 0,.int .i32 0]⟩)]
theorem tok:TOk Tryz.prog T:=Y1n _ _ (by kernel_rfl)
def Nu:List Str:=[[43],[45],[42],[47],[37],[61,61],[33,61],[60],[60,61],[62],[62,61],[38,38],[124,124]]
def Gp (M:Mem)(w:World):Prop:=(∃ m:Int,M ⟨2,0,none⟩=some (.int .i64 m))∧(∀ (j:Nat) z,Lib.pow10Tab[j]?=some z→M ⟨1,j,none⟩=some (.int .u64 z))∧Lib.TabIs Tryz.prog w "internal/strconv.uint64pow10" .u64 Lib.pow10Tab
noncomputable def C:Cx:=⟨Tryz.prog,T,[(0,Nu.map D.str)],Gp,fun {M M' w w'} hm hb h=>(by
 obtain ⟨⟨m,h0⟩,h1,h2⟩:=h
 exact ⟨⟨m,hm _ _ h0⟩,fun j z hz=>hm _ _ (h1 j z hz),W1m (by kernel_rfl) (by decide) h1 hb h2⟩)⟩
theorem follows:Tryz.prog.follows .mixedOrders=true:=by kernel_rfl
theorem hC:A3 C:=⟨tok,follows⟩
end Go.Proofs.YtbmlpamppbcdeaaGreatDoor

namespace Go.Proofs.YtbmlpamppbcdeaaGreatDoor
open Go.Shelf Go.RowKit
set_option maxHeartbeats 1000000 in
set_option maxRecDepth 100000 in
theorem A1f (b:Nat)(w:World)(h0:w.cell? ⟨b,0,none⟩=some (.pointer (some ⟨b,0,none⟩))) :
  Calls Tryz.prog 166 #[.pointer (some ⟨b,0,none⟩)] w fun e w'=>e = .returned (.tuple #[])∧w'=w:=by
 obtain ⟨j,hj,_⟩:=Option.map_eq_some_iff.1 (show (Tryz.prog.info? 127).map (fun i=>i.size)=some 2 by kernel_rfl)
 have mixed:=(show Tryz.prog.follows .mixedOrders=true by kernel_rfl)
 go_enter Tryz.func166,Tryz.ntmps166
 go_wp2
 rw [Lib.run_neq_ptr_same w _ Tryz.underlying125 hj]
 go_wp2
 go_end0
 exact ⟨rfl,rfl⟩
set_option maxHeartbeats 1000000 in
set_option maxRecDepth 100000 in
theorem T1d (b el:Nat)(w:World)(h0:w.cell? ⟨b,0,none⟩=some (.pointer none))(hsh:w.shape? b=some (el,2))(hfz:w.frozen? ⟨b,0,none⟩=false)(hlies:liesAt Tryz.prog Tryz.prog.depth el (2 / Tryz.prog.cellsOf el) 0 127 1=true) :
  Calls Tryz.prog 166 #[.pointer (some ⟨b,0,none⟩)] w fun e w'=>e = .returned (.tuple #[])∧w'=w.setCell ⟨b,0,none⟩ (.pointer (some ⟨b,0,none⟩)):=by
 obtain ⟨j,hj,hjs⟩:=Option.map_eq_some_iff.1 (show (Tryz.prog.info? 127).map (fun i=>i.size)=some 2 by kernel_rfl)
 have mixed:=(show Tryz.prog.follows .mixedOrders=true by kernel_rfl)
 have t164:Tryz.prog.underlying 238=some .unsafePointer:=by kernel_rfl
 have f276:=Tryz.func225
 go_enter Tryz.func166,Tryz.ntmps166
 go_wp2
 rw [Lib.run_to_unsafe w ⟨b,0,none⟩ Tryz.underlying125 t164 hj (by rw [hjs]; decide) hsh (Nat.zero_lt_succ 1)]
 simp only [Result.andThen]
 rw [Oper.upon_value]
 go_wp2
 rw [run_callFunc_extern f276 (by kernel_rfl) (by kernel_rfl) (by kernel_rfl) (e:=Extern.AbiNoEscape.same) (by kernel_rfl)]
 rw [Lib.run_noEscape]
 simp only [Result.andThen]
 rw [Oper.upon_value]
 go_wp2
 rw [Lib.run_from_unsafe w ⟨b,0,none⟩ t164 Tryz.underlying125 hj hsh hlies]
 simp only [Result.andThen]
 rw [Oper.upon_value]
 go_wp2
 go_end0
 exact ⟨rfl,rfl⟩
structure Ip (b:Nat)(row:Option Nat)(w w':World):Prop where
 os:w'.os=w.os
 tape:w'.tape=w.tape
 output:w'.output=w.output
 size:w.heap.size≤w'.heap.size
 block:∀ k,k < w.heap.size→k≠b→some k≠row→w'.heap[k]?=w.heap[k]?
theorem P1l (b off:Nat)(row:Option Nat)(w:World)(v:Value):Ip b row w (w.setCell ⟨b,off,none⟩ v):=
 ⟨rfl,rfl,rfl,by simp [World.setCell],fun k _ hk _=>Below.heap_setCell _ _ _ _ (fun e=>hk (by simpa using e))⟩
theorem Ip.trans {b:Nat}{row:Option Nat}{w w1 w2:World}(h:Ip b row w w1)(h':Ip b row w1 w2):Ip b row w w2:=
 ⟨h'.os.trans h.os,h'.tape.trans h.tape,h'.output.trans h.output,Nat.le_trans h.size h'.size,fun k hk hb hr=>(h'.block k (Nat.lt_of_lt_of_le hk h.size) hb hr).trans (h.block k hk hb hr)⟩
set_option maxHeartbeats 1000000 in
set_option maxRecDepth 100000 in
theorem C1h (el b:Nat)(p v:Value)(bs:List Value)(w:World)(hb:w.heap[b]?=some (.cells #[p,v] el (0,0)))(hp:p = .pointer none∨p = .pointer (some ⟨b,0,none⟩))(hown:w.ownsRow 0 5 1 v bs.length bs)(hne:v.ownBlock≠some b)
  (hlies:liesAt Tryz.prog Tryz.prog.depth el (2 / Tryz.prog.cellsOf el) 0 127 1=true) :
  Calls Tryz.prog 166 #[.pointer (some ⟨b,0,none⟩)] w fun e w'=>e = .returned (.tuple #[])∧w'.heap[b]?=some (.cells #[.pointer (some ⟨b,0,none⟩),v] el (0,0))∧w'.ownsRow 0 5 1 v bs.length bs∧∀ row,Ip b row w w':=by
 have hlt:b < w.heap.size:=(Array.getElem?_eq_some_iff.1 hb).1
 have c0:w.cell? ⟨b,0,none⟩=some p:=by rw [Lib.cell_of_heap hb]; rfl
 rcases hp with rfl | rfl
 ·refine (T1d b el w c0 (by simp [World.shape?,hb]) (Lib.frozen_of_heap hb 0) hlies).mono ?_
  rintro e w' ⟨rfl,rfl⟩
  refine ⟨rfl,?_,?_,fun row=>P1l _ _ _ _ _⟩
  ·simp [World.setCell,Array.getElem?_modify,hb]
  ·refine hown.kept (row:=some b) ⟨rfl,rfl,rfl,by simp [World.setCell],fun k _ hk=>Below.heap_setCell _ _ _ _ (fun e=>hk (by simp [e]))⟩ (Or.inr hne)
 ·refine (A1f b w c0).mono ?_
  rintro e w' ⟨rfl,rfl⟩
  exact ⟨rfl,hb,hown,fun row=>⟨rfl,rfl,rfl,Nat.le_refl _,fun _ _ _ _=>rfl⟩⟩
theorem L1r:∃ i,Tryz.prog.info? 5=some i∧i.zero=some (.int .u8 0)∧i.size=1∧i.bytes=1:=
 info_parts (show (Tryz.prog.info? 5).map (fun i=>(i.zero,i.size,i.bytes))=some (some (.int .u8 0),1,1) by kernel_rfl)
theorem E1j {P:Program}(w:World)(base:Nat)(t u ty e:TypeId)(i:TypeInfo)(ht:P.underlying t=some (.slice e))(hu:P.underlying u=some .string)(hi:P.info? e=some i)(hz:i.zero=some (.int .u8 0))
  (hsize:i.size=1) (hby:i.bytes=1) (v:Value) (n:Nat) (xs:List Value) (hown:w.ownsRow base e 1 v n xs) (s:ByteArray) (h63:n+s.size≤maxLen) (hbytes:n+s.size≤140737488355328) {v':Value} {w':World}
  (hr:(Builtin.append_ #[t,u] ty #[v,.string s]).run P w = .ok v' w'):∀ k,v'.ownBlock=some k→v.ownBlock=some k∨w.heap.size≤k:=by
 have hsmall:n+s.size≤9223372036854775807:=by simp only [maxLen] at h63; omega
 have hxl:xs.length=n:=by simpa using hown.1
 rcases hown.2 with ⟨rfl,rfl⟩ | ⟨g,cap,cur,rfl,hbg,hg,hnc,hcm,hcs,htake⟩
 ·by_cases hm:s.size=0
  ·have hf:=Lib.run_firstCells_string (P:=P) w 1 s
   rw [hm] at hf
   have h0:(Builtin.append_ #[t,u] ty #[.slice none 0 0,.string s]).run P w = .ok (.slice none 0 0) w:=by
    simp [Builtin.append_,run_underlying ht,run_underlying hu,sizeOf,typeInfo,hi,hsize,Builtin.lenOf,hm,hf]
   rw [h0] at hr
   cases hr
   intro k hk
   simp [Value.ownBlock] at hk
  ·have h0:=run_append_nil_string (P:=P) w t u ty e i (.int .u8 0) ht hu hi hz s (by omega) (by omega) (by rw [hby]; omega)
   rw [h0] at hr
   cases hr
   intro k hk
   simp [Value.ownBlock] at hk
   exact .inr (by omega)
 ·by_cases hroom:n+s.size≤cap
  ·have hcs':cur.size=cap:=by simpa using hcs
   have h0:=Lib.run_append_room_string (P:=P) w t u ty e i ht hu hi hsize g n cap cur hg s hroom (by omega)
   rw [h0] at hr
   cases hr
   intro k hk
   exact .inl (by simpa [Value.ownBlock] using hk)
  ·have holds:∀ j u,xs[j]?=some u→w.cell? ((⟨g,0,none⟩:Addr).add j)=some u:=hown.cells (g:=g) rfl
   have h0:=Lib.run_append_grow_string (P:=P) w t u ty e i (.int .u8 0) ht hu hi hz ⟨g,0,none⟩ n cap xs (by rw [hsize]; simpa using hxl) holds s (by omega) (by omega) (by rw [hby]; exact growslice_fits (by omega) (by omega))
   rw [h0] at hr
   cases hr
   intro k hk
   simp [Value.ownBlock] at hk
   exact .inr (by omega)
theorem N1a {P:Program}{w:World}{ops:Array Oper}{rest:List Oper}{o:Oper}{a:Act}{Q:Exit→Act→World→Prop}(hgd:o.guard=none)(sl x:Operand)(t u:TypeId)
  (ho:o.op = .call { callee:=.builtin .append,args:=#[sl,x],argTypes:=#[t,u] })
  (base:Nat) (e:TypeId) (i:TypeInfo) (ht:P.underlying t=some (.slice e)) (hu:P.underlying u=some .string) (hi:P.info? e=some i) (hz:i.zero=some (.int .u8 0))
  (hsize:i.size=1) (hby:i.bytes=1)
  (v:Value) (n:Nat) (xs:List Value) (hs:a.eval sl=v) (hown:w.ownsRow base e 1 v n xs) (s:ByteArray) (hx:a.eval x = .string s)
  (h63:n+s.size≤maxLen) (hbytes:n+s.size≤140737488355328) (hbase:base≤w.heap.size)
  (h:∀ v' w',w'.ownsRow base e 1 v' (n+s.size) (xs++Lib.strCells s)→w.grownBy w' v.ownBlock→(∀ k,v'.ownBlock=some k→v.ownBlock=some k∨w.heap.size≤k)→wpList P ops Q rest (a.put o.dst v') w'):wpList P ops Q (o::rest) a w:=by
 refine wpList_plain hgd fun K hK=>?_
 obtain ⟨v',w',hr,h2,h3,h4⟩:=Lib.run_append_own_string (P:=P) w base t u o.type e i ht hu hi hz hsize hby v n xs hown s h63 hbytes hbase
 have h5:=E1j w base t u o.type e i ht hu hi hz hsize hby v n xs hown s h63 hbytes hr
 unfold Oper.wp execOp
 simp only [ho,resolve,invoke,builtin,Sem.run_bind,Sem.run_pure,Result.andThen_ok,List.map_toArray,List.map_cons,List.map_nil,hs,hx,hr]
 exact hK _ _ (h v' w' h2 h3 h5)
set_option maxHeartbeats 2000000 in
set_option maxRecDepth 100000 in
theorem S1k (el b:Nat)(p v:Value)(bs:List Value)(s:ByteArray)(w:World)(hb:w.heap[b]?=some (.cells #[p,v] el (0,0)))(hp:p = .pointer none∨p = .pointer (some ⟨b,0,none⟩))(hown:w.ownsRow 0 5 1 v bs.length bs)(hel:el≠5)
  (hlies:liesAt Tryz.prog Tryz.prog.depth el (2 / Tryz.prog.cellsOf el) 0 127 1=true) (hlen:bs.length+s.size≤140737488355328) :
  Calls Tryz.prog 86 #[.pointer (some ⟨b,0,none⟩),.string s] w fun e w'=>e = .returned (.tuple #[.int .i64 s.size,.nilIface])∧
   ∃ v',w'.heap[b]?=some (.cells #[.pointer (some ⟨b,0,none⟩),v'] el (0,0))∧w'.ownsRow 0 5 1 v' (bs.length+s.size) (bs++Lib.strCells s)∧v'.ownBlock≠some b∧Ip b v.ownBlock w w'∧∀ k,v'.ownBlock=some k→v.ownBlock=some k∨w.heap.size≤k:=by
 have hne:=Lib.ownBlock_ne hown hb hel
 obtain ⟨i0,hi,hz0,hz1,hz2⟩:=L1r
 have mixed:=(show Tryz.prog.follows .mixedOrders=true by kernel_rfl)
 have e240:∀ args w,(callFunc 166 args).run Tryz.prog w = .ok (.enter 166 args) w:=enters_of Tryz.func166 (by kernel_rfl) rfl
 go_enter Tryz.func86,Tryz.ntmps86
 go_wp2_with (go_at_fn 166; refine (C1h el b p v bs _ hb hp hown hne hlies).mono ?_)
 rintro e w1 ⟨rfl,hbk,hown1,hk1⟩
 have c0:w1.cell? ⟨b,0,none⟩=some (.pointer (some ⟨b,0,none⟩)):=by rw [Lib.cell_of_heap hbk]; rfl
 have c1:w1.cell? ⟨b,1,none⟩=some v:=by rw [Lib.cell_of_heap hbk]; rfl
 go_wp2_with (at_builtin; refine N1a rfl _ _ 61 9 rfl 0 5 i0 Tryz.underlying61 Tryz.underlying9 hi hz0 hz1 hz2 _ _ _ rfl hown1 s rfl ?c3 ?c4 ?c5 ?_)
 case c3=>unfold maxLen; omega
 case c4=>omega
 case c5=>omega
 intro v' w2 hown' hgrow hfr
 have hlt:b < w1.heap.size:=(Array.getElem?_eq_some_iff.1 hbk).1
 have hb2:w2.heap[b]?=some (.cells #[.pointer (some ⟨b,0,none⟩),v] el (0,0)):=by
  rw [hgrow.block b hlt (fun e=>hne e.symm)]
  exact hbk
 have d0:w2.cell? ⟨b,0,none⟩=some (.pointer (some ⟨b,0,none⟩)):=by rw [Lib.cell_of_heap hb2]; rfl
 have d1:w2.cell? ⟨b,1,none⟩=some v:=by rw [Lib.cell_of_heap hb2]; rfl
 have f1:w2.frozen? ⟨b,1,none⟩=false:=Lib.frozen_of_heap hb2 1
 obtain ⟨ao,n',cap,rfl⟩:∃ ao n' cap,v' = .slice ao n' cap:=by
  rcases hown'.2 with ⟨hv,_⟩ | ⟨g,cap,cur,hv,_⟩
  ·exact ⟨_,_,_,hv⟩
  ·exact ⟨_,_,_,hv⟩
 go_wp2
 go_ret2
 have hne':=Lib.ownBlock_ne hown' hb2 hel
 refine ⟨rfl,_,?_,?_,hne',?_,fun k hk=>(hfr k hk).imp id (fun h=>Nat.le_trans (hk1 none).size h)⟩
 ·simp [World.setCell,Array.getElem?_modify,hb2]
 ·exact hown'.kept (row:=some b) ⟨rfl,rfl,rfl,by simp [World.setCell],fun k _ hk=>Below.heap_setCell _ _ _ _ (fun e=>hk (by simp [e]))⟩ (Or.inr hne')
 ·exact ((hk1 _).trans ⟨hgrow.os,hgrow.tape,hgrow.output,hgrow.size,fun k hk _ hr=>hgrow.block k hk hr⟩).trans (P1l _ _ _ _ _)
end Go.Proofs.YtbmlpamppbcdeaaGreatDoor

namespace Go.Proofs.YtbmlpamppbcdeaaGreatDoor
open Go.Shelf Go.RowKit
theorem N14 (b:Nat)(row:Option Nat)(w:World):Ip b row w w.drew:=⟨rfl,rfl,rfl,Nat.le_refl _,fun _ _ _ _=>rfl⟩
theorem D1n (b g:Nat)(w:World)(n:Nat):Ip b (some g) w (w.freeze ⟨g,0,none⟩ n):=by
 unfold World.freeze
 split
 ·exact ⟨rfl,rfl,rfl,Nat.le_refl _,fun _ _ _ _=>rfl⟩
 ·refine ⟨rfl,rfl,rfl,by simp,fun k _ _ hr=>?_⟩
  simp only [Array.getElem?_modify]
  rw [if_neg (fun e=>hr (by simp [← e]))]
theorem H1p (b:Nat)(row:Option Nat)(w:World)(o:Obj):Ip b row w (w.alloc o):=
 ⟨rfl,rfl,rfl,by simp,fun k hk _ _=>Lib.alloc_old w o k hk⟩
theorem F1j (W:World)(q:Option Addr):(Builtin.unsafeString_ #[237,3] 9 #[.pointer q,.int .i64 0]).run Tryz.prog W = .ok (.string .empty) W:=
 Lib.run_unsafeString_none W _ _ _ q
theorem T1k:Tryz.prog.cellsOf 5=1:=by kernel_rfl
set_option maxHeartbeats 2000000 in
set_option maxRecDepth 100000 in
theorem U1k (el b g cap:Nat)(p:Value)(cur:Array Value)(l:List UInt8)(w:World)(h0:l≠[])(hbk:w.heap[b]?=some (.cells #[p,.slice (some ⟨g,0,none⟩) l.length cap] el (0,0)))(hown:w.ownsRow 0 5 1 (.slice (some ⟨g,0,none⟩) l.length cap) l.length (Lib.byteCells l))
  (hg:w.heap[g]?=some (.cells cur 5 (0,0))) (hnc:l.length≤cap) (hcm:cap≤maxLen) (hcs:cur.size=cap * 1) :
  Calls Tryz.prog 161 #[.pointer (some ⟨b,0,none⟩)] w fun e w'=>e = .returned (.string ⟨l.toArray⟩)∧Ip b (some g) w w':=by
 have hl0:l.length≠0:=by simpa using h0
 have c1:w.drew.cell? ⟨b,1,none⟩=some (.slice (some ⟨g,0,none⟩) l.length cap):=by
  have:w.drew.heap[b]?=some (.cells #[p,.slice (some ⟨g,0,none⟩) l.length cap] el (0,0)):=hbk
  rw [Lib.cell_of_heap this]; rfl
 have hSD:(Builtin.unsafeSliceData_ #[61] 237 #[.slice (some ⟨g,0,none⟩) l.length cap]).run Tryz.prog w.drew = .ok (.pointer (some ⟨g,0,none⟩)) w.drew:=
  Lib.run_unsafeSliceData_row _ _ _ _ _ _ (by omega)
 have hUS:(Builtin.unsafeString_ #[237,3] 9 #[.pointer (some ⟨g,0,none⟩),.int .i64 l.length]).run Tryz.prog w.drew = .ok (.string ⟨l.toArray⟩) (w.drew.freeze ⟨g,0,none⟩ l.length):=by
  refine Lib.run_unsafeString_row w.drew 237 3 9 5 Tryz.underlying237 T1k g cur.size (by have hg':w.drew.heap[g]?=some (.cells cur 5 (0,0)):=hg; simp [World.shape?,hg']) l h0 (by omega) (by unfold maxLen at hcm; omega) ?_
  intro j x hx
  have:=hown.cells (g:=g) rfl j (.int .u8 x.toNat) (by simp [Lib.byteCells,hx])
  exact this
 have mixed:=(show Tryz.prog.follows .mixedOrders=true by kernel_rfl)
 go_enter Tryz.func161,Tryz.ntmps161
 go_wp2
 go_region_o
 all_goals (go_wp2; go_ret; exact ⟨rfl,(N14 _ _ _).trans (D1n _ _ _ _)⟩)
set_option maxHeartbeats 2000000 in
set_option maxRecDepth 100000 in
theorem E1n (el b:Nat)(p:Value)(w:World)(hbk:w.heap[b]?=some (.cells #[p,.slice none 0 0] el (0,0))) :
  Calls Tryz.prog 161 #[.pointer (some ⟨b,0,none⟩)] w fun e w'=>e = .returned (.string ⟨#[]⟩)∧∀ row,Ip b row w w':=by
 have hUS:=F1j
 have c1:w.drew.cell? ⟨b,1,none⟩=some (.slice none 0 0):=by
  have:w.drew.heap[b]?=some (.cells #[p,.slice none 0 0] el (0,0)):=hbk
  rw [Lib.cell_of_heap this]; rfl
 have hSD:(Builtin.unsafeSliceData_ #[61] 237 #[.slice none 0 0]).run Tryz.prog w.drew = .ok (.pointer none) w.drew:=rfl
 have mixed:=(show Tryz.prog.follows .mixedOrders=true by kernel_rfl)
 go_enter Tryz.func161,Tryz.ntmps161
 go_wp2
 go_region_o
 all_goals (go_wp2; go_ret; exact ⟨rfl,fun row=>N14 _ _ _⟩)
set_option maxHeartbeats 2000000 in
set_option maxRecDepth 100000 in
theorem D1h (el b g:Nat)(p:Value)(cur:Array Value)(w:World)(hbk:w.heap[b]?=some (.cells #[p,.slice (some ⟨g,0,none⟩) 0 0] el (0,0)))(hg:w.heap[g]?=some (.cells cur 5 (0,0))) :
  Calls Tryz.prog 161 #[.pointer (some ⟨b,0,none⟩)] w fun e w'=>e = .returned (.string ⟨#[]⟩)∧∀ row,Ip b row w w':=by
 have hUS:=F1j
 have hlt:b < w.heap.size:=(Array.getElem?_eq_some_iff.1 hbk).1
 have c1:w.drew.cell? ⟨b,1,none⟩=some (.slice (some ⟨g,0,none⟩) 0 0):=by
  have:w.drew.heap[b]?=some (.cells #[p,.slice (some ⟨g,0,none⟩) 0 0] el (0,0)):=hbk
  rw [Lib.cell_of_heap this]; rfl
 have hSD:(Builtin.unsafeSliceData_ #[61] 237 #[.slice (some ⟨g,0,none⟩) 0 0]).run Tryz.prog w.drew = .ok (.pointer (some ⟨w.drew.heap.size,0,none⟩)) (w.drew.alloc (.view ⟨g,0,none⟩ 5)):=
  Lib.run_unsafeSliceData_zero w.drew _ _ 5 Tryz.underlying237 ⟨g,0,none⟩ 0 (5,cur.size) (by have hg':w.drew.heap[g]?=some (.cells cur 5 (0,0)):=hg; simp [World.shape?,hg'])
 have c2:(w.drew.alloc (.view ⟨g,0,none⟩ 5)).cell? ⟨b,1,none⟩=some (.slice (some ⟨g,0,none⟩) 0 0):=by
  have:(w.drew.alloc (.view ⟨g,0,none⟩ 5)).heap[b]?=_:=(Lib.alloc_old w.drew _ b hlt).trans hbk
  rw [Lib.cell_of_heap this]; rfl
 have c3:(w.alloc (.view ⟨g,0,none⟩ 5)).drew.cell? ⟨b,1,none⟩=some (.slice (some ⟨g,0,none⟩) 0 0):=c2
 have c0:w.cell? ⟨b,1,none⟩=some (.slice (some ⟨g,0,none⟩) 0 0):=c1
 have mixed:=(show Tryz.prog.follows .mixedOrders=true by kernel_rfl)
 go_enter Tryz.func161,Tryz.ntmps161
 go_wp2
 go_region_o
 all_goals (go_wp2; go_ret; exact ⟨rfl,fun row=>(N14 _ _ _).trans (H1p _ _ _ _)⟩)
set_option maxHeartbeats 2000000 in
set_option maxRecDepth 100000 in
theorem V1k (el b g cap:Nat)(p:Value)(w:World)(hc0:cap≠0)(hbk:w.heap[b]?=some (.cells #[p,.slice (some ⟨g,0,none⟩) 0 cap] el (0,0))) :
  Calls Tryz.prog 161 #[.pointer (some ⟨b,0,none⟩)] w fun e w'=>e = .returned (.string ⟨#[]⟩)∧∀ row,Ip b row w w':=by
 have hUS:=F1j
 have c1:w.drew.cell? ⟨b,1,none⟩=some (.slice (some ⟨g,0,none⟩) 0 cap):=by
  have:w.drew.heap[b]?=some (.cells #[p,.slice (some ⟨g,0,none⟩) 0 cap] el (0,0)):=hbk
  rw [Lib.cell_of_heap this]; rfl
 have hSD:(Builtin.unsafeSliceData_ #[61] 237 #[.slice (some ⟨g,0,none⟩) 0 cap]).run Tryz.prog w.drew = .ok (.pointer (some ⟨g,0,none⟩)) w.drew:=
  Lib.run_unsafeSliceData_row _ _ _ _ _ _ hc0
 clear hc0
 have mixed:=(show Tryz.prog.follows .mixedOrders=true by kernel_rfl)
 go_enter Tryz.func161,Tryz.ntmps161
 go_wp2
 go_region_o
 all_goals (go_wp2; go_ret; exact ⟨rfl,fun row=>N14 _ _ _⟩)
theorem F1n (el b:Nat)(p v:Value)(l:List UInt8)(w:World)(hbk:w.heap[b]?=some (.cells #[p,v] el (0,0)))(hown:w.ownsRow 0 5 1 v l.length (Lib.byteCells l)) :
  Calls Tryz.prog 161 #[.pointer (some ⟨b,0,none⟩)] w fun e w'=>e = .returned (.string ⟨l.toArray⟩)∧Ip b v.ownBlock w w':=by
 rcases hown.2 with ⟨rfl,hz⟩ | ⟨g,cap,cur,rfl,_,hg,hnc,hcm,hcs,_⟩
 ·obtain rfl:=List.eq_nil_of_length_eq_zero hz
  exact (E1n el b p w hbk).mono fun e w' ⟨h1,h2⟩=>⟨h1,h2 _⟩
 ·by_cases h0:l=[]
  ·subst h0
   by_cases hc:cap=0
   ·subst hc
    exact (D1h el b g p cur w hbk hg).mono fun e w' ⟨h1,h2⟩=>⟨h1,h2 _⟩
   ·exact (V1k el b g cap p w hc hbk).mono fun e w' ⟨h1,h2⟩=>⟨h1,h2 _⟩
  ·exact U1k el b g cap p cur l w h0 hbk hown hg hnc hcm hcs
set_option maxHeartbeats 1000000 in
set_option maxRecDepth 100000 in
theorem G1t (el b:Nat)(p v:Value)(bs:List Value)(w:World)(hbk:w.heap[b]?=some (.cells #[p,v] el (0,0)))(hown:w.ownsRow 0 5 1 v bs.length bs) :
  Calls Tryz.prog 160 #[.pointer (some ⟨b,0,none⟩)] w fun e w'=>e = .returned (.int .i64 bs.length)∧w'=w:=by
 obtain ⟨ao,cap,rfl⟩:∃ ao cap,v = .slice ao bs.length cap:=by
  rcases hown.2 with ⟨hv,h0⟩ | ⟨g,cap,cur,hv,_⟩
  ·exact ⟨none,0,by rw [hv,h0]⟩
  ·exact ⟨_,_,hv⟩
 have c1:w.cell? ⟨b,1,none⟩=some (.slice ao bs.length cap):=by rw [Lib.cell_of_heap hbk]; rfl
 have mixed:=(show Tryz.prog.follows .mixedOrders=true by kernel_rfl)
 go_enter Tryz.func160,Tryz.ntmps160
 go_wp2
 go_ret
 exact ⟨rfl,rfl⟩
end Go.Proofs.YtbmlpamppbcdeaaGreatDoor

set_option linter.unusedSimpArgs false
namespace Go.Proofs.YtbmlpamppbcdeaaGreatDoor
open Go.Am
theorem B1f {M:Mem}{G:Nat→Value}{w:World}{bs:Str}{g:Value}(h:Lg M G w (.buf 5 bs) g):w.ownsRow 0 5 1 g bs.length (Lib.byteCells bs):=by
 obtain ⟨h0,h⟩:=h
 refine ⟨by simp [Lib.byteCells],?_⟩
 rcases h with ⟨rfl,rfl⟩ | ⟨b,cap,cur,rfl,h1,h2,h3,h4,h5,h6⟩
 ·exact .inl ⟨rfl,rfl⟩
 ·exact .inr ⟨b,cap,cur,rfl,Nat.zero_le _,h1,h2,h3,by omega,by rw [Nat.mul_one]; exact h5⟩
theorem H1t {M:Mem}{G:Nat→Value}{w:World}{bs:Str}{g:Value}(h:w.ownsRow 0 5 1 g bs.length (Lib.byteCells bs))(hl:bs.length≤maxLen)(hM:∀ b,g.ownBlock=some b→∀ off sp,M ⟨b,off,sp⟩=none):Lg M G w (.buf 5 bs) g:=by
 refine ⟨hl,?_⟩
 rcases h.2 with ⟨rfl,h0⟩ | ⟨b,cap,cur,rfl,_,h1,h2,h3,h4,h5⟩
 ·exact .inl ⟨rfl,List.eq_nil_of_length_eq_zero h0⟩
 ·exact .inr ⟨b,cap,cur,rfl,h1,h2,h3,by omega,by rw [Nat.mul_one] at h5; exact h5,hM b rfl⟩
theorem Y12 {e:TypeId}{bs:Str}{g:Value}{b:Nat}:blk (.buf e bs) g=some b ↔ g.ownBlock=some b:=by
 cases g <;> simp [blk,Value.ownBlock]
 rename_i a l c
 cases a <;> simp [blk,Value.ownBlock]
theorem I1t {M:Mem}{G:Nat→Value}{w w':World}{el b:Nat}{bs bs':Str}{v':Value}(hg:Go.Am.Good M w)(hh:R9 M G w [.bld 1 el,.buf 5 bs])(hG:G 0 = .pointer (some ⟨b,0,none⟩))(hb':w'.heap[b]?=some (.cells #[.pointer (some ⟨b,0,none⟩),v'] el (0,0)))
  (hown:w'.ownsRow 0 5 1 v' bs'.length (Lib.byteCells bs')) (hne:v'.ownBlock≠some b) (hk:Ip b (G 1).ownBlock w w') (hfr:∀ k,v'.ownBlock=some k→(G 1).ownBlock=some k∨w.heap.size≤k) (hl:bs'.length≤maxLen) (r:A) (v:Value) (hr:V0 M (J6 G 1 v') r v)
  {Q:A→P0→Prop} (hQ:Q r [.bld 1 el,.buf 5 bs']):O12 M G w [.bld 1 el,.buf 5 bs] Q (.returned v) w':=by
 have o0:=hh.obj 0 _ rfl
 have o1:=hh.obj 1 _ rfl
 obtain ⟨b0,v0,e1,hb,hv0,hnt,hMb⟩:=o0
 rw [hG] at e1
 obtain rfl:b=b0:=by cases e1; rfl
 have hM1:∀ k,(G 1).ownBlock=some k→∀ off sp,M ⟨k,off,sp⟩=none:=fun k hk'=>by
  obtain ⟨_,h⟩:=o1
  rcases h with ⟨e,_⟩ | ⟨b1,cap,cur,e,_,_,_,_,_,h6⟩
  ·rw [e] at hk'; simp [Value.ownBlock] at hk'
  ·rw [e] at hk'
   simp [Value.ownBlock] at hk'
   subst hk'
   exact h6
 have hM':∀ k,v'.ownBlock=some k→∀ off sp,M ⟨k,off,sp⟩=none:=fun k hk' off sp=>by
  rcases hfr k hk' with h | h
  ·exact hM1 k h off sp
  ·cases hm:M ⟨k,off,sp⟩ with
   | none=>rfl
   | some x=>have:=hg.lt hm; simp only at this; omega
 have hw0:own G [.bld 1 el,.buf 5 bs] b:=⟨0,_,rfl,by rw [hG]; rfl⟩
 have hw1:∀ k,(G 1).ownBlock=some k→own G [.bld 1 el,.buf 5 bs] k:=fun k h=>⟨1,_,rfl,Y12.2 h⟩
 have hnt':v'≠.tuple #[]:=fun e=>by
  subst e
  rcases hown.2 with ⟨h,_⟩ | ⟨_,_,_,h,_⟩ <;> cases h
 refine ⟨v,r,_,M,J6 G 1 v',rfl,hQ,hr,?_,⟨?_,?_,?_⟩,⟨fun _ _ h=>h,hk.size,hk.os,hk.output,hk.tape,fun k hlt hn=>?_,fun _ _ h=>.inl h⟩,?_,Nat.le_refl _,?_⟩
 ·intro a x hx
  have hbk:w'.heap[a.block]?=w.heap[a.block]?:=hk.block a.block (hg.lt hx) (fun e=>by
   have:=hMb a.off a.spot
   rw [← e] at this
   rw [show (⟨a.block,a.off,a.spot⟩:Addr)=a from rfl,hx] at this
   cases this) (fun e=>by
   have:=hM1 a.block e.symm a.off a.spot
   rw [show (⟨a.block,a.off,a.spot⟩:Addr)=a from rfl,hx] at this
   cases this)
  rcases hg a x hx with ⟨s1,s2⟩ | ⟨s1,ms,cl,s2,s3⟩
  ·exact .inl ⟨s1,by rw [Zm hbk]; exact s2⟩
  ·exact .inr ⟨s1,ms,cl,by rw [hbk]; exact s2,s3⟩
 ·intro o x ho
  match o,ho with
  | 0,ho=>
   cases ho
   rw [Q1 (by decide),hG]
   exact ⟨b,_,rfl,by rw [C2]; exact hb',.inr rfl,by rw [C2]; exact hnt',hMb⟩
  | 1,ho=>
   cases ho
   rw [C2]
   exact H1t hown hl hM'
  | o+2,ho=>simp at ho
 ·intro o o' x x' k ho ho' h1 h2
  match o,o',ho,ho' with
  | 0,0,_,_=>rfl
  | 1,1,_,_=>rfl
  | 0,1,ho,ho'=>
   cases ho; cases ho'
   rw [Q1 (by decide),hG] at h1
   rw [C2] at h2
   simp only [blk,Option.some.injEq] at h1
   subst h1
   exact absurd (Y12.1 h2) hne
  | 1,0,ho,ho'=>
   cases ho; cases ho'
   rw [Q1 (by decide),hG] at h2
   rw [C2] at h1
   simp only [blk,Option.some.injEq] at h2
   subst h2
   exact absurd (Y12.1 h1) hne
  | o+2,_,ho,_=>simp at ho
  | _,o+2,_,ho'=>simp at ho'
 ·intro o ho
  rw [Q1 (by simp at ho; omega)]
  exact hh.fresh o ho
 ·exact hk.block k hlt (fun e=>hn (e ▸ hw0)) (fun e=>hn (hw1 k e.symm))
 ·rintro k ⟨o,x,ho,hx⟩
  match o,ho with
  | 0,ho=>
   cases ho
   rw [Q1 (by decide)] at hx
   exact .inl ⟨0,_,rfl,hx⟩
  | 1,ho=>
   cases ho
   rw [C2] at hx
   rcases hfr k (Y12.1 hx) with h | h
   ·exact .inl (hw1 k h)
   ·exact .inr h
  | o+2,ho=>simp at ho
 ·intro o x ho ht
  match o,ho with
  | 0,ho=>
   cases ho
   exact ⟨Q1 (by decide),fun y hy=>by cases hy; rfl⟩
  | 1,ho=>cases ho; cases ht
  | o+2,ho=>simp at ho
theorem C1f {el:Nat}{s bs:Str}(hel:el≠5)(hlies:liesAt Tryz.prog Tryz.prog.depth el (2 / Tryz.prog.cellsOf el) 0 127 1=true)(hlen:bs.length+s.length≤140737488351231) :
  N0 C 86 [.ref 0 0,.d (.str s)] [.bld 1 el,.buf 5 bs] (fun x H'=>H'=[.bld 1 el,.buf 5 (bs++s)]∧x = .tup [.d (.int .i64 s.length),.d (.nilv .iface)]):=by
 refine ⟨R12 Tryz.func86 rfl rfl,fun M G w vs hg hgl hh hl hr=>?_⟩
 obtain ⟨h1,hm⟩:=S1b hl hr (i:=1) rfl
 obtain ⟨b,v0,e1,hb,hv0,hnt,hMb⟩:=hh.obj 0 _ rfl
 have h0:vs[0]?=some (.pointer (some ⟨b,0,none⟩)):=by
  have hlt:0 < vs.size:=by rw [← hl]; simp
  have hv:vs[0]?=some vs[0]:=Array.getElem?_eq_getElem hlt
  have:=hr 0 _ _ rfl hv
  generalize vs[0]=z at this hv
  cases this with
  | ref h=>rw [e1] at h; cases h; exact hv
 obtain rfl:=A1u hl.symm h0 h1
 have hown:=B1f (hh.obj 1 _ rfl)
 have hs:(⟨s.toArray⟩:ByteArray).size=s.length:=rfl
 have hbl:(Lib.byteCells bs).length=bs.length:=by simp [Lib.byteCells]
 refine (S1k el b v0 (G 1) (Lib.byteCells bs) ⟨s.toArray⟩ w hb hv0 (by rw [hbl]; exact hown) hel hlies (by rw [hbl,hs]; omega)).mono ?_
 rintro e w' ⟨rfl,v',q1,q2,q3,q4,q5⟩
 refine I1t hg hh e1 q1 (bs':=bs++s) ?_ q3 q4 q5 (by unfold maxLen; simp; omega) (.tup [.d (.int .i64 s.length),.d (.nilv .iface)]) _ ?_ ⟨rfl,rfl⟩
 ·rw [hbl,hs] at q2
  have e:Lib.byteCells bs++Lib.strCells ⟨s.toArray⟩=Lib.byteCells (bs++s):=by simp [Lib.byteCells,Lib.strCells]
  rw [e] at q2
  rw [List.length_append]
  exact q2
 ·refine .tup rfl fun i x v hx hv=>?_
  match i,hx,hv with
  | 0,hx,hv=>
   cases hx
   simp at hv
   subst hv
   refine .d (.int ?_)
   rw [C1a]
   unfold maxLen at hm
   omega
  | 1,hx,hv=>
   cases hx
   simp at hv
   subst hv
   exact .d .niliface
  | i+2,hx,_=>simp at hx
end Go.Proofs.YtbmlpamppbcdeaaGreatDoor

set_option linter.unusedSimpArgs false
namespace Go.Proofs.YtbmlpamppbcdeaaGreatDoor
open Go.Am
theorem I1p {M:Mem}{G:Nat→Value}{w:World}{el:Nat}{bs:Str}{xs:List A}{vs:Array Value}(hh:R9 M G w [.bld 1 el,.buf 5 bs])(hl:(A.ref 0 0::xs).length=vs.size)(hr:∀ (i:Nat) x v,(A.ref 0 0::xs)[i]?=some x→vs[i]?=some v→V0 M G x v) :
  ∃ b v0,G 0 = .pointer (some ⟨b,0,none⟩)∧w.heap[b]?=some (.cells #[v0,G 1] el (0,0))∧vs[0]?=some (.pointer (some ⟨b,0,none⟩))∧(∀ off sp,M ⟨b,off,sp⟩=none):=by
 obtain ⟨b,v0,e1,hb,hv0,hnt,hMb⟩:=hh.obj 0 _ rfl
 refine ⟨b,v0,e1,hb,?_,hMb⟩
 have hlt:0 < vs.size:=by rw [← hl]; simp
 have hv:vs[0]?=some vs[0]:=Array.getElem?_eq_getElem hlt
 have:=hr 0 _ _ rfl hv
 generalize vs[0]=z at this hv
 cases this with
 | ref h=>rw [e1] at h; cases h; exact hv
theorem F1u {el:Nat}{bs:Str}:N0 C 160 [.ref 0 0] [.bld 1 el,.buf 5 bs] (fun x H'=>H'=[.bld 1 el,.buf 5 bs]∧x = .d (.int .i64 bs.length)):=by
 refine ⟨R12 Tryz.func160 rfl rfl,fun M G w vs hg hgl hh hl hr=>?_⟩
 obtain ⟨b,v0,e1,hb,h0,hMb⟩:=I1p hh hl hr
 obtain rfl:=D1r hl.symm h0
 have hown:=B1f (hh.obj 1 _ rfl)
 have hbm:=(hh.obj 1 _ rfl).1
 have hbl:(Lib.byteCells bs).length=bs.length:=by simp [Lib.byteCells]
 refine (G1t el b v0 (G 1) (Lib.byteCells bs) w hb (by rw [hbl]; exact hown)).mono ?_
 rintro e w' ⟨rfl,rfl⟩
 refine ⟨_,.d (.int .i64 bs.length),_,M,G,rfl,⟨rfl,rfl⟩,?_,hg,hh,Ext.refl _ _ _,fun b hb=>.inl hb,Nat.le_refl _,fun o x ho ht=>⟨rfl,fun y hy=>?_⟩⟩
 ·rw [hbl]
  refine .d (.int ?_)
  rw [C1a]
  unfold maxLen at hbm
  omega
 ·rw [ho] at hy; cases hy; exact ht
theorem J1p {el:Nat}{bs:Str}:N0 C 161 [.ref 0 0] [.bld 1 el,.buf 5 bs] (fun x H'=>H'=[.dead,.dead]∧x = .d (.str bs)):=by
 refine ⟨R12 Tryz.func161 rfl rfl,fun M G w vs hg hgl hh hl hr=>?_⟩
 obtain ⟨b,v0,e1,hb,h0,hMb⟩:=I1p hh hl hr
 obtain rfl:=D1r hl.symm h0
 have hown:=B1f (hh.obj 1 _ rfl)
 obtain ⟨hbm,o1⟩:=hh.obj 1 _ rfl
 have hM1:∀ k,(G 1).ownBlock=some k→∀ off sp,M ⟨k,off,sp⟩=none:=fun k hk'=>by
  rcases o1 with ⟨e,_⟩ | ⟨b1,cap,cur,e,_,_,_,_,_,h6⟩
  ·rw [e] at hk'; simp [Value.ownBlock] at hk'
  ·rw [e] at hk'
   simp [Value.ownBlock] at hk'
   subst hk'
   exact h6
 have hw0:own G [.bld 1 el,.buf 5 bs] b:=⟨0,_,rfl,by rw [e1]; rfl⟩
 have hw1:∀ k,(G 1).ownBlock=some k→own G [.bld 1 el,.buf 5 bs] k:=fun k h=>⟨1,_,rfl,Y12.2 h⟩
 refine (F1n el b v0 (G 1) bs w hb hown).mono ?_
 rintro e w' ⟨rfl,hk⟩
 refine ⟨_,.d (.str bs),[.dead,.dead],M,G,rfl,⟨rfl,rfl⟩,.d (.str hbm),?_,⟨?_,?_,?_⟩,⟨fun _ _ h=>h,hk.size,hk.os,hk.output,hk.tape,fun k hlt hn=>?_,fun _ _ h=>.inl h⟩,?_,Nat.le_refl _,?_⟩
 ·intro a x hx
  have hbk:w'.heap[a.block]?=w.heap[a.block]?:=hk.block a.block (hg.lt hx) (fun e=>by
   have:=hMb a.off a.spot
   rw [← e] at this
   rw [show (⟨a.block,a.off,a.spot⟩:Addr)=a from rfl,hx] at this
   cases this) (fun e=>by
   have:=hM1 a.block e.symm a.off a.spot
   rw [show (⟨a.block,a.off,a.spot⟩:Addr)=a from rfl,hx] at this
   cases this)
  rcases hg a x hx with ⟨s1,s2⟩ | ⟨s1,ms,cl,s2,s3⟩
  ·exact .inl ⟨s1,by rw [Zm hbk]; exact s2⟩
  ·exact .inr ⟨s1,ms,cl,by rw [hbk]; exact s2,s3⟩
 ·intro o x ho
  match o,ho with
  | 0,ho=>cases ho; trivial
  | 1,ho=>cases ho; trivial
  | o+2,ho=>simp at ho
 ·intro o o' x x' k ho ho' h1 h2
  match o,ho with
  | 0,ho=>cases ho; simp [blk] at h1
  | 1,ho=>cases ho; simp [blk] at h1
  | o+2,ho=>simp at ho
 ·intro o ho
  exact hh.fresh o ho
 ·exact hk.block k hlt (fun e=>hn (e ▸ hw0)) (fun e=>hn (hw1 k e.symm))
 ·rintro k ⟨o,x,ho,hx⟩
  match o,ho with
  | 0,ho=>cases ho; simp [blk] at hx
  | 1,ho=>cases ho; simp [blk] at hx
  | o+2,ho=>simp at ho
 ·intro o x ho ht
  match o,ho with
  | 0,ho=>exact ⟨rfl,fun y hy=>by cases hy; rfl⟩
  | 1,ho=>exact ⟨rfl,fun y hy=>by cases hy; rfl⟩
  | o+2,ho=>simp at ho
end Go.Proofs.YtbmlpamppbcdeaaGreatDoor

set_option linter.unusedVariables false
set_option linter.unusedSimpArgs false
namespace Go.Proofs.YtbmlpamppbcdeaaGreatDoor
open Go.Am
def Sm (s t:Str):Option Bool:=if decide (s.length < 4294967281)=true then some (Lib.contains s t) else none
theorem M16 {s t:Str}{res:Bool}(hh:Sm s t=some res):N0 C 244 [.d (.str s),.d (.str t)] [] (fun x H'=>H'=[]∧x = .d (.bool res)):=by
 obtain ⟨hs,hh⟩:=U0 hh
 cases hh
 refine N0.ofBelow (R12 Tryz.func244 rfl rfl) fun M G w vs hg hgl hl hr=>?_
 obtain ⟨h0,_⟩:=S1b hl hr (i:=0) rfl
 obtain ⟨h1,_⟩:=S1b hl hr (i:=1) rfl
 obtain rfl:=A1u hl.symm h0 h1
 obtain ⟨⟨m,hm⟩,_⟩:=hgl.gp
 refine ⟨.bool (Lib.contains s t),fun _ _=>.d .bool,(Tryz.strings_Contains ⟨s.toArray⟩ ⟨t.toArray⟩ m w (by rw [E1a]; exact hs) (hg.at hm rfl)).mono ?_⟩
 rintro e w' ⟨he,rfl⟩
 exact ⟨by simpa using he,.refl _ _⟩
theorem Pv:∀ (k u:Nat),u < 10 ^ (k+1)→(Lib.decDigits u).length≤k+1
 | 0,u,h=>by rw [Lib.decDigits,dif_pos (by simpa using h)]; simp
 | k+1,u,h=>by
  rw [Lib.decDigits]
  split
  ·simp
  ·rw [List.length_append]
   have:=Pv k (u / 10) (by rw [Nat.div_lt_iff_lt_mul (by decide)]; rw [Nat.pow_succ] at h; exact h)
   simp; omega
def Rl (n:Int):Option Str:=if decide (-1000000000000000000 < n∧n < 1000000000000000000)=true then some (Lib.itoa n) else none
theorem M1r {n:Int}(h : -1000000000000000000 < n∧n < 1000000000000000000):(Lib.itoa n).length≤19:=by
 unfold Lib.itoa
 split
 ·have:=Pv 17 n.natAbs (by omega)
  simp; omega
 ·have:=Pv 17 n.toNat (by omega)
  omega
theorem Cj {n:Int}{res:Str}(hh:Rl n=some res):N0 C 156 [.d (.int .i64 n)] [] (fun x H'=>H'=[]∧x = .d (.str res)):=by
 obtain ⟨hs,hh⟩:=U0 hh
 cases hh
 refine N0.ofBelow (R12 Tryz.func156 rfl rfl) fun M G w vs hg hgl hl hr=>?_
 obtain ⟨h0,_⟩:=C1r hl hr (i:=0) rfl
 obtain rfl:=D1r hl.symm h0
 obtain ⟨_,_,htab⟩:=hgl.gp
 refine ⟨.string ⟨(Lib.itoa n).toArray⟩,fun _ _=>.d (.str ?_),(Tryz.strconv_Itoa n (by omega) (by omega) w htab).mono ?_⟩
 ·have:=M1r hs
  unfold maxLen; omega
 ·rintro e w' ⟨he,k,os,rfl⟩
  exact ⟨he,Lib.below_grow _ _ (Nat.le_refl _) _ _⟩
def Ii (n:Int):Option Str:=if decide (0≤n∧n < 100)=true then some (if n.toNat < 10 then [UInt8.ofNat (48+n.toNat)] else [UInt8.ofNat (48+n.toNat / 10),UInt8.ofNat (48+n.toNat % 10)]) else none
theorem R0 (n:Int):Le (Ii n) (Rl n):=by
 unfold Ii Rl
 by_cases h:0≤n∧n < 100
 ·rw [if_pos (decide_eq_true h),if_pos (decide_eq_true (by omega))]
  obtain ⟨k,rfl⟩:∃ k:Nat,n=k:=⟨n.toNat,by omega⟩
  have hk:k < 100:=by omega
  have:∀ k < 100,(if k < 10 then [UInt8.ofNat (48+k)] else [UInt8.ofNat (48+k / 10),UInt8.ofNat (48+k % 10)])=Lib.decDigits k:=by
   intro k hk
   rw [Lib.decDigits]
   split
   ·rfl
   ·rename_i h
    rw [Lib.decDigits,dif_pos (by omega)]
    rfl
  rw [show (k:Int).toNat=k from rfl,this k hk]
  unfold Lib.itoa
  rw [if_neg (by omega)]
  exact Le.rfl
 ·rw [if_neg (by simpa using h)]
  exact Le.none
theorem P1s:∀ w,(Instr.build 129 #[]).run Tryz.prog w = .ok (.agg #[.pointer none,.slice none 0 0]) w:=fun w=>by kernel_rfl
def I0 (s b:Str):Option (Int×Str):=if decide (b.length+s.length≤140737488351231)=true then some ((s.length:Int),b++s) else none
theorem L0 {s b:Str}{res:Int×Str}(hh:I0 s b=some res):N0 C 86 [.ref 0 0,.d (.str s)] [.bld 1 129,.buf 5 b] (fun x H'=>H'=[.bld 1 129,.buf 5 res.2]∧x = .tup [.d (.int .i64 res.1),.d (.nilv .iface)]):=by
 obtain ⟨hs,hh⟩:=U0 hh
 cases hh
 exact C1f (by decide) (by kernel_rfl) hs
def Tm (b:Str):Option Int:=some (b.length:Int)
theorem Yz {b:Str}{res:Int}(hh:Tm b=some res):N0 C 160 [.ref 0 0] [.bld 1 129,.buf 5 b] (fun x H'=>H'=[.bld 1 129,.buf 5 b]∧x = .d (.int .i64 res)):=by
 cases hh
 exact F1u
def Vj (b:Str):Option Str:=some b
theorem Qv {b:Str}{res:Str}(hh:Vj b=some res):N0 C 161 [.ref 0 0] [.bld 1 129,.buf 5 b] (fun x H'=>H'=[.dead,.dead]∧x = .d (.str res)):=by
 cases hh
 exact J1p
theorem G1u:C1j C.P 92:=G1p fun blk off cap ss w hh hb hl=>Tryz.slices_Sort_string blk off cap ss w hh hb hl
end Go.Proofs.YtbmlpamppbcdeaaGreatDoor

