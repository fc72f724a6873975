/- A part of the proof of ParserInverse. -/
import Derived.Test.YtmnhfbekncjnfaaGreatDoorProg
import Derived.Test.YtmnhfbekncjnfaaGreatDoorAmB
import Derived.Test.YtmnhfbekncjnfaaGreatDoorAmE
import Derived.KernelRfl
import Derived.Test.YtmnhfbekncjnfaaGreatDoorShA
import Derived.Lib.ItoaNum
import Derived.Lib.AppendIntMem
import Derived.Test.YtmnhfbekncjnfaaGreatDoorAmF
import Derived.Tactics
import Derived.Tactics2
import Derived.Defers
import Derived.Recover
import Derived.Laws.Pointers
import Derived.Lib.SmallJoins
import Derived.Lib.Atoi
import Derived.Lib.Bytealg
namespace Go.Proofs.YtmnhfbekncjnfaaGreatDoor
open Go.Am
def T:TT:=[
 (1,⟨.func,1,8,[.nilv .func]⟩),
 (2,⟨.int .i64,1,8,[.int .i64 0]⟩),
 (3,⟨.int .i64,1,8,[.int .i64 0]⟩),
 (4,⟨.bool,1,1,[.bool false]⟩),
 (5,⟨.int .u8,1,1,[.int .u8 0]⟩),
 (6,⟨.int .u8,1,1,[.int .u8 0]⟩),
 (7,⟨.st [(2,0,1),(3,1,1),(4,2,1),(6,3,1)],4,24,[.int .i64 0,.int .i64 0,.bool false,.int .u8 0]⟩),
 (8,⟨.st [(2,0,1),(3,1,1),(4,2,1),(6,3,1)],4,24,[.int .i64 0,.int .i64 0,.bool false,.int .u8 0]⟩),
 (9,⟨.str,1,16,[.str []]⟩),
 (10,⟨.str,1,16,[.str []]⟩),
 (11,⟨.str,1,16,[.str []]⟩),
 (12,⟨.int .u64,1,8,[.int .u64 0]⟩),
 (13,⟨.st [(9,0,1),(12,1,1)],2,24,[.str [],.int .u64 0]⟩),
 (14,⟨.st [(9,0,1),(12,1,1)],2,24,[.str [],.int .u64 0]⟩),
 (15,⟨.ptr 239,1,8,[.nilv .ptr]⟩),
 (16,⟨.ptr 242,1,8,[.nilv .ptr]⟩),
 (17,⟨.ptr 249,1,8,[.nilv .ptr]⟩),
 (18,⟨.st [(17,0,1)],1,8,[.nilv .ptr]⟩),
 (19,⟨.st [(17,0,1)],1,8,[.nilv .ptr]⟩),
 (20,⟨.iface,1,16,[.nilv .iface]⟩),
 (21,⟨.int .i32,1,4,[.int .i32 0]⟩),
 (22,⟨.func,1,8,[.nilv .func]⟩),
 (23,⟨.int .i64,1,8,[.int .i64 0]⟩),
 (24,⟨.sl 26,1,24,[.sl []]⟩),
 (25,⟨.st [(23,0,1),(3,1,1),(9,2,1),(24,3,1)],4,56,[.int .i64 0,.int .i64 0,.str [],.sl []]⟩),
 (26,⟨.st [(23,0,1),(3,1,1),(9,2,1),(24,3,1)],4,56,[.int .i64 0,.int .i64 0,.str [],.sl []]⟩),
 (27,⟨.int .i64,1,8,[.int .i64 0]⟩),
 (29,⟨.func,1,8,[.nilv .func]⟩),
 (30,⟨.func,1,8,[.nilv .func]⟩),
 (31,⟨.func,1,8,[.nilv .func]⟩),
 (32,⟨.int .i64,1,8,[.int .i64 0]⟩),
 (33,⟨.sl 9,1,24,[.sl []]⟩),
 (34,⟨.sl 36,1,24,[.sl []]⟩),
 (35,⟨.st [(32,0,1),(3,1,1),(3,2,1),(3,3,1),(9,4,1),(33,5,1),(34,6,1)],7,96,[.int .i64 0,.int .i64 0,.int .i64 0,.int .i64 0,.str [],.sl [],.sl []]⟩),
 (36,⟨.st [(32,0,1),(3,1,1),(3,2,1),(3,3,1),(9,4,1),(33,5,1),(34,6,1)],7,96,[.int .i64 0,.int .i64 0,.int .i64 0,.int .i64 0,.str [],.sl [],.sl []]⟩),
 (38,⟨.func,1,8,[.nilv .func]⟩),
 (39,⟨.func,1,8,[.nilv .func]⟩),
 (40,⟨.func,1,8,[.nilv .func]⟩),
 (42,⟨.func,1,8,[.nilv .func]⟩),
 (43,⟨.func,1,8,[.nilv .func]⟩),
 (44,⟨.func,1,8,[.nilv .func]⟩),
 (45,⟨.func,1,8,[.nilv .func]⟩),
 (46,⟨.sl 128,1,24,[.sl []]⟩),
 (47,⟨.sl 144,1,24,[.sl []]⟩),
 (48,⟨.st [(46,0,1),(47,1,1)],2,48,[.sl [],.sl []]⟩),
 (49,⟨.st [(46,0,1),(47,1,1)],2,48,[.sl [],.sl []]⟩),
 (51,⟨.func,1,8,[.nilv .func]⟩),
 (52,⟨.func,1,8,[.nilv .func]⟩),
 (53,⟨.func,1,8,[.nilv .func]⟩),
 (54,⟨.func,1,8,[.nilv .func]⟩),
 (55,⟨.func,1,8,[.nilv .func]⟩),
 (56,⟨.sl 5,1,24,[.sl []]⟩),
 (57,⟨.sl 62,1,24,[.sl []]⟩),
 (59,⟨.func,1,8,[.nilv .func]⟩),
 (60,⟨.int .i64,1,8,[.int .i64 0]⟩),
 (61,⟨.st [(60,0,1),(9,1,1),(3,2,1)],3,32,[.int .i64 0,.str [],.int .i64 0]⟩),
 (62,⟨.st [(60,0,1),(9,1,1),(3,2,1)],3,32,[.int .i64 0,.str [],.int .i64 0]⟩),
 (63,⟨.func,1,8,[.nilv .func]⟩),
 (64,⟨.func,1,8,[.nilv .func]⟩),
 (65,⟨.func,1,8,[.nilv .func]⟩),
 (67,⟨.func,1,8,[.nilv .func]⟩),
 (68,⟨.ptr 99,1,8,[.nilv .ptr]⟩),
 (69,⟨.func,1,8,[.nilv .func]⟩),
 (70,⟨.func,1,8,[.nilv .func]⟩),
 (71,⟨.func,1,8,[.nilv .func]⟩),
 (73,⟨.func,1,8,[.nilv .func]⟩),
 (74,⟨.func,1,8,[.nilv .func]⟩),
 (75,⟨.func,1,8,[.nilv .func]⟩),
 (76,⟨.func,1,8,[.nilv .func]⟩),
 (78,⟨.func,1,8,[.nilv .func]⟩),
 (79,⟨.func,1,8,[.nilv .func]⟩),
 (80,⟨.func,1,8,[.nilv .func]⟩),
 (81,⟨.func,1,8,[.nilv .func]⟩),
 (82,⟨.func,1,8,[.nilv .func]⟩),
 (83,⟨.func,1,8,[.nilv .func]⟩),
 (84,⟨.func,1,8,[.nilv .func]⟩),
 (85,⟨.func,1,8,[.nilv .func]⟩),
 (87,⟨.func,1,8,[.nilv .func]⟩),
 (88,⟨.func,1,8,[.nilv .func]⟩),
 (89,⟨.func,1,8,[.nilv .func]⟩),
 (90,⟨.func,1,8,[.nilv .func]⟩),
 (91,⟨.func,1,8,[.nilv .func]⟩),
 (92,⟨.func,1,8,[.nilv .func]⟩),
 (93,⟨.func,1,8,[.nilv .func]⟩),
 (95,⟨.func,1,8,[.nilv .func]⟩),
 (96,⟨.st [(3,0,1)],1,8,[.int .i64 0]⟩),
 (97,⟨.st [(3,0,1)],1,8,[.int .i64 0]⟩),
 (98,⟨.st [(57,0,1),(3,1,1),(3,2,1)],3,40,[.sl [],.int .i64 0,.int .i64 0]⟩),
 (99,⟨.st [(57,0,1),(3,1,1),(3,2,1)],3,40,[.sl [],.int .i64 0,.int .i64 0]⟩),
 (100,⟨.func,1,8,[.nilv .func]⟩),
 (101,⟨.ptr 103,1,8,[.nilv .ptr]⟩),
 (102,⟨.st [(3,0,1),(3,1,1),(4,2,1),(4,3,1),(4,4,1)],5,24,[.int .i64 0,.int .i64 0,.bool false,.bool false,.bool false]⟩),
 (103,⟨.st [(3,0,1),(3,1,1),(4,2,1),(4,3,1),(4,4,1)],5,24,[.int .i64 0,.int .i64 0,.bool false,.bool false,.bool false]⟩),
 (104,⟨.func,1,8,[.nilv .func]⟩),
 (105,⟨.func,1,8,[.nilv .func]⟩),
 (106,⟨.func,1,8,[.nilv .func]⟩),
 (107,⟨.func,1,8,[.nilv .func]⟩),
 (108,⟨.func,1,8,[.nilv .func]⟩),
 (109,⟨.st [(3,0,1),(3,1,1)],2,16,[.int .i64 0,.int .i64 0]⟩),
 (110,⟨.st [(3,0,1),(3,1,1)],2,16,[.int .i64 0,.int .i64 0]⟩),
 (111,⟨.func,1,8,[.nilv .func]⟩),
 (112,⟨.func,1,8,[.nilv .func]⟩),
 (113,⟨.func,1,8,[.nilv .func]⟩),
 (114,⟨.func,1,8,[.nilv .func]⟩),
 (115,⟨.func,1,8,[.nilv .func]⟩),
 (117,⟨.func,1,8,[.nilv .func]⟩),
 (119,⟨.func,1,8,[.nilv .func]⟩),
 (120,⟨.func,1,8,[.nilv .func]⟩),
 (121,⟨.func,1,8,[.nilv .func]⟩),
 (122,⟨.func,1,8,[.nilv .func]⟩),
 (123,⟨.func,1,8,[.nilv .func]⟩),
 (124,⟨.func,1,8,[.nilv .func]⟩),
 (125,⟨.func,1,8,[.nilv .func]⟩),
 (126,⟨.int .i64,1,8,[.int .i64 0]⟩),
 (127,⟨.st [(126,0,1),(9,1,1),(36,2,7),(3,9,1),(26,10,4),(46,14,1),(46,15,1),(47,16,1)],17,256,[.int .i64 0,.str [],.int .i64 0,.int .i64 0,.int .i64 0,.int .i64 0,.str [],.sl [],.sl [],.int .i64 0,.int .i64 0,.int .i64 0,.str [],.sl [],.sl [],.sl [],.sl []]⟩),
 (128,⟨.st [(126,0,1),(9,1,1),(36,2,7),(3,9,1),(26,10,4),(46,14,1),(46,15,1),(47,16,1)],17,256,[.int .i64 0,.str [],.int .i64 0,.int .i64 0,.int .i64 0,.int .i64 0,.str [],.sl [],.sl [],.int .i64 0,.int .i64 0,.int .i64 0,.str [],.sl [],.sl [],.sl [],.sl []]⟩),
 (130,⟨.func,1,8,[.nilv .func]⟩),
 (131,⟨.func,1,8,[.nilv .func]⟩),
 (132,⟨.func,1,8,[.nilv .func]⟩),
 (133,⟨.func,1,8,[.nilv .func]⟩),
 (135,⟨.func,1,8,[.nilv .func]⟩),
 (137,⟨.func,1,8,[.nilv .func]⟩),
 (138,⟨.func,1,8,[.nilv .func]⟩),
 (139,⟨.func,1,8,[.nilv .func]⟩),
 (140,⟨.func,1,8,[.nilv .func]⟩),
 (141,⟨.int .i64,1,8,[.int .i64 0]⟩),
 (142,⟨.sl 3,1,24,[.sl []]⟩),
 (143,⟨.st [(141,0,1),(26,1,4),(26,5,4),(9,9,1),(24,10,1),(3,11,1),(3,12,1),(3,13,1),(142,14,1),(47,15,1),(47,16,1)],17,256,[.int .i64 0,.int .i64 0,.int .i64 0,.str [],.sl [],.int .i64 0,.int .i64 0,.str [],.sl [],.str [],.sl [],.int .i64 0,.int .i64 0,.int .i64 0,.sl [],.sl [],.sl []]⟩),
 (144,⟨.st [(141,0,1),(26,1,4),(26,5,4),(9,9,1),(24,10,1),(3,11,1),(3,12,1),(3,13,1),(142,14,1),(47,15,1),(47,16,1)],17,256,[.int .i64 0,.int .i64 0,.int .i64 0,.str [],.sl [],.int .i64 0,.int .i64 0,.str [],.sl [],.str [],.sl [],.int .i64 0,.int .i64 0,.int .i64 0,.sl [],.sl [],.sl []]⟩),
 (145,⟨.func,1,8,[.nilv .func]⟩),
 (146,⟨.func,1,8,[.nilv .func]⟩),
 (147,⟨.func,1,8,[.nilv .func]⟩),
 (148,⟨.func,1,8,[.nilv .func]⟩),
 (149,⟨.func,1,8,[.nilv .func]⟩),
 (150,⟨.func,1,8,[.nilv .func]⟩),
 (151,⟨.func,1,8,[.nilv .func]⟩),
 (152,⟨.func,1,8,[.nilv .func]⟩),
 (153,⟨.func,1,8,[.nilv .func]⟩),
 (155,⟨.func,1,8,[.nilv .func]⟩),
 (156,⟨.func,1,8,[.nilv .func]⟩),
 (157,⟨.func,1,8,[.nilv .func]⟩),
 (158,⟨.func,1,8,[.nilv .func]⟩),
 (159,⟨.func,1,8,[.nilv .func]⟩),
 (160,⟨.func,1,8,[.nilv .func]⟩),
 (161,⟨.func,1,8,[.nilv .func]⟩),
 (162,⟨.func,1,8,[.nilv .func]⟩),
 (163,⟨.func,1,8,[.nilv .func]⟩),
 (165,⟨.func,1,8,[.nilv .func]⟩),
 (166,⟨.func,1,8,[.nilv .func]⟩),
 (167,⟨.func,1,8,[.nilv .func]⟩),
 (169,⟨.func,1,8,[.nilv .func]⟩),
 (170,⟨.func,1,8,[.nilv .func]⟩),
 (171,⟨.func,1,8,[.nilv .func]⟩),
 (172,⟨.func,1,8,[.nilv .func]⟩),
 (173,⟨.func,1,8,[.nilv .func]⟩),
 (174,⟨.func,1,8,[.nilv .func]⟩),
 (175,⟨.func,1,8,[.nilv .func]⟩),
 (176,⟨.func,1,8,[.nilv .func]⟩),
 (177,⟨.iface,1,16,[.nilv .iface]⟩),
 (178,⟨.iface,1,16,[.nilv .iface]⟩),
 (180,⟨.func,1,8,[.nilv .func]⟩),
 (181,⟨.func,1,8,[.nilv .func]⟩),
 (183,⟨.func,1,8,[.nilv .func]⟩),
 (184,⟨.func,1,8,[.nilv .func]⟩),
 (185,⟨.st [(4,0,1),(4,1,1),(4,2,1),(4,3,1),(4,4,1),(4,5,1),(4,6,1),(4,7,1),(4,8,1)],9,9,[.bool false,.bool false,.bool false,.bool false,.bool false,.bool false,.bool false,.bool false,.bool false]⟩),
 (186,⟨.st [(4,0,1),(4,1,1),(4,2,1),(4,3,1),(4,4,1),(4,5,1),(4,6,1),(4,7,1),(4,8,1)],9,9,[.bool false,.bool false,.bool false,.bool false,.bool false,.bool false,.bool false,.bool false,.bool false]⟩),
 (188,⟨.func,1,8,[.nilv .func]⟩),
 (189,⟨.func,1,8,[.nilv .func]⟩),
 (191,⟨.func,1,8,[.nilv .func]⟩),
 (193,⟨.func,1,8,[.nilv .func]⟩),
 (194,⟨.func,1,8,[.nilv .func]⟩),
 (195,⟨.func,1,8,[.nilv .func]⟩),
 (196,⟨.func,1,8,[.nilv .func]⟩),
 (197,⟨.func,1,8,[.nilv .func]⟩),
 (199,⟨.func,1,8,[.nilv .func]⟩),
 (200,⟨.func,1,8,[.nilv .func]⟩),
 (201,⟨.int .i64,1,8,[.int .i64 0]⟩),
 (203,⟨.func,1,8,[.nilv .func]⟩),
 (204,⟨.ptr 213,1,8,[.nilv .ptr]⟩),
 (205,⟨.func,1,8,[.nilv .func]⟩),
 (206,⟨.func,1,8,[.nilv .func]⟩),
 (207,⟨.func,1,8,[.nilv .func]⟩),
 (208,⟨.int .u64,1,8,[.int .u64 0]⟩),
 (210,⟨.func,1,8,[.nilv .func]⟩),
 (211,⟨.int .u64,1,8,[.int .u64 0]⟩),
 (212,⟨.st [(9,0,1),(9,1,1),(178,2,1)],3,48,[.str [],.str [],.nilv .iface]⟩),
 (213,⟨.st [(9,0,1),(9,1,1),(178,2,1)],3,48,[.str [],.str [],.nilv .iface]⟩),
 (214,⟨.func,1,8,[.nilv .func]⟩),
 (215,⟨.func,1,8,[.nilv .func]⟩),
 (216,⟨.func,1,8,[.nilv .func]⟩),
 (217,⟨.ptr 5,1,8,[.nilv .ptr]⟩),
 (218,⟨.ptr 220,1,8,[.nilv .ptr]⟩),
 (219,⟨.st [(9,0,1)],1,16,[.str []]⟩),
 (220,⟨.st [(9,0,1)],1,16,[.str []]⟩),
 (221,⟨.int .u32,1,4,[.int .u32 0]⟩),
 (223,⟨.func,1,8,[.nilv .func]⟩),
 (224,⟨.func,1,8,[.nilv .func]⟩),
 (225,⟨.func,1,8,[.nilv .func]⟩),
 (226,⟨.arr 24 5,24,24,[.int .u8 0,.int .u8 0,.int .u8 0,.int .u8 0,.int .u8 0,.int .u8 0,.int .u8 0,.int .u8 0,.int .u8 0,.int .u8 0,.int .u8 0,.int .u8 0,.int .u8 0,.int .u8 0,.int .u8 0,.int .u8 0,.int .u8 0,.int .u8 0,.int .u8 0,.int .u8 0,.int .u8 0,.int .u8 0,.int .u8 0,.int .u8 0]⟩),
 (227,⟨.func,1,8,[.nilv .func]⟩),
 (228,⟨.func,1,8,[.nilv .func]⟩),
 (230,⟨.func,1,8,[.nilv .func]⟩),
 (231,⟨.func,1,8,[.nilv .func]⟩),
 (232,⟨.arr 20 208,20,160,[.int .u64 0,.int .u64 0,.int .u64 0,.int .u64 0,.int .u64 0,.int .u64 0,.int .u64 0,.int .u64 0,.int .u64 0,.int .u64 0,.int .u64 0,.int .u64 0,.int .u64 0,.int .u64 0,.int .u64 0,.int .u64 0,.int .u64 0,.int .u64 0,.int .u64 0,.int .u64 0]⟩),
 (233,⟨.arr 65 5,65,65,[.int .u8 0,.int .u8 0,.int .u8 0,.int .u8 0,.int .u8 0,.int .u8 0,.int .u8 0,.int .u8 0,.int .u8 0,.int .u8 0,.int .u8 0,.int .u8 0,.int .u8 0,.int .u8 0,.int .u8 0,.int .u8 0,.int .u8 0,.int .u8 0,.int .u8 0,.int .u8 0,.int .u8 0,.int .u8 0,.int .u8 0,.int .u8 0,.int .u8 0,.int .u8 0,.int .u8 0,.int .u8 0,.int .u8 0,.int .u8 0,.int .u8 0,.int .u8 0,.int .u8 0,.int .u8 0,.int .u8 0,.int .u8 0,.int .u8 0,.int .u8 0,.int .u8 0,.int .u8 0,.int .u8 0,.int .u8 0,.int .u8 0,.int .u8 0,.int .u8 0,.int .u8 0,.int .u8 0,.int .u8 0,.int .u8 0,.int .u8 0,.int .u8 0,.int .u8 0,.int .u8 0,.int .u8 0,.int .u8 0,.int .u8 0,.int .u8 0,.int .u8 0,.int .u8 0,.int .u8 0,.int .u8 0,.int .u8 0,.int .u8 0,.int .u8 0,.int .u8 0]⟩),
 (234,⟨.func,1,8,[.nilv .func]⟩),
 (235,⟨.func,1,8,[.nilv .func]⟩),
 (236,⟨.arr 32 5,32,32,[.int .u8 0,.int .u8 0,.int .u8 0,.int .u8 0,.int .u8 0,.int .u8 0,.int .u8 0,.int .u8 0,.int .u8 0,.int .u8 0,.int .u8 0,.int .u8 0,.int .u8 0,.int .u8 0,.int .u8 0,.int .u8 0,.int .u8 0,.int .u8 0,.int .u8 0,.int .u8 0,.int .u8 0,.int .u8 0,.int .u8 0,.int .u8 0,.int .u8 0,.int .u8 0,.int .u8 0,.int .u8 0,.int .u8 0,.int .u8 0,.int .u8 0,.int .u8 0]⟩),
 (237,⟨.arr 64 5,64,64,[.int .u8 0,.int .u8 0,.int .u8 0,.int .u8 0,.int .u8 0,.int .u8 0,.int .u8 0,.int .u8 0,.int .u8 0,.int .u8 0,.int .u8 0,.int .u8 0,.int .u8 0,.int .u8 0,.int .u8 0,.int .u8 0,.int .u8 0,.int .u8 0,.int .u8 0,.int .u8 0,.int .u8 0,.int .u8 0,.int .u8 0,.int .u8 0,.int .u8 0,.int .u8 0,.int .u8 0,.int .u8 0,.int .u8 0,.int .u8 0,.int .u8 0,.int .u8 0,.int .u8 0,.int .u8 0,.int .u8 0,.int .u8 0,.int .u8 0,.int .u8 0,.int .u8 0,.int .u8 0,.int .u8 0,.int .u8 0,.int .u8 0,.int .u8 0,.int .u8 0,.int .u8 0,.int .u8 0,.int .u8 0,.int .u8 0,.int .u8 0,.int .u8 0,.int .u8 0,.int .u8 0,.int .u8 0,.int .u8 0,.int .u8 0,.int .u8 0,.int .u8 0,.int .u8 0,.int .u8 0,.int .u8 0,.int .u8 0,.int .u8 0,.int .u8 0]⟩),
 (238,⟨.st [(17,0,1),(17,1,1),(17,2,1),(9,3,1)],4,40,[.nilv .ptr,.nilv .ptr,.nilv .ptr,.str []]⟩),
 (239,⟨.st [(17,0,1),(17,1,1),(17,2,1),(9,3,1)],4,40,[.nilv .ptr,.nilv .ptr,.nilv .ptr,.str []]⟩),
 (243,⟨.int .u8,1,1,[.int .u8 0]⟩),
 (244,⟨.int .u8,1,1,[.int .u8 0]⟩),
 (245,⟨.func,1,8,[.nilv .func]⟩),
 (246,⟨.int .i32,1,4,[.int .i32 0]⟩),
 (247,⟨.int .i32,1,4,[.int .i32 0]⟩),
 (248,⟨.st [(12,0,1),(12,1,1),(221,2,1),(243,3,1),(5,4,1),(5,5,1),(244,6,1),(245,7,1),(217,8,1),(246,9,1),(247,10,1)],11,48,[.int .u64 0,.int .u64 0,.int .u32 0,.int .u8 0,.int .u8 0,.int .u8 0,.int .u8 0,.nilv .func,.nilv .ptr,.int .i32 0,.int .i32 0]⟩),
 (249,⟨.st [(12,0,1),(12,1,1),(221,2,1),(243,3,1),(5,4,1),(5,5,1),(244,6,1),(245,7,1),(217,8,1),(246,9,1),(247,10,1)],11,48,[.int .u64 0,.int .u64 0,.int .u32 0,.int .u8 0,.int .u8 0,.int .u8 0,.int .u8 0,.nilv .func,.nilv .ptr,.int .i32 0,.int .i32 0]⟩)]
theorem tok:TOk Tryz.prog T:=N1n _ _ (by kernel_rfl)
def Gp (M:Mem)(w:World):Prop:=(∃ m:Int,M ⟨2,0,none⟩=some (.int .i64 m))∧(∀ (j:Nat) z,Lib.pow10Tab[j]?=some z→M ⟨3,j,none⟩=some (.int .u64 z))∧Lib.TabIs Tryz.prog w "internal/strconv.uint64pow10" .u64 Lib.pow10Tab
noncomputable def C:Cx:=⟨Tryz.prog,T,[],Gp,fun {M M' w w'} hm hb h=>(by
 obtain ⟨⟨m,h0⟩,h1,h2⟩:=h
 exact ⟨⟨m,hm _ _ h0⟩,fun j z hz=>hm _ _ (h1 j z hz),E1m (by kernel_rfl) (by decide) h1 hb h2⟩)⟩
theorem follows:Tryz.prog.follows .mixedOrders=true:=by kernel_rfl
theorem hC:C3 C:=⟨tok,follows⟩
end Go.Proofs.YtmnhfbekncjnfaaGreatDoor

set_option linter.unusedVariables false
set_option linter.unusedSimpArgs false
namespace Go.Proofs.YtmnhfbekncjnfaaGreatDoor
open Go.Am
def Bp (s t:Str):Option Bool:=if decide (s.length < 4294967281)=true then some (Lib.contains s t) else none
theorem L13 {s t:Str}{res:Bool}(hh:Bp s t=some res):P0 C 187 [.d (.str s),.d (.str t)] [] (fun x H'=>H'=[]∧x = .d (.bool res)):=by
 obtain ⟨hs,hh⟩:=N0 hh
 cases hh
 refine P0.ofBelow (K17 Tryz.func187 rfl rfl) fun M G w vs hg hgl hl hr=>?_
 obtain ⟨h0,_⟩:=K11 hl hr (i:=0) rfl
 obtain ⟨h1,_⟩:=K11 hl hr (i:=1) rfl
 obtain rfl:=E1v hl.symm h0 h1
 obtain ⟨⟨m,hm⟩,_⟩:=hgl.gp
 refine ⟨.bool (Lib.contains s t),fun _ _=>.d .bool,(Tryz.strings_Contains ⟨s.toArray⟩ ⟨t.toArray⟩ m w (by rw [Mz]; exact hs) (hg.at hm rfl)).mono ?_⟩
 rintro e w' ⟨he,rfl⟩
 exact ⟨by simpa using he,.refl _ _⟩
theorem Ck:∀ (k u:Nat),u < 10 ^ (k+1)→(Lib.decDigits u).length≤k+1
 | 0,u,h=>by rw [Lib.decDigits,dif_pos (by simpa using h)]; simp
 | k+1,u,h=>by
  rw [Lib.decDigits]
  split
  ·simp
  ·rw [List.length_append]
   have:=Ck k (u / 10) (by rw [Nat.div_lt_iff_lt_mul (by decide)]; rw [Nat.pow_succ] at h; exact h)
   simp; omega
theorem Q1r {n:Int}(h : -1000000000000000000 < n∧n < 1000000000000000000):(Lib.itoa n).length≤19:=by
 unfold Lib.itoa
 split
 ·have:=Ck 17 n.natAbs (by omega)
  simp; omega
 ·have:=Ck 17 n.toNat (by omega)
  omega
end Go.Proofs.YtmnhfbekncjnfaaGreatDoor

set_option maxRecDepth 100000
set_option maxHeartbeats 1000000
namespace Go.Proofs.YtmnhfbekncjnfaaGreatDoor
open Go.Am
theorem neC:Nonempty (C3 C):=⟨hC⟩
attribute [local instance] neC
def B3 (n:Int):Value:=.iface 97 (.agg #[.int .i64 n])
theorem F1b (va vb:Value)(w:World):CallsD Tryz.prog 58 #[va,vb] .returning w fun e u w'=>(∃ v,e = .returned v)∧u = .returning∧w'=w:=by
 refine callsD_of_wpS Tryz.func58 rfl fun c₀ cs hu=>?_
 apply wpS_seq
 apply wpS_region
 simp [wpOpsS,go_sem,recoverD,hu,Tryz.ntmps58,Exit.thenS]
 refine wpS_of_wp ?_
 go_wp2
 cases c₀
 simp_all [bodyPostS,results,Tryz.results58]
noncomputable def G1b:Code:=match Tryz.f58.body with
 | some (.seq _ (.block _ (.seq _ (.cond _ _ (.seq _ (.cond _ y _))))))=>y
 | _=>.skip
theorem O1o {x1 x2 m:Int}{t1 t2:TypeId}:AEx ⟨C,⟨13,[]⟩,2,Qo,Pj⟩ G1b (fun t=>match t with | 0=>.ref 0 0 | 1=>.ref 1 0 | 10=>.agg [.d (.int .i64 m)] | _=>.junk) [.row [.d (.int .i64 x1)] t1,.row [.d (.int .i64 x2)] t2]
  (fun x _ h=>x = .normal∧h=[.row [.d (.int .i64 m)] t1,.row [.d (.int .i64 6)] t2,.row [.d (.int .i64 m)] 97]):=by
 unfold G1b
 refine s' rfl rfl (F0.n hC rfl (F0.s hC rfl (n' ?_)))
 refine P' 2 rfl (F0.s hC rfl (F0.s hC rfl (n' ⟨rfl,rfl⟩)))
theorem L1v (m:Int)(w:World):(Instr.typeAssert (.iface 97 (.agg #[.int .i64 m])) 20 97 true).run Tryz.prog w = .ok (.tuple #[.agg #[.int .i64 m],.bool true]) w:=by kernel_rfl
theorem P1o {M:Mem}{G:Nat→Value}{w:World}{x1 x2 m:Int}{t1 t2:TypeId}{va vb:Value}(hm:InK .i64 m)(hg:Am.Good M w)(hgl:Qq C M w)(hh:Y9 M G w [.row [.d (.int .i64 x1)] t1,.row [.d (.int .i64 x2)] t2])(ra:I1 M G (.ref 0 0) va)(rb:I1 M G (.ref 1 0) vb)(a:Act)(h0:a.tmps.size=13)(hd:a.defers=[])
  (e0:a.tmps.getD 0 undef=va) (e1:a.tmps.getD 1 undef=vb) (e2:a.tmps.getD 10 undef = .agg #[.int .i64 m]) {Q:Exit→Act→World→Prop}
  (hQ:∀ a' w' v,a'.defers=[]→(results Tryz.f58 a'.tmps).run Tryz.prog w' = .ok v w'→Bm M G w [.row [.d (.int .i64 x1)] t1,.row [.d (.int .i64 x2)] t2] (fun _ h=>h=[.row [.d (.int .i64 m)] t1,.row [.d (.int .i64 6)] t2]) (.returned v) w'→Q .normal a' w'):G1b.wp Tryz.prog Q a w:=by
 have hs:St C ⟨13,[]⟩ M G w (fun t=>match t with | 0=>.ref 0 0 | 1=>.ref 1 0 | 10=>.agg [.d (.int .i64 m)] | _=>.junk) [.row [.d (.int .i64 x1)] t1,.row [.d (.int .i64 x2)] t2] a:=by
  refine ⟨hg,hgl,hh,fun t=>?_,h0,hd⟩
  split
  ·rw [e0]; exact ra
  ·rw [e1]; exact rb
  ·rw [e2]
   refine .agg rfl (fun i v hv=>?_) fun i x v hx hv=>?_
   ·match i,hv with
    | 0,hv=>cases hv; rfl
    | i+1,hv=>simp at hv
   ·match i,hx,hv with
    | 0,hx,hv=>cases hx; cases hv; exact .d (.int hm)
    | i+1,hx,_=>simp at hx
  ·exact .junk
 have hsi:L2 ⟨[.row [.d (.int .i64 x1)] t1,.row [.d (.int .i64 x2)] t2],G,M,w⟩ M G w [.row [.d (.int .i64 x1)] t1,.row [.d (.int .i64 x2)] t2]:=⟨Ext.refl _ _ _,fun b hb=>.inl hb,Nat.le_refl _,fun _ _ _ _=>rfl,fun o x y hx ht hy=>by rw [hx] at hy; exact Option.some.inj hy ▸ ht⟩
 refine wp_mono (P:=C.P) (O1o (x1:=x1) (x2:=x2) (m:=m) (t1:=t1) (t2:=t2) ⟨_,G,M,w⟩ M G w _ rfl hs hsi) fun e a' w' he=>?_
 rcases he with ⟨x,env',H',M',G',rfl,⟨rfl,rfl⟩,hs',hsi'⟩ | ⟨_,_,_,_,_,_,h,_⟩ | ⟨_,h⟩
 ·obtain ⟨v,h1,h2⟩:=Fs (F:=⟨C,⟨13,[]⟩,2,Qo,Pj⟩) (fn:=Tryz.f58) (Q:=fun _ h=>h=[.row [.d (.int .i64 m)] t1,.row [.d (.int .i64 6)] t2]) hC rfl hs' hsi' (x:=.normal) (by
   obtain ⟨r0,r,H2,k1,k2,k3,k4,k5,k6,k7⟩:=rn' (F:=⟨C,⟨13,[]⟩,2,Qo,Pj⟩) (rs:=Tryz.f58.results.toList) (x:=.tup []) (env:=env') (H:=[.row [.d (.int .i64 m)] t1,.row [.d (.int .i64 6)] t2,.row [.d (.int .i64 m)] 97]) (H':=[.row [.d (.int .i64 m)] t1,.row [.d (.int .i64 6)] t2]) rfl rfl rfl
   exact ⟨r0,r,H2,k1,k2,k3,k4,k5,k6⟩)
  exact hQ a' w' v hs'.defers h1 h2
 ·exact h.elim
 ·exact h.elim
theorem R1e (x1:Int)(t1:TypeId)(x2:Int)(t2:TypeId)(m:Int)(hm:InK .i64 m):E1t C 58 [.ref 0 0,.ref 1 0] [.row [.d (.int .i64 x1)] t1,.row [.d (.int .i64 x2)] t2] (.panicking [{ v:=B3 m,recovered:=false }]) (.panicking [{ v:=B3 m,recovered:=true }]) [.row [.d (.int .i64 m)] t1,.row [.d (.int .i64 6)] t2]:=by
 refine ⟨K17 Tryz.func58 rfl rfl,fun M G w vs hg hgl hh hl hr=>?_⟩
 have hb:Tryz.f58.body=some (.seq _ (.block 0 (.seq _ (.cond (.tmp 7) _ (.seq _ (.cond (.tmp 9) G1b _)))))):=rfl
 obtain ⟨va,vb,rfl⟩:∃ va vb,vs = #[va,vb]:=by
  refine ⟨vs[0]!,vs[1]!,?_⟩
  apply Array.ext
  ·rw [← hl]; rfl
  ·intro i h1 h2
   match i,h2 with
   | 0,_=>simp [← hl]
   | 1,_=>simp [← hl]
 have ra:=hr 0 _ va rfl rfl
 have rb:=hr 1 _ vb rfl rfl
 refine callsD_of_wpS (P:=Tryz.prog) Tryz.func58 hb fun c₀ cs hu=>?_
 apply wpS_seq
 apply wpS_region
 simp [wpOpsS,go_sem,recoverD,hu,Tryz.ntmps58,Exit.thenS]
 refine wpS_of_wp ?_
 unfold B3
 go_wp2
 simp [Oper.upon,L1v]
 go_wp2
 refine P1o hm hg hgl hh ra rb _ ?_ rfl ?_ ?_ ?_ fun a' w' v k1 k2 k3=>⟨k1,_,rfl,v,k2,rfl,k3⟩
 ·simp
 ·simp
 ·simp
 ·simp
def Oy (s:Str)(c:Int):Option Int:=some (Lib.indexByte s c.toNat.toUInt8)
theorem M15 (c:UInt8):∀ l:List UInt8,Lib.indexByte l c≤l.length
 | []=>by simp [Lib.indexByte]
 | b::l=>by
  have:=M15 c l
  simp only [Lib.indexByte,List.length_cons]
  split
  ·omega
  ·split <;> omega
theorem X1c {s:Str}{c:Int}{res:Int}(hh:Oy s c=some res):P0 C 188 [.d (.str s),.d (.int .u8 c)] [] (fun x H'=>H'=[]∧x = .d (.int .i64 res)):=by
 cases hh
 refine P0.ofBelow (K17 Tryz.func188 rfl rfl) fun M G w vs hg hgl hl hr=>?_
 obtain ⟨h0,hm⟩:=K11 hl hr (i:=0) rfl
 obtain ⟨h1,_⟩:=K1r hl hr (i:=1) rfl
 obtain rfl:=E1v hl.symm h0 h1
 refine ⟨.int .i64 (Lib.indexByte s c.toNat.toUInt8),fun _ _=>.d (.int ?_),(Tryz.strings_IndexByte ⟨s.toArray⟩ c w).mono ?_⟩
 ·have h1:=M15 c.toNat.toUInt8 s
  have h2:=Lib.indexByte_ge s c.toNat.toUInt8
  unfold maxLen at hm
  rw [C17]
  omega
 ·rintro e w' ⟨he,rfl⟩
  exact ⟨by simpa using he,.refl _ _⟩
def N15 (s:Str):Option Int:=if decide (s.length≤18)=true then Lib.atoi s else none
theorem H1b:∀ (l:List UInt8) (a n k:Nat),Lib.decFrom a l=some n→a < 10 ^ k→n < 10 ^ (k+l.length)
 | [],a,n,k,h,ha=>by cases h; simpa using ha
 | b::l,a,n,k,h,ha=>by
  unfold Lib.decFrom at h
  cases hd:Lib.digitVal b with
  | none=>rw [hd] at h; cases h
  | some d=>
   rw [hd] at h
   have hd9:d < 10:=by
    unfold Lib.digitVal at hd
    split at hd
    ·cases hd; omega
    ·cases hd
   have:=H1b l _ n (k+1) h (by rw [Nat.pow_succ]; omega)
   rw [List.length_cons,show k+(l.length+1)=k+1+l.length by omega]
   exact this
theorem Q1o {s:Str}{res:Int}(hh:N15 s=some res):P0 C 171 [.d (.str s)] [] (fun x H'=>H'=[]∧x = .tup [.d (.int .i64 res),.d (.nilv .iface)]):=by
 obtain ⟨hs,hh⟩:=N0 hh
 refine P0.ofBelow (K17 Tryz.func171 rfl rfl) fun M G w vs hg hgl hl hr=>?_
 obtain ⟨h0,_⟩:=K11 hl hr (i:=0) rfl
 obtain rfl:=B1y hl.symm h0
 have hb : -1000000000000000000 < res∧res < 1000000000000000000:=by
  have p18:∀ (l:List UInt8) (n:Nat),l.length≤18→Lib.decNat l=some n→n < 1000000000000000000:=fun l n h1 h2=>by
   unfold Lib.decNat at h2
   cases l with
   | nil=>cases h2
   | cons b l=>
    have:=H1b (b::l) 0 n 0 h2 (by decide)
    have h3:10 ^ (0+(b::l).length)≤10 ^ 18:=Nat.pow_le_pow_right (by decide) (by omega)
    omega
  cases s with
  | nil=>cases hh
  | cons b r=>
   have hl1:r.length≤18:=by simp only [List.length_cons] at hs; omega
   unfold Lib.atoi at hh
   simp only at hh
   split at hh
   ·cases hd:Lib.decNat r with
    | none=>rw [hd] at hh; cases hh
    | some n=>rw [hd] at hh; cases hh; have:=p18 r n hl1 hd; simp only; omega
   ·split at hh
    ·cases hd:Lib.decNat r with
     | none=>rw [hd] at hh; cases hh
     | some n=>rw [hd] at hh; cases hh; have:=p18 r n hl1 hd; simp only; omega
    ·cases hd:Lib.decNat (b::r) with
     | none=>rw [hd] at hh; cases hh
     | some n=>rw [hd] at hh; cases hh; have:=p18 _ n hs hd; simp only; omega
 refine ⟨.tuple #[.int .i64 res,.nilIface],fun _ _=>.tup rfl fun i x v hx hv=>?_,(Tryz.strconv_Atoi ⟨s.toArray⟩ res (by rw [Mz]; exact hs) hh w).mono ?_⟩
 ·match i,hx,hv with
  | 0,hx,hv=>cases hx; cases hv; exact .d (.int (by rw [C17]; omega))
  | 1,hx,hv=>cases hx; cases hv; exact .d .niliface
  | i+2,hx,_=>simp at hx
 ·rintro e w' ⟨he,t,rfl⟩
  exact ⟨he,Joins.below_bytesWorld _ _ _ _ (Nat.le_refl _)⟩
end Go.Proofs.YtmnhfbekncjnfaaGreatDoor

