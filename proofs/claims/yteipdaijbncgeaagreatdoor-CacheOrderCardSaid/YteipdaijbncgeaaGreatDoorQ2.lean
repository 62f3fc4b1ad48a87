/- Texts of this claim, laid together: Ty, Shelf, Plain, Small, V, VcN. -/
import Derived.Test.YteipdaijbncgeaaGreatDoorProg
import Derived.Shelf.Strings.Builder1
import Derived.Shelf.Strings.Builder2
import Derived.Shelf.Small.Utf8
import Derived.Shelf.Small.Strs
import Derived.Shelf.Small.Wraps
import Derived.Shelf.Strings.BuilderF
import Derived.Shelf.Strings.BuilderK
import Derived.Shelf.Strings.Search1
import Derived.Shelf.Strings.Search2
import Derived.Shelf.Strings.Search3
import Derived.Shelf.Strings.Cut
import Derived.Shelf.Strings.Count
import Derived.Shelf.LaysM
import Derived.Shelf.Strings.Shaped
import Derived.Shelf.Strings.LastIndex
import Derived.Shelf.Strings.Prefix
import Derived.Shelf.Strings.Split
import Derived.Shelf.Strings.Replace
import Derived.Shelf.Strings.SplitShaped
import Derived.Shelf.Strings.Runes
import Derived.Shelf.Strings.IndexAny
import Derived.Shelf.Strings.AsciiSet
import Derived.Shelf.Strings.IndexAnyAll
import Derived.Shelf.Unicode.DecodeSlow
import Derived.Lib.IndexMore
import Derived.Lib.Split
import Derived.Lib.SplitLaws
import Derived.Lib.CutLaws
import Derived.Lib.ConvBytes
import Derived.Laws.IdiomStrings
import Derived.Laws.BytesArg
import Derived.Great.BuildSlice
import Derived.Test.YteipdaijbncgeaaGreatDoorQ1
open List renaming toArray → zJg, length_append → zJh, length_cons → zJj, getElem?_eq_some_iff → zJk, mem_cons → zJl, eq_nil_of_length_eq_zero → zJp, mem_cons_of_mem → zJq, map_append → zJs
open Nat renaming le_refl → zJi, add_mul → zJm, mul_le_mul_right → zJn, lt_succ_self → zJo
open Array renaming ext' → zJr
set_option linter.all false
set_option maxHeartbeats 16000000
set_option maxRecDepth 20000
namespace Go.Proofs
open Go Vc
set_option maxRecDepth 100000
def Tryz.Γl:List (Nat × Vc.TI):=[(1,⟨1,8,false,[.v .nilFunc],.other,false⟩),
 (2,⟨1,8,false,[.int .i64 0],.int .i64,false⟩),
 (3,⟨1,8,false,[.int .i64 0],.int .i64,false⟩),
 (4,⟨1,1,false,[.bool false],.bool,false⟩),
 (5,⟨1,1,false,[.int .u8 0],.int .u8,false⟩),
 (6,⟨1,1,false,[.int .u8 0],.int .u8,false⟩),
 (7,⟨4,24,true,[.int .i64 0,.int .i64 0,.bool false,.int .u8 0],.struct [(0,2),(1,3),(2,4),(3,6)],false⟩),
 (8,⟨4,24,true,[.int .i64 0,.int .i64 0,.bool false,.int .u8 0],.struct [(0,2),(1,3),(2,4),(3,6)],false⟩),
 (9,⟨1,16,false,[.str []],.str,false⟩),
 (10,⟨1,16,false,[.str []],.str,false⟩),
 (11,⟨1,16,false,[.str []],.str,false⟩),
 (12,⟨1,8,false,[.int .u64 0],.int .u64,false⟩),
 (13,⟨2,24,true,[.str [],.int .u64 0],.struct [(0,9),(1,12)],false⟩),
 (14,⟨2,24,true,[.str [],.int .u64 0],.struct [(0,9),(1,12)],false⟩),
 (15,⟨1,8,false,[.v (.pointer none)],.ptr 219,false⟩),
 (16,⟨1,8,false,[.v (.pointer none)],.ptr 222,false⟩),
 (17,⟨1,8,false,[.v (.pointer none)],.ptr 229,false⟩),
 (18,⟨1,8,true,[.v (.pointer none)],.struct [(0,17)],false⟩),
 (19,⟨1,8,true,[.v (.pointer none)],.struct [(0,17)],false⟩),
 (20,⟨1,16,false,[.v .nilIface],.other,false⟩),
 (21,⟨1,4,false,[.int .i32 0],.int .i32,false⟩),
 (22,⟨1,24,false,[.aD],.slice 43,false⟩),
 (23,⟨2,32,true,[.int .i64 0,.aD],.struct [(0,3),(1,22)],false⟩),
 (24,⟨2,32,true,[.int .i64 0,.aD],.struct [(0,3),(1,22)],false⟩),
 (25,⟨1,24,false,[.aD],.slice 5,false⟩),
 (26,⟨1,8,false,[.v .nilFunc],.other,false⟩),
 (27,⟨1,8,false,[.v .nilFunc],.other,false⟩),
 (28,⟨1,8,false,[.int .i64 0],.int .i64,false⟩),
 (30,⟨1,8,false,[.v .nilFunc],.other,false⟩),
 (31,⟨1,8,false,[.int .u64 0],.int .u64,false⟩),
 (33,⟨1,8,false,[.v .nilFunc],.other,false⟩),
 (34,⟨1,8,false,[.v (.pointer none)],.ptr 43,false⟩),
 (35,⟨4,48,true,[.int .i64 0,.str [],.str [],.int .i64 0],.struct [(0,3),(1,9),(2,9),(3,3)],false⟩),
 (36,⟨4,48,true,[.int .i64 0,.str [],.str [],.int .i64 0],.struct [(0,3),(1,9),(2,9),(3,3)],true⟩),
 (37,⟨2,16,true,[.bool false,.int .u64 0],.struct [(0,4),(1,31)],false⟩),
 (38,⟨2,16,true,[.bool false,.int .u64 0],.struct [(0,4),(1,31)],true⟩),
 (39,⟨1,24,false,[.aD],.slice 93,false⟩),
 (40,⟨12,144,true,[.int .i64 0,.int .i64 0,.str [],.str [],.int .i64 0,.int .i64 0,.str [],.str [],.int .i64 0,.bool false,.int .u64 0,.aD],.struct [(0,28),(1,36),(5,36),(9,38),(11,39)],false⟩),
 (41,⟨12,144,true,[.int .i64 0,.int .i64 0,.str [],.str [],.int .i64 0,.int .i64 0,.str [],.str [],.int .i64 0,.bool false,.int .u64 0,.aD],.struct [(0,28),(1,36),(5,36),(9,38),(11,39)],false⟩),
 (42,⟨14,160,true,[.int .i64 0,.int .i64 0,.str [],.str [],.int .i64 0,.int .i64 0,.str [],.str [],.int .i64 0,.bool false,.int .u64 0,.aD,.int .u64 0,.int .u64 0],.struct [(0,41),(12,31),(13,31)],false⟩),
 (43,⟨14,160,true,[.int .i64 0,.int .i64 0,.str [],.str [],.int .i64 0,.int .i64 0,.str [],.str [],.int .i64 0,.bool false,.int .u64 0,.aD,.int .u64 0,.int .u64 0],.struct [(0,41),(12,31),(13,31)],false⟩),
 (44,⟨1,8,false,[.v .nilFunc],.other,false⟩),
 (45,⟨1,8,false,[.v .nilFunc],.other,false⟩),
 (46,⟨1,8,false,[.v .nilFunc],.other,false⟩),
 (47,⟨1,8,false,[.v .nilFunc],.other,false⟩),
 (48,⟨1,8,false,[.v .nilFunc],.other,false⟩),
 (49,⟨1,8,false,[.v .nilFunc],.other,false⟩),
 (50,⟨1,8,false,[.v .nilFunc],.other,false⟩),
 (51,⟨1,24,false,[.aD],.slice 41,false⟩),
 (53,⟨1,8,false,[.v .nilFunc],.other,false⟩),
 (54,⟨1,8,false,[.v .nilFunc],.other,false⟩),
 (55,⟨1,8,false,[.v .nilFunc],.other,false⟩),
 (56,⟨1,8,false,[.v .nilFunc],.other,false⟩),
 (57,⟨1,8,false,[.v (.pointer none)],.ptr 76,false⟩),
 (58,⟨1,8,false,[.v .nilFunc],.other,false⟩),
 (59,⟨1,8,false,[.v .nilFunc],.other,false⟩),
 (60,⟨1,8,false,[.v .nilFunc],.other,false⟩),
 (61,⟨1,8,false,[.v .nilFunc],.other,false⟩),
 (63,⟨1,8,false,[.v .nilFunc],.other,false⟩),
 (64,⟨1,8,false,[.v .nilFunc],.other,false⟩),
 (65,⟨1,8,false,[.v .nilFunc],.other,false⟩),
 (67,⟨1,8,false,[.v .nilFunc],.other,false⟩),
 (68,⟨1,8,false,[.v .nilFunc],.other,false⟩),
 (69,⟨1,8,false,[.v .nilFunc],.other,false⟩),
 (70,⟨1,8,false,[.v .nilFunc],.other,false⟩),
 (71,⟨1,8,false,[.v .nilFunc],.other,false⟩),
 (72,⟨1,8,false,[.v .nilFunc],.other,false⟩),
 (73,⟨1,8,false,[.v .nilFunc],.other,false⟩),
 (74,⟨1,8,false,[.v .nilFunc],.other,false⟩),
 (75,⟨1,24,true,[.aD],.struct [(0,25)],false⟩),
 (76,⟨1,24,true,[.aD],.struct [(0,25)],false⟩),
 (77,⟨1,8,false,[.v .nilFunc],.other,false⟩),
 (78,⟨1,8,false,[.v .nilFunc],.other,false⟩),
 (79,⟨2,32,true,[.str [],.str []],.struct [(0,9),(1,9)],false⟩),
 (80,⟨2,32,true,[.str [],.str []],.struct [(0,9),(1,9)],true⟩),
 (82,⟨1,8,false,[.v .nilFunc],.other,false⟩),
 (83,⟨1,8,false,[.v .nilFunc],.other,false⟩),
 (84,⟨2,32,true,[.str [],.str []],.struct [(0,9),(1,9)],false⟩),
 (85,⟨2,32,true,[.str [],.str []],.struct [(0,9),(1,9)],true⟩),
 (87,⟨1,8,false,[.v .nilFunc],.other,false⟩),
 (88,⟨1,8,false,[.v .nilFunc],.other,false⟩),
 (89,⟨1,8,false,[.v .nilFunc],.other,false⟩),
 (90,⟨7,80,true,[.str [],.int .i64 0,.str [],.str [],.str [],.bool false,.bool false],.struct [(0,9),(1,3),(2,9),(3,9),(4,9),(5,4),(6,4)],false⟩),
 (91,⟨7,80,true,[.str [],.int .i64 0,.str [],.str [],.str [],.bool false,.bool false],.struct [(0,9),(1,3),(2,9),(3,9),(4,9),(5,4),(6,4)],true⟩),
 (92,⟨9,96,true,[.str [],.int .i64 0,.str [],.str [],.str [],.bool false,.bool false,.int .i64 0,.int .i64 0],.struct [(0,91),(7,3),(8,28)],false⟩),
 (93,⟨9,96,true,[.str [],.int .i64 0,.str [],.str [],.str [],.bool false,.bool false,.int .i64 0,.int .i64 0],.struct [(0,91),(7,3),(8,28)],true⟩),
 (94,⟨1,8,false,[.v .nilFunc],.other,false⟩),
 (95,⟨1,8,false,[.v .nilFunc],.other,false⟩),
 (96,⟨1,8,false,[.v (.pointer none)],.ptr 99,false⟩),
 (97,⟨1,24,false,[.aD],.slice 3,false⟩),
 (98,⟨2,48,true,[.aD,.aD],.struct [(0,22),(1,97)],false⟩),
 (99,⟨2,48,true,[.aD,.aD],.struct [(0,22),(1,97)],false⟩),
 (100,⟨1,8,false,[.v .nilFunc],.other,false⟩),
 (101,⟨1,8,false,[.v .nilFunc],.other,false⟩),
 (102,⟨1,8,false,[.v .nilFunc],.other,false⟩),
 (103,⟨1,8,false,[.v .nilFunc],.other,false⟩),
 (104,⟨1,8,false,[.v .nilFunc],.other,false⟩),
 (106,⟨1,8,false,[.v .nilFunc],.other,false⟩),
 (107,⟨1,8,false,[.v .nilFunc],.other,false⟩),
 (108,⟨1,8,false,[.v (.map none)],.other,false⟩),
 (109,⟨1,8,false,[.v .nilFunc],.other,false⟩),
 (110,⟨1,16,false,[.str []],.str,false⟩),
 (111,⟨1,8,false,[.v .nilFunc],.other,false⟩),
 (112,⟨1,8,false,[.v .nilFunc],.other,false⟩),
 (114,⟨1,8,false,[.v .nilFunc],.other,false⟩),
 (115,⟨1,8,false,[.v .nilFunc],.other,false⟩),
 (116,⟨1,8,false,[.v .nilFunc],.other,false⟩),
 (117,⟨1,8,false,[.v .nilFunc],.other,false⟩),
 (118,⟨1,8,false,[.v .nilFunc],.other,false⟩),
 (120,⟨1,8,false,[.v .nilFunc],.other,false⟩),
 (121,⟨1,8,false,[.v .nilFunc],.other,false⟩),
 (122,⟨2,32,true,[.str [],.str []],.struct [(0,9),(1,9)],false⟩),
 (123,⟨2,32,true,[.str [],.str []],.struct [(0,9),(1,9)],true⟩),
 (125,⟨1,8,false,[.v .nilFunc],.other,false⟩),
 (126,⟨1,8,false,[.v .nilFunc],.other,false⟩),
 (127,⟨2,24,true,[.str [],.int .i64 0],.struct [(0,9),(1,3)],false⟩),
 (128,⟨2,24,true,[.str [],.int .i64 0],.struct [(0,9),(1,3)],true⟩),
 (130,⟨1,8,false,[.v .nilFunc],.other,false⟩),
 (131,⟨1,8,false,[.v .nilFunc],.other,false⟩),
 (132,⟨1,8,false,[.int .u64 0],.int .u64,false⟩),
 (133,⟨1,16,false,[.v .nilIface],.other,false⟩),
 (134,⟨1,16,false,[.v .nilIface],.other,false⟩),
 (135,⟨1,8,false,[.v .nilFunc],.other,false⟩),
 (136,⟨1,8,false,[.v .nilFunc],.other,false⟩),
 (137,⟨1,8,false,[.v .nilFunc],.other,false⟩),
 (138,⟨1,8,false,[.v .nilFunc],.other,false⟩),
 (140,⟨1,8,false,[.v .nilFunc],.other,false⟩),
 (141,⟨1,8,false,[.v .nilFunc],.other,false⟩),
 (142,⟨1,24,false,[.aD],.slice 9,false⟩),
 (143,⟨1,8,false,[.v .nilFunc],.other,false⟩),
 (145,⟨1,8,false,[.v .nilFunc],.other,false⟩),
 (146,⟨9,88,true,[.str [],.str [],.str [],.str [],.str [],.bool false,.bool false,.bool false,.bool false],.struct [(0,9),(1,9),(2,9),(3,9),(4,9),(5,4),(6,4),(7,4),(8,4)],false⟩),
 (147,⟨9,88,true,[.str [],.str [],.str [],.str [],.str [],.bool false,.bool false,.bool false,.bool false],.struct [(0,9),(1,9),(2,9),(3,9),(4,9),(5,4),(6,4),(7,4),(8,4)],true⟩),
 (149,⟨1,8,false,[.v .nilFunc],.other,false⟩),
 (150,⟨1,8,false,[.v .nilFunc],.other,false⟩),
 (151,⟨1,8,false,[.v .nilFunc],.other,false⟩),
 (152,⟨1,8,false,[.v .nilFunc],.other,false⟩),
 (153,⟨1,8,false,[.v .nilFunc],.other,false⟩),
 (154,⟨1,8,false,[.v .nilFunc],.other,false⟩),
 (156,⟨1,8,false,[.v .nilFunc],.other,false⟩),
 (157,⟨1,8,false,[.v .nilFunc],.other,false⟩),
 (158,⟨1,8,false,[.v .nilFunc],.other,false⟩),
 (159,⟨1,8,false,[.v .nilFunc],.other,false⟩),
 (160,⟨1,8,false,[.v .nilFunc],.other,false⟩),
 (161,⟨1,8,false,[.v .nilFunc],.other,false⟩),
 (163,⟨1,8,false,[.v .nilFunc],.other,false⟩),
 (164,⟨1,8,false,[.v .nilFunc],.other,false⟩),
 (165,⟨1,8,false,[.v .nilFunc],.other,false⟩),
 (167,⟨1,8,false,[.v .nilFunc],.other,false⟩),
 (169,⟨1,8,false,[.v .nilFunc],.other,false⟩),
 (170,⟨1,8,false,[.v .nilFunc],.other,false⟩),
 (171,⟨1,4,false,[.int .u32 0],.int .u32,false⟩),
 (173,⟨1,8,false,[.v .nilFunc],.other,false⟩),
 (174,⟨1,24,false,[.aD],.slice 5,false⟩),
 (175,⟨1,8,false,[.v .nilFunc],.other,false⟩),
 (176,⟨1,8,false,[.v .nilFunc],.other,false⟩),
 (177,⟨1,8,false,[.v .nilFunc],.other,false⟩),
 (178,⟨1,8,true,[.int .i64 0],.struct [(0,28)],false⟩),
 (179,⟨1,8,true,[.int .i64 0],.struct [(0,28)],true⟩),
 (180,⟨1,8,false,[.v .nilFunc],.other,false⟩),
 (181,⟨1,8,false,[.v (.pointer none)],.ptr 174,false⟩),
 (182,⟨1,8,false,[.v .nilFunc],.other,false⟩),
 (183,⟨1,8,false,[.v .nilFunc],.other,false⟩),
 (187,⟨1,8,false,[.v .nilFunc],.other,false⟩),
 (188,⟨1,8,false,[.v .nilFunc],.other,false⟩),
 (189,⟨20,20,true,[.int .u8 0,.int .u8 0,.int .u8 0,.int .u8 0,.int .u8 0,.int .u8 0,.int .u8 0,.int .u8 0,.int .u8 0,.int .u8 0,.int .u8 0,.int .u8 0,.int .u8 0,.int .u8 0,.int .u8 0,.int .u8 0,.int .u8 0,.int .u8 0,.int .u8 0,.int .u8 0],.arr 20 5,false⟩),
 (190,⟨1,8,false,[.v .nilFunc],.other,false⟩),
 (191,⟨1,8,false,[.v (.pointer none)],.ptr 193,false⟩),
 (192,⟨2,32,true,[.v (.pointer none),.aD],.struct [(0,191),(1,25)],false⟩),
 (193,⟨2,32,true,[.v (.pointer none),.aD],.struct [(0,191),(1,25)],false⟩),
 (194,⟨1,16,false,[.v .nilIface],.other,false⟩),
 (195,⟨1,16,false,[.v .nilIface],.other,false⟩),
 (197,⟨1,8,false,[.v .nilFunc],.other,false⟩),
 (198,⟨1,8,false,[.v .nilFunc],.other,false⟩),
 (199,⟨1,8,false,[.v (.pointer none)],.ptr 179,false⟩),
 (200,⟨1,8,false,[.v .nilFunc],.other,false⟩),
 (201,⟨1,8,false,[.v .nilFunc],.other,false⟩),
 (202,⟨1,8,false,[.v (.pointer none)],.ptr 185,false⟩),
 (203,⟨1,8,false,[.v .nilFunc],.other,false⟩),
 (204,⟨1,8,false,[.v .nilFunc],.other,false⟩),
 (205,⟨1,8,false,[.v .nilFunc],.other,false⟩),
 (207,⟨1,8,false,[.v .nilFunc],.other,false⟩),
 (208,⟨1,8,false,[.v (.pointer none)],.ptr 5,false⟩),
 (209,⟨1,8,false,[.v .nilFunc],.other,false⟩),
 (210,⟨1,8,false,[.v .nilFunc],.other,false⟩),
 (212,⟨1,8,false,[.v .nilFunc],.other,false⟩),
 (213,⟨1,8,false,[.v .nilFunc],.other,false⟩),
 (215,⟨2,2,true,[.int .u8 0,.int .u8 0],.struct [(0,5),(1,5)],false⟩),
 (216,⟨2,2,true,[.int .u8 0,.int .u8 0],.struct [(0,5),(1,5)],false⟩),
 (217,⟨32,32,true,[.int .u8 0,.int .u8 0,.int .u8 0,.int .u8 0,.int .u8 0,.int .u8 0,.int .u8 0,.int .u8 0,.int .u8 0,.int .u8 0,.int .u8 0,.int .u8 0,.int .u8 0,.int .u8 0,.int .u8 0,.int .u8 0,.int .u8 0,.int .u8 0,.int .u8 0,.int .u8 0,.int .u8 0,.int .u8 0,.int .u8 0,.int .u8 0,.int .u8 0,.int .u8 0,.int .u8 0,.int .u8 0,.int .u8 0,.int .u8 0,.int .u8 0,.int .u8 0],.arr 16 216,false⟩),
 (218,⟨4,40,true,[.v (.pointer none),.v (.pointer none),.v (.pointer none),.str []],.struct [(0,17),(1,17),(2,17),(3,9)],false⟩),
 (219,⟨4,40,true,[.v (.pointer none),.v (.pointer none),.v (.pointer none),.str []],.struct [(0,17),(1,17),(2,17),(3,9)],false⟩),
 (220,⟨0,0,true,[],.arr 0 16,false⟩),
 (221,⟨0,0,true,[],.struct [(0,220)],false⟩),
 (222,⟨0,0,true,[],.struct [(0,220)],false⟩),
 (223,⟨1,1,false,[.int .u8 0],.int .u8,false⟩),
 (224,⟨1,1,false,[.int .u8 0],.int .u8,false⟩),
 (225,⟨1,8,false,[.v .nilFunc],.other,false⟩),
 (226,⟨1,4,false,[.int .i32 0],.int .i32,false⟩),
 (227,⟨1,4,false,[.int .i32 0],.int .i32,false⟩),
 (228,⟨11,48,true,[.int .u64 0,.int .u64 0,.int .u32 0,.int .u8 0,.int .u8 0,.int .u8 0,.int .u8 0,.v .nilFunc,.v (.pointer none),.int .i32 0,.int .i32 0],.struct [(0,12),(1,12),(2,171),(3,223),(4,5),(5,5),(6,224),(7,225),(8,208),(9,226),(10,227)],false⟩),
 (229,⟨11,48,true,[.int .u64 0,.int .u64 0,.int .u32 0,.int .u8 0,.int .u8 0,.int .u8 0,.int .u8 0,.v .nilFunc,.v (.pointer none),.int .i32 0,.int .i32 0],.struct [(0,12),(1,12),(2,171),(3,223),(4,5),(5,5),(6,224),(7,225),(8,208),(9,226),(10,227)],false⟩),
 (230,⟨1,8,false,[.v .nilFunc],.other,false⟩)]
def Tryz.Γ:TypeId→Option Vc.TI:=fun T=>(Tryz.Γl.find? (fun p=>p.1==T)).map (·.2)
theorem Tryz.Γs:(((((((Tryz.Γ 1=some ⟨1,8,false,[.v .nilFunc],.other,false⟩)∧((Tryz.Γ 2=some ⟨1,8,false,[.int .i64 0],.int .i64,false⟩)∧(Tryz.Γ 3=some ⟨1,8,false,[.int .i64 0],.int .i64,false⟩)))∧((Tryz.Γ 4=some ⟨1,1,false,[.bool false],.bool,false⟩)∧((Tryz.Γ 5=some ⟨1,1,false,[.int .u8 0],.int .u8,false⟩)∧(Tryz.Γ 6=some ⟨1,1,false,[.int .u8 0],.int .u8,false⟩))))∧(((Tryz.Γ 7=some ⟨4,24,true,[.int .i64 0,.int .i64 0,.bool false,.int .u8 0],.struct [(0,2),(1,3),(2,4),(3,6)],false⟩)∧((Tryz.Γ 8=some ⟨4,24,true,[.int .i64 0,.int .i64 0,.bool false,.int .u8 0],.struct [(0,2),(1,3),(2,4),(3,6)],false⟩)∧(Tryz.Γ 9=some ⟨1,16,false,[.str []],.str,false⟩)))∧((Tryz.Γ 10=some ⟨1,16,false,[.str []],.str,false⟩)∧((Tryz.Γ 11=some ⟨1,16,false,[.str []],.str,false⟩)∧(Tryz.Γ 12=some ⟨1,8,false,[.int .u64 0],.int .u64,false⟩)))))∧((((Tryz.Γ 13=some ⟨2,24,true,[.str [],.int .u64 0],.struct [(0,9),(1,12)],false⟩)∧((Tryz.Γ 14=some ⟨2,24,true,[.str [],.int .u64 0],.struct [(0,9),(1,12)],false⟩)∧(Tryz.Γ 15=some ⟨1,8,false,[.v (.pointer none)],.ptr 219,false⟩)))∧((Tryz.Γ 16=some ⟨1,8,false,[.v (.pointer none)],.ptr 222,false⟩)∧((Tryz.Γ 17=some ⟨1,8,false,[.v (.pointer none)],.ptr 229,false⟩)∧(Tryz.Γ 18=some ⟨1,8,true,[.v (.pointer none)],.struct [(0,17)],false⟩))))∧(((Tryz.Γ 19=some ⟨1,8,true,[.v (.pointer none)],.struct [(0,17)],false⟩)∧((Tryz.Γ 20=some ⟨1,16,false,[.v .nilIface],.other,false⟩)∧(Tryz.Γ 21=some ⟨1,4,false,[.int .i32 0],.int .i32,false⟩)))∧(((Tryz.Γ 22=some ⟨1,24,false,[.aD],.slice 43,false⟩)∧(Tryz.Γ 23=some ⟨2,32,true,[.int .i64 0,.aD],.struct [(0,3),(1,22)],false⟩))∧((Tryz.Γ 24=some ⟨2,32,true,[.int .i64 0,.aD],.struct [(0,3),(1,22)],false⟩)∧(Tryz.Γ 25=some ⟨1,24,false,[.aD],.slice 5,false⟩))))))∧(((((Tryz.Γ 26=some ⟨1,8,false,[.v .nilFunc],.other,false⟩)∧((Tryz.Γ 27=some ⟨1,8,false,[.v .nilFunc],.other,false⟩)∧(Tryz.Γ 28=some ⟨1,8,false,[.int .i64 0],.int .i64,false⟩)))∧((Tryz.Γ 30=some ⟨1,8,false,[.v .nilFunc],.other,false⟩)∧((Tryz.Γ 31=some ⟨1,8,false,[.int .u64 0],.int .u64,false⟩)∧(Tryz.Γ 33=some ⟨1,8,false,[.v .nilFunc],.other,false⟩))))∧(((Tryz.Γ 34=some ⟨1,8,false,[.v (.pointer none)],.ptr 43,false⟩)∧((Tryz.Γ 35=some ⟨4,48,true,[.int .i64 0,.str [],.str [],.int .i64 0],.struct [(0,3),(1,9),(2,9),(3,3)],false⟩)∧(Tryz.Γ 36=some ⟨4,48,true,[.int .i64 0,.str [],.str [],.int .i64 0],.struct [(0,3),(1,9),(2,9),(3,3)],true⟩)))∧((Tryz.Γ 37=some ⟨2,16,true,[.bool false,.int .u64 0],.struct [(0,4),(1,31)],false⟩)∧((Tryz.Γ 38=some ⟨2,16,true,[.bool false,.int .u64 0],.struct [(0,4),(1,31)],true⟩)∧(Tryz.Γ 39=some ⟨1,24,false,[.aD],.slice 93,false⟩)))))∧((((Tryz.Γ 40=some ⟨12,144,true,[.int .i64 0,.int .i64 0,.str [],.str [],.int .i64 0,.int .i64 0,.str [],.str [],.int .i64 0,.bool false,.int .u64 0,.aD],.struct [(0,28),(1,36),(5,36),(9,38),(11,39)],false⟩)∧((Tryz.Γ 41=some ⟨12,144,true,[.int .i64 0,.int .i64 0,.str [],.str [],.int .i64 0,.int .i64 0,.str [],.str [],.int .i64 0,.bool false,.int .u64 0,.aD],.struct [(0,28),(1,36),(5,36),(9,38),(11,39)],false⟩)∧(Tryz.Γ 42=some ⟨14,160,true,[.int .i64 0,.int .i64 0,.str [],.str [],.int .i64 0,.int .i64 0,.str [],.str [],.int .i64 0,.bool false,.int .u64 0,.aD,.int .u64 0,.int .u64 0],.struct [(0,41),(12,31),(13,31)],false⟩)))∧((Tryz.Γ 43=some ⟨14,160,true,[.int .i64 0,.int .i64 0,.str [],.str [],.int .i64 0,.int .i64 0,.str [],.str [],.int .i64 0,.bool false,.int .u64 0,.aD,.int .u64 0,.int .u64 0],.struct [(0,41),(12,31),(13,31)],false⟩)∧((Tryz.Γ 44=some ⟨1,8,false,[.v .nilFunc],.other,false⟩)∧(Tryz.Γ 45=some ⟨1,8,false,[.v .nilFunc],.other,false⟩))))∧(((Tryz.Γ 46=some ⟨1,8,false,[.v .nilFunc],.other,false⟩)∧((Tryz.Γ 47=some ⟨1,8,false,[.v .nilFunc],.other,false⟩)∧(Tryz.Γ 48=some ⟨1,8,false,[.v .nilFunc],.other,false⟩)))∧(((Tryz.Γ 49=some ⟨1,8,false,[.v .nilFunc],.other,false⟩)∧(Tryz.Γ 50=some ⟨1,8,false,[.v .nilFunc],.other,false⟩))∧((Tryz.Γ 51=some ⟨1,24,false,[.aD],.slice 41,false⟩)∧(Tryz.Γ 53=some ⟨1,8,false,[.v .nilFunc],.other,false⟩)))))))∧((((((Tryz.Γ 54=some ⟨1,8,false,[.v .nilFunc],.other,false⟩)∧((Tryz.Γ 55=some ⟨1,8,false,[.v .nilFunc],.other,false⟩)∧(Tryz.Γ 56=some ⟨1,8,false,[.v .nilFunc],.other,false⟩)))∧((Tryz.Γ 57=some ⟨1,8,false,[.v (.pointer none)],.ptr 76,false⟩)∧((Tryz.Γ 58=some ⟨1,8,false,[.v .nilFunc],.other,false⟩)∧(Tryz.Γ 59=some ⟨1,8,false,[.v .nilFunc],.other,false⟩))))∧(((Tryz.Γ 60=some ⟨1,8,false,[.v .nilFunc],.other,false⟩)∧((Tryz.Γ 61=some ⟨1,8,false,[.v .nilFunc],.other,false⟩)∧(Tryz.Γ 63=some ⟨1,8,false,[.v .nilFunc],.other,false⟩)))∧((Tryz.Γ 64=some ⟨1,8,false,[.v .nilFunc],.other,false⟩)∧((Tryz.Γ 65=some ⟨1,8,false,[.v .nilFunc],.other,false⟩)∧(Tryz.Γ 67=some ⟨1,8,false,[.v .nilFunc],.other,false⟩)))))∧((((Tryz.Γ 68=some ⟨1,8,false,[.v .nilFunc],.other,false⟩)∧((Tryz.Γ 69=some ⟨1,8,false,[.v .nilFunc],.other,false⟩)∧(Tryz.Γ 70=some ⟨1,8,false,[.v .nilFunc],.other,false⟩)))∧((Tryz.Γ 71=some ⟨1,8,false,[.v .nilFunc],.other,false⟩)∧((Tryz.Γ 72=some ⟨1,8,false,[.v .nilFunc],.other,false⟩)∧(Tryz.Γ 73=some ⟨1,8,false,[.v .nilFunc],.other,false⟩))))∧(((Tryz.Γ 74=some ⟨1,8,false,[.v .nilFunc],.other,false⟩)∧((Tryz.Γ 75=some ⟨1,24,true,[.aD],.struct [(0,25)],false⟩)∧(Tryz.Γ 76=some ⟨1,24,true,[.aD],.struct [(0,25)],false⟩)))∧(((Tryz.Γ 77=some ⟨1,8,false,[.v .nilFunc],.other,false⟩)∧(Tryz.Γ 78=some ⟨1,8,false,[.v .nilFunc],.other,false⟩))∧((Tryz.Γ 79=some ⟨2,32,true,[.str [],.str []],.struct [(0,9),(1,9)],false⟩)∧(Tryz.Γ 80=some ⟨2,32,true,[.str [],.str []],.struct [(0,9),(1,9)],true⟩))))))∧(((((Tryz.Γ 82=some ⟨1,8,false,[.v .nilFunc],.other,false⟩)∧((Tryz.Γ 83=some ⟨1,8,false,[.v .nilFunc],.other,false⟩)∧(Tryz.Γ 84=some ⟨2,32,true,[.str [],.str []],.struct [(0,9),(1,9)],false⟩)))∧((Tryz.Γ 85=some ⟨2,32,true,[.str [],.str []],.struct [(0,9),(1,9)],true⟩)∧((Tryz.Γ 87=some ⟨1,8,false,[.v .nilFunc],.other,false⟩)∧(Tryz.Γ 88=some ⟨1,8,false,[.v .nilFunc],.other,false⟩))))∧(((Tryz.Γ 89=some ⟨1,8,false,[.v .nilFunc],.other,false⟩)∧((Tryz.Γ 90=some ⟨7,80,true,[.str [],.int .i64 0,.str [],.str [],.str [],.bool false,.bool false],.struct [(0,9),(1,3),(2,9),(3,9),(4,9),(5,4),(6,4)],false⟩)∧(Tryz.Γ 91=some ⟨7,80,true,[.str [],.int .i64 0,.str [],.str [],.str [],.bool false,.bool false],.struct [(0,9),(1,3),(2,9),(3,9),(4,9),(5,4),(6,4)],true⟩)))∧(((Tryz.Γ 92=some ⟨9,96,true,[.str [],.int .i64 0,.str [],.str [],.str [],.bool false,.bool false,.int .i64 0,.int .i64 0],.struct [(0,91),(7,3),(8,28)],false⟩)∧(Tryz.Γ 93=some ⟨9,96,true,[.str [],.int .i64 0,.str [],.str [],.str [],.bool false,.bool false,.int .i64 0,.int .i64 0],.struct [(0,91),(7,3),(8,28)],true⟩))∧((Tryz.Γ 94=some ⟨1,8,false,[.v .nilFunc],.other,false⟩)∧(Tryz.Γ 95=some ⟨1,8,false,[.v .nilFunc],.other,false⟩)))))∧((((Tryz.Γ 96=some ⟨1,8,false,[.v (.pointer none)],.ptr 99,false⟩)∧((Tryz.Γ 97=some ⟨1,24,false,[.aD],.slice 3,false⟩)∧(Tryz.Γ 98=some ⟨2,48,true,[.aD,.aD],.struct [(0,22),(1,97)],false⟩)))∧((Tryz.Γ 99=some ⟨2,48,true,[.aD,.aD],.struct [(0,22),(1,97)],false⟩)∧((Tryz.Γ 100=some ⟨1,8,false,[.v .nilFunc],.other,false⟩)∧(Tryz.Γ 101=some ⟨1,8,false,[.v .nilFunc],.other,false⟩))))∧(((Tryz.Γ 102=some ⟨1,8,false,[.v .nilFunc],.other,false⟩)∧((Tryz.Γ 103=some ⟨1,8,false,[.v .nilFunc],.other,false⟩)∧(Tryz.Γ 104=some ⟨1,8,false,[.v .nilFunc],.other,false⟩)))∧(((Tryz.Γ 106=some ⟨1,8,false,[.v .nilFunc],.other,false⟩)∧(Tryz.Γ 107=some ⟨1,8,false,[.v .nilFunc],.other,false⟩))∧((Tryz.Γ 108=some ⟨1,8,false,[.v (.map none)],.other,false⟩)∧(Tryz.Γ 109=some ⟨1,8,false,[.v .nilFunc],.other,false⟩))))))))∧(((((((Tryz.Γ 110=some ⟨1,16,false,[.str []],.str,false⟩)∧((Tryz.Γ 111=some ⟨1,8,false,[.v .nilFunc],.other,false⟩)∧(Tryz.Γ 112=some ⟨1,8,false,[.v .nilFunc],.other,false⟩)))∧((Tryz.Γ 114=some ⟨1,8,false,[.v .nilFunc],.other,false⟩)∧((Tryz.Γ 115=some ⟨1,8,false,[.v .nilFunc],.other,false⟩)∧(Tryz.Γ 116=some ⟨1,8,false,[.v .nilFunc],.other,false⟩))))∧(((Tryz.Γ 117=some ⟨1,8,false,[.v .nilFunc],.other,false⟩)∧((Tryz.Γ 118=some ⟨1,8,false,[.v .nilFunc],.other,false⟩)∧(Tryz.Γ 120=some ⟨1,8,false,[.v .nilFunc],.other,false⟩)))∧((Tryz.Γ 121=some ⟨1,8,false,[.v .nilFunc],.other,false⟩)∧((Tryz.Γ 122=some ⟨2,32,true,[.str [],.str []],.struct [(0,9),(1,9)],false⟩)∧(Tryz.Γ 123=some ⟨2,32,true,[.str [],.str []],.struct [(0,9),(1,9)],true⟩)))))∧((((Tryz.Γ 125=some ⟨1,8,false,[.v .nilFunc],.other,false⟩)∧((Tryz.Γ 126=some ⟨1,8,false,[.v .nilFunc],.other,false⟩)∧(Tryz.Γ 127=some ⟨2,24,true,[.str [],.int .i64 0],.struct [(0,9),(1,3)],false⟩)))∧((Tryz.Γ 128=some ⟨2,24,true,[.str [],.int .i64 0],.struct [(0,9),(1,3)],true⟩)∧((Tryz.Γ 130=some ⟨1,8,false,[.v .nilFunc],.other,false⟩)∧(Tryz.Γ 131=some ⟨1,8,false,[.v .nilFunc],.other,false⟩))))∧(((Tryz.Γ 132=some ⟨1,8,false,[.int .u64 0],.int .u64,false⟩)∧((Tryz.Γ 133=some ⟨1,16,false,[.v .nilIface],.other,false⟩)∧(Tryz.Γ 134=some ⟨1,16,false,[.v .nilIface],.other,false⟩)))∧(((Tryz.Γ 135=some ⟨1,8,false,[.v .nilFunc],.other,false⟩)∧(Tryz.Γ 136=some ⟨1,8,false,[.v .nilFunc],.other,false⟩))∧((Tryz.Γ 137=some ⟨1,8,false,[.v .nilFunc],.other,false⟩)∧(Tryz.Γ 138=some ⟨1,8,false,[.v .nilFunc],.other,false⟩))))))∧(((((Tryz.Γ 140=some ⟨1,8,false,[.v .nilFunc],.other,false⟩)∧((Tryz.Γ 141=some ⟨1,8,false,[.v .nilFunc],.other,false⟩)∧(Tryz.Γ 142=some ⟨1,24,false,[.aD],.slice 9,false⟩)))∧((Tryz.Γ 143=some ⟨1,8,false,[.v .nilFunc],.other,false⟩)∧((Tryz.Γ 145=some ⟨1,8,false,[.v .nilFunc],.other,false⟩)∧(Tryz.Γ 146=some ⟨9,88,true,[.str [],.str [],.str [],.str [],.str [],.bool false,.bool false,.bool false,.bool false],.struct [(0,9),(1,9),(2,9),(3,9),(4,9),(5,4),(6,4),(7,4),(8,4)],false⟩))))∧(((Tryz.Γ 147=some ⟨9,88,true,[.str [],.str [],.str [],.str [],.str [],.bool false,.bool false,.bool false,.bool false],.struct [(0,9),(1,9),(2,9),(3,9),(4,9),(5,4),(6,4),(7,4),(8,4)],true⟩)∧((Tryz.Γ 149=some ⟨1,8,false,[.v .nilFunc],.other,false⟩)∧(Tryz.Γ 150=some ⟨1,8,false,[.v .nilFunc],.other,false⟩)))∧(((Tryz.Γ 151=some ⟨1,8,false,[.v .nilFunc],.other,false⟩)∧(Tryz.Γ 152=some ⟨1,8,false,[.v .nilFunc],.other,false⟩))∧((Tryz.Γ 153=some ⟨1,8,false,[.v .nilFunc],.other,false⟩)∧(Tryz.Γ 154=some ⟨1,8,false,[.v .nilFunc],.other,false⟩)))))∧((((Tryz.Γ 156=some ⟨1,8,false,[.v .nilFunc],.other,false⟩)∧((Tryz.Γ 157=some ⟨1,8,false,[.v .nilFunc],.other,false⟩)∧(Tryz.Γ 158=some ⟨1,8,false,[.v .nilFunc],.other,false⟩)))∧((Tryz.Γ 159=some ⟨1,8,false,[.v .nilFunc],.other,false⟩)∧((Tryz.Γ 160=some ⟨1,8,false,[.v .nilFunc],.other,false⟩)∧(Tryz.Γ 161=some ⟨1,8,false,[.v .nilFunc],.other,false⟩))))∧(((Tryz.Γ 163=some ⟨1,8,false,[.v .nilFunc],.other,false⟩)∧((Tryz.Γ 164=some ⟨1,8,false,[.v .nilFunc],.other,false⟩)∧(Tryz.Γ 165=some ⟨1,8,false,[.v .nilFunc],.other,false⟩)))∧(((Tryz.Γ 167=some ⟨1,8,false,[.v .nilFunc],.other,false⟩)∧(Tryz.Γ 169=some ⟨1,8,false,[.v .nilFunc],.other,false⟩))∧((Tryz.Γ 170=some ⟨1,8,false,[.v .nilFunc],.other,false⟩)∧(Tryz.Γ 171=some ⟨1,4,false,[.int .u32 0],.int .u32,false⟩)))))))∧((((((Tryz.Γ 173=some ⟨1,8,false,[.v .nilFunc],.other,false⟩)∧((Tryz.Γ 174=some ⟨1,24,false,[.aD],.slice 5,false⟩)∧(Tryz.Γ 175=some ⟨1,8,false,[.v .nilFunc],.other,false⟩)))∧((Tryz.Γ 176=some ⟨1,8,false,[.v .nilFunc],.other,false⟩)∧((Tryz.Γ 177=some ⟨1,8,false,[.v .nilFunc],.other,false⟩)∧(Tryz.Γ 178=some ⟨1,8,true,[.int .i64 0],.struct [(0,28)],false⟩))))∧(((Tryz.Γ 179=some ⟨1,8,true,[.int .i64 0],.struct [(0,28)],true⟩)∧((Tryz.Γ 180=some ⟨1,8,false,[.v .nilFunc],.other,false⟩)∧(Tryz.Γ 181=some ⟨1,8,false,[.v (.pointer none)],.ptr 174,false⟩)))∧((Tryz.Γ 182=some ⟨1,8,false,[.v .nilFunc],.other,false⟩)∧((Tryz.Γ 183=some ⟨1,8,false,[.v .nilFunc],.other,false⟩)∧(Tryz.Γ 187=some ⟨1,8,false,[.v .nilFunc],.other,false⟩)))))∧((((Tryz.Γ 188=some ⟨1,8,false,[.v .nilFunc],.other,false⟩)∧((Tryz.Γ 189=some ⟨20,20,true,[.int .u8 0,.int .u8 0,.int .u8 0,.int .u8 0,.int .u8 0,.int .u8 0,.int .u8 0,.int .u8 0,.int .u8 0,.int .u8 0,.int .u8 0,.int .u8 0,.int .u8 0,.int .u8 0,.int .u8 0,.int .u8 0,.int .u8 0,.int .u8 0,.int .u8 0,.int .u8 0],.arr 20 5,false⟩)∧(Tryz.Γ 190=some ⟨1,8,false,[.v .nilFunc],.other,false⟩)))∧((Tryz.Γ 191=some ⟨1,8,false,[.v (.pointer none)],.ptr 193,false⟩)∧((Tryz.Γ 192=some ⟨2,32,true,[.v (.pointer none),.aD],.struct [(0,191),(1,25)],false⟩)∧(Tryz.Γ 193=some ⟨2,32,true,[.v (.pointer none),.aD],.struct [(0,191),(1,25)],false⟩))))∧(((Tryz.Γ 194=some ⟨1,16,false,[.v .nilIface],.other,false⟩)∧((Tryz.Γ 195=some ⟨1,16,false,[.v .nilIface],.other,false⟩)∧(Tryz.Γ 197=some ⟨1,8,false,[.v .nilFunc],.other,false⟩)))∧(((Tryz.Γ 198=some ⟨1,8,false,[.v .nilFunc],.other,false⟩)∧(Tryz.Γ 199=some ⟨1,8,false,[.v (.pointer none)],.ptr 179,false⟩))∧((Tryz.Γ 200=some ⟨1,8,false,[.v .nilFunc],.other,false⟩)∧(Tryz.Γ 201=some ⟨1,8,false,[.v .nilFunc],.other,false⟩))))))∧(((((Tryz.Γ 202=some ⟨1,8,false,[.v (.pointer none)],.ptr 185,false⟩)∧((Tryz.Γ 203=some ⟨1,8,false,[.v .nilFunc],.other,false⟩)∧(Tryz.Γ 204=some ⟨1,8,false,[.v .nilFunc],.other,false⟩)))∧((Tryz.Γ 205=some ⟨1,8,false,[.v .nilFunc],.other,false⟩)∧((Tryz.Γ 207=some ⟨1,8,false,[.v .nilFunc],.other,false⟩)∧(Tryz.Γ 208=some ⟨1,8,false,[.v (.pointer none)],.ptr 5,false⟩))))∧(((Tryz.Γ 209=some ⟨1,8,false,[.v .nilFunc],.other,false⟩)∧((Tryz.Γ 210=some ⟨1,8,false,[.v .nilFunc],.other,false⟩)∧(Tryz.Γ 212=some ⟨1,8,false,[.v .nilFunc],.other,false⟩)))∧(((Tryz.Γ 213=some ⟨1,8,false,[.v .nilFunc],.other,false⟩)∧(Tryz.Γ 215=some ⟨2,2,true,[.int .u8 0,.int .u8 0],.struct [(0,5),(1,5)],false⟩))∧((Tryz.Γ 216=some ⟨2,2,true,[.int .u8 0,.int .u8 0],.struct [(0,5),(1,5)],false⟩)∧(Tryz.Γ 217=some ⟨32,32,true,[.int .u8 0,.int .u8 0,.int .u8 0,.int .u8 0,.int .u8 0,.int .u8 0,.int .u8 0,.int .u8 0,.int .u8 0,.int .u8 0,.int .u8 0,.int .u8 0,.int .u8 0,.int .u8 0,.int .u8 0,.int .u8 0,.int .u8 0,.int .u8 0,.int .u8 0,.int .u8 0,.int .u8 0,.int .u8 0,.int .u8 0,.int .u8 0,.int .u8 0,.int .u8 0,.int .u8 0,.int .u8 0,.int .u8 0,.int .u8 0,.int .u8 0,.int .u8 0],.arr 16 216,false⟩)))))∧((((Tryz.Γ 218=some ⟨4,40,true,[.v (.pointer none),.v (.pointer none),.v (.pointer none),.str []],.struct [(0,17),(1,17),(2,17),(3,9)],false⟩)∧((Tryz.Γ 219=some ⟨4,40,true,[.v (.pointer none),.v (.pointer none),.v (.pointer none),.str []],.struct [(0,17),(1,17),(2,17),(3,9)],false⟩)∧(Tryz.Γ 220=some ⟨0,0,true,[],.arr 0 16,false⟩)))∧((Tryz.Γ 221=some ⟨0,0,true,[],.struct [(0,220)],false⟩)∧((Tryz.Γ 222=some ⟨0,0,true,[],.struct [(0,220)],false⟩)∧(Tryz.Γ 223=some ⟨1,1,false,[.int .u8 0],.int .u8,false⟩))))∧(((Tryz.Γ 224=some ⟨1,1,false,[.int .u8 0],.int .u8,false⟩)∧((Tryz.Γ 225=some ⟨1,8,false,[.v .nilFunc],.other,false⟩)∧(Tryz.Γ 226=some ⟨1,4,false,[.int .i32 0],.int .i32,false⟩)))∧(((Tryz.Γ 227=some ⟨1,4,false,[.int .i32 0],.int .i32,false⟩)∧(Tryz.Γ 228=some ⟨11,48,true,[.int .u64 0,.int .u64 0,.int .u32 0,.int .u8 0,.int .u8 0,.int .u8 0,.int .u8 0,.v .nilFunc,.v (.pointer none),.int .i32 0,.int .i32 0],.struct [(0,12),(1,12),(2,171),(3,223),(4,5),(5,5),(6,224),(7,225),(8,208),(9,226),(10,227)],false⟩))∧((Tryz.Γ 229=some ⟨11,48,true,[.int .u64 0,.int .u64 0,.int .u32 0,.int .u8 0,.int .u8 0,.int .u8 0,.int .u8 0,.v .nilFunc,.v (.pointer none),.int .i32 0,.int .i32 0],.struct [(0,12),(1,12),(2,171),(3,223),(4,5),(5,5),(6,224),(7,225),(8,208),(9,226),(10,227)],false⟩)∧(Tryz.Γ 230=some ⟨1,8,false,[.v .nilFunc],.other,false⟩)))))))) :=
 ⟨⟨⟨⟨⟨⟨⟨(by kernel_rfl),⟨(by kernel_rfl),(by kernel_rfl)⟩⟩,⟨(by kernel_rfl),⟨(by kernel_rfl),(by kernel_rfl)⟩⟩⟩,⟨⟨(by kernel_rfl),⟨(by kernel_rfl),(by kernel_rfl)⟩⟩,⟨(by kernel_rfl),⟨(by kernel_rfl),(by kernel_rfl)⟩⟩⟩⟩,⟨⟨⟨(by kernel_rfl),⟨(by kernel_rfl),(by kernel_rfl)⟩⟩,⟨(by kernel_rfl),⟨(by kernel_rfl),(by kernel_rfl)⟩⟩⟩,⟨⟨(by kernel_rfl),⟨(by kernel_rfl),(by kernel_rfl)⟩⟩,⟨⟨(by kernel_rfl),(by kernel_rfl)⟩,⟨(by kernel_rfl),(by kernel_rfl)⟩⟩⟩⟩⟩,⟨⟨⟨⟨(by kernel_rfl),⟨(by kernel_rfl),(by kernel_rfl)⟩⟩,⟨(by kernel_rfl),⟨(by kernel_rfl),(by kernel_rfl)⟩⟩⟩,⟨⟨(by kernel_rfl),⟨(by kernel_rfl),(by kernel_rfl)⟩⟩,⟨(by kernel_rfl),⟨(by kernel_rfl),(by kernel_rfl)⟩⟩⟩⟩,⟨⟨⟨(by kernel_rfl),⟨(by kernel_rfl),(by kernel_rfl)⟩⟩,⟨(by kernel_rfl),⟨(by kernel_rfl),(by kernel_rfl)⟩⟩⟩,⟨⟨(by kernel_rfl),⟨(by kernel_rfl),(by kernel_rfl)⟩⟩,⟨⟨(by kernel_rfl),(by kernel_rfl)⟩,⟨(by kernel_rfl),(by kernel_rfl)⟩⟩⟩⟩⟩⟩,⟨⟨⟨⟨⟨(by kernel_rfl),⟨(by kernel_rfl),(by kernel_rfl)⟩⟩,⟨(by kernel_rfl),⟨(by kernel_rfl),(by kernel_rfl)⟩⟩⟩,⟨⟨(by kernel_rfl),⟨(by kernel_rfl),(by kernel_rfl)⟩⟩,⟨(by kernel_rfl),⟨(by kernel_rfl),(by kernel_rfl)⟩⟩⟩⟩,⟨⟨⟨(by kernel_rfl),⟨(by kernel_rfl),(by kernel_rfl)⟩⟩,⟨(by kernel_rfl),⟨(by kernel_rfl),(by kernel_rfl)⟩⟩⟩,⟨⟨(by kernel_rfl),⟨(by kernel_rfl),(by kernel_rfl)⟩⟩,⟨⟨(by kernel_rfl),(by kernel_rfl)⟩,⟨(by kernel_rfl),(by kernel_rfl)⟩⟩⟩⟩⟩,⟨⟨⟨⟨(by kernel_rfl),⟨(by kernel_rfl),(by kernel_rfl)⟩⟩,⟨(by kernel_rfl),⟨(by kernel_rfl),(by kernel_rfl)⟩⟩⟩,⟨⟨(by kernel_rfl),⟨(by kernel_rfl),(by kernel_rfl)⟩⟩,⟨⟨(by kernel_rfl),(by kernel_rfl)⟩,⟨(by kernel_rfl),(by kernel_rfl)⟩⟩⟩⟩,⟨⟨⟨(by kernel_rfl),⟨(by kernel_rfl),(by kernel_rfl)⟩⟩,⟨(by kernel_rfl),⟨(by kernel_rfl),(by kernel_rfl)⟩⟩⟩,⟨⟨(by kernel_rfl),⟨(by kernel_rfl),(by kernel_rfl)⟩⟩,⟨⟨(by kernel_rfl),(by kernel_rfl)⟩,⟨(by kernel_rfl),(by kernel_rfl)⟩⟩⟩⟩⟩⟩⟩,⟨⟨⟨⟨⟨⟨(by kernel_rfl),⟨(by kernel_rfl),(by kernel_rfl)⟩⟩,⟨(by kernel_rfl),⟨(by kernel_rfl),(by kernel_rfl)⟩⟩⟩,⟨⟨(by kernel_rfl),⟨(by kernel_rfl),(by kernel_rfl)⟩⟩,⟨(by kernel_rfl),⟨(by kernel_rfl),(by kernel_rfl)⟩⟩⟩⟩,⟨⟨⟨(by kernel_rfl),⟨(by kernel_rfl),(by kernel_rfl)⟩⟩,⟨(by kernel_rfl),⟨(by kernel_rfl),(by kernel_rfl)⟩⟩⟩,⟨⟨(by kernel_rfl),⟨(by kernel_rfl),(by kernel_rfl)⟩⟩,⟨⟨(by kernel_rfl),(by kernel_rfl)⟩,⟨(by kernel_rfl),(by kernel_rfl)⟩⟩⟩⟩⟩,⟨⟨⟨⟨(by kernel_rfl),⟨(by kernel_rfl),(by kernel_rfl)⟩⟩,⟨(by kernel_rfl),⟨(by kernel_rfl),(by kernel_rfl)⟩⟩⟩,⟨⟨(by kernel_rfl),⟨(by kernel_rfl),(by kernel_rfl)⟩⟩,⟨⟨(by kernel_rfl),(by kernel_rfl)⟩,⟨(by kernel_rfl),(by kernel_rfl)⟩⟩⟩⟩,⟨⟨⟨(by kernel_rfl),⟨(by kernel_rfl),(by kernel_rfl)⟩⟩,⟨(by kernel_rfl),⟨(by kernel_rfl),(by kernel_rfl)⟩⟩⟩,⟨⟨(by kernel_rfl),⟨(by kernel_rfl),(by kernel_rfl)⟩⟩,⟨⟨(by kernel_rfl),(by kernel_rfl)⟩,⟨(by kernel_rfl),(by kernel_rfl)⟩⟩⟩⟩⟩⟩,⟨⟨⟨⟨⟨(by kernel_rfl),⟨(by kernel_rfl),(by kernel_rfl)⟩⟩,⟨(by kernel_rfl),⟨(by kernel_rfl),(by kernel_rfl)⟩⟩⟩,⟨⟨(by kernel_rfl),⟨(by kernel_rfl),(by kernel_rfl)⟩⟩,⟨(by kernel_rfl),⟨(by kernel_rfl),(by kernel_rfl)⟩⟩⟩⟩,⟨⟨⟨(by kernel_rfl),⟨(by kernel_rfl),(by kernel_rfl)⟩⟩,⟨(by kernel_rfl),⟨(by kernel_rfl),(by kernel_rfl)⟩⟩⟩,⟨⟨(by kernel_rfl),⟨(by kernel_rfl),(by kernel_rfl)⟩⟩,⟨⟨(by kernel_rfl),(by kernel_rfl)⟩,⟨(by kernel_rfl),(by kernel_rfl)⟩⟩⟩⟩⟩,⟨⟨⟨⟨(by kernel_rfl),⟨(by kernel_rfl),(by kernel_rfl)⟩⟩,⟨(by kernel_rfl),⟨(by kernel_rfl),(by kernel_rfl)⟩⟩⟩,⟨⟨(by kernel_rfl),⟨(by kernel_rfl),(by kernel_rfl)⟩⟩,⟨⟨(by kernel_rfl),(by kernel_rfl)⟩,⟨(by kernel_rfl),(by kernel_rfl)⟩⟩⟩⟩,⟨⟨⟨(by kernel_rfl),⟨(by kernel_rfl),(by kernel_rfl)⟩⟩,⟨(by kernel_rfl),⟨(by kernel_rfl),(by kernel_rfl)⟩⟩⟩,⟨⟨(by kernel_rfl),⟨(by kernel_rfl),(by kernel_rfl)⟩⟩,⟨⟨(by kernel_rfl),(by kernel_rfl)⟩,⟨(by kernel_rfl),(by kernel_rfl)⟩⟩⟩⟩⟩⟩⟩⟩
theorem Tryz.all_cons {α:Type}{P:α→Prop}{a:α}{l:List α}(h:P a)(t:∀ x∈l,P x):∀ x∈a::l,P x:=fun x hx=>by
 rcases zJl.1 hx with rfl|hx
 ·exact h
 ·exact t x hx
theorem Tryz.mkN {T:TypeId}{sz y:Nat}{ag:Bool}{zr:List SV}{kd:Kd}{z:Value}{d:TypeDesc}(h1:∀ w,(Go.sizeOf T).run Tryz.prog w=Result.ok sz w)(h2:∀ w,(isAgg T).run Tryz.prog w=Result.ok ag w)(h3:∀ w,(zeroValue T).run Tryz.prog w=Result.ok z w)(h4:Tryz.prog.underlying T=some d)(i:TypeInfo)(h5:Tryz.prog.info? T=some i:=by kernel_rfl)(h6:i.zero=some z:=by rfl)(h7:i.size=sz:=by rfl)(h8:i.bytes=y:=by rfl)(e1:z.cells=(zr.map (ah jR)).toArray:=by simp[ah,Value.cells])(e2:∀ β,zr.map (ah β)=zr.map (ah jR):=by intro;simp[ah])(e3:zr.length=sz:=by rfl)(e4:ch kd d:=by first|trivial|rfl)(e5:∀ fs,kd≠.struct fs:=by intro _ h;cases h):IT Tryz.prog T ⟨sz,y,ag,zr,kd,false⟩:=⟨h1,h2,fun w=>⟨_,h3 w,e1⟩,e2,e3,⟨_,h4,e4⟩,fun fs h=>absurd h (e5 fs),fun h=>(by cases h),⟨i,z,h5,h6,h7,h8,e1⟩⟩
theorem Tryz.mkS {T : TypeId} {sz y : Nat} {zr : List SV} {fs : List (Nat × TypeId)} {z : Value} {d : TypeDesc} {cm : Bool} (h1 : ∀ w, (Go.sizeOf T).run Tryz.prog w = Result.ok sz w) (h2 : ∀ w, (isAgg T).run Tryz.prog w = Result.ok true w) (h3 : ∀ w, (zeroValue T).run Tryz.prog w = Result.ok z w) (h4 : Tryz.prog.underlying T = some d) (i : TypeInfo) (hf : ∀ f ∈ fs, ∃ n, ∀ w, (Go.sizeOf f.2).run Tryz.prog w = Result.ok n w) (h5 : Tryz.prog.info? T = some i := by kernel_rfl) (h6 : i.zero = some z := by rfl) (h7 : i.size = sz := by rfl) (h8 : i.bytes = y := by rfl) (e1 : z.cells = (zr.map (ah jR)).toArray := by simp [ah, Value.cells]) (e2 : ∀ β, zr.map (ah β) = zr.map (ah jR) := by intro; simp [ah]) (e3 : zr.length = sz := by rfl) (e4 : ch (.struct fs) d := by exact ⟨_, rfl, rfl⟩) (c : cm = true → Tryz.prog.stoodInHeld T = false ∧ Tryz.prog.eqGuardType Tryz.prog.depth T = false ∧ (Tryz.prog.fieldsOf T).all (fun f => f.name != "_") = true := by first | (intro h; cases h; done) | exact fun _ => ⟨by kernel_rfl, by kernel_rfl, by kernel_rfl⟩) : IT Tryz.prog T ⟨sz, y, true, zr, .struct fs, cm⟩ := ⟨h1, h2, fun w => ⟨_, h3 w, e1⟩, e2, e3, ⟨_, h4, e4⟩, fun fs h f hm => (by cases h; exact hf f hm), c, ⟨i, z, h5, h6, h7, h8, e1⟩⟩
theorem Tryz.fl {f:Nat × TypeId}{fs:List (Nat × TypeId)}{n:Nat}(h:∀ w,(Go.sizeOf f.2).run Tryz.prog w=Result.ok n w)(r:∀ f∈fs,∃ n,∀ w,(Go.sizeOf f.2).run Tryz.prog w=Result.ok n w):∀ g∈f::fs,∃ n,∀ w,(Go.sizeOf g.2).run Tryz.prog w=Result.ok n w:=fun g hg=>by
 rcases zJl.1 hg with rfl|hg
 ·exact⟨n,h⟩
 ·exact r g hg
theorem Tryz.fz:∀ g∈([]:List (Nat × TypeId)),∃ n,∀ w,(Go.sizeOf g.2).run Tryz.prog w=Result.ok n w:=fun g hg=>by cases hg
theorem Tryz.ty43:IT Tryz.prog 43 ⟨14,160,true,[.int .i64 0,.int .i64 0,.str [],.str [],.int .i64 0,.int .i64 0,.str [],.str [],.int .i64 0,.bool false,.int .u64 0,.aD,.int .u64 0,.int .u64 0],.struct [(0,41),(12,31),(13,31)],false⟩:=Tryz.mkS Tryz.sizeOf43 Tryz.isAgg43 Tryz.zeroValue43 Tryz.underlying43 Tryz.t43 (Tryz.fl Tryz.sizeOf41 (Tryz.fl Tryz.sizeOf31 (Tryz.fl Tryz.sizeOf31 Tryz.fz)))
theorem Tryz.gokl:∀ p∈Tryz.Γl,Vc.IT Tryz.prog p.1 p.2:=by
 unfold Tryz.Γl
 refine Tryz.all_cons (Tryz.mkN Tryz.sizeOf1 Tryz.isAgg1 Tryz.zeroValue1 Tryz.underlying1 Tryz.t1) ?_
 refine Tryz.all_cons (Tryz.mkN Tryz.sizeOf2 Tryz.isAgg2 Tryz.zeroValue2 Tryz.underlying2 Tryz.t2) ?_
 refine Tryz.all_cons (Tryz.mkN Tryz.sizeOf3 Tryz.isAgg3 Tryz.zeroValue3 Tryz.underlying3 Tryz.t3) ?_
 refine Tryz.all_cons (Tryz.mkN Tryz.sizeOf4 Tryz.isAgg4 Tryz.zeroValue4 Tryz.underlying4 Tryz.t4) ?_
 refine Tryz.all_cons (Tryz.mkN Tryz.sizeOf5 Tryz.isAgg5 Tryz.zeroValue5 Tryz.underlying5 Tryz.t5) ?_
 refine Tryz.all_cons (Tryz.mkN Tryz.sizeOf6 Tryz.isAgg6 Tryz.zeroValue6 Tryz.underlying6 Tryz.t6) ?_
 refine Tryz.all_cons (Tryz.mkS Tryz.sizeOf7 Tryz.isAgg7 Tryz.zeroValue7 Tryz.underlying7 Tryz.t7 (Tryz.fl Tryz.sizeOf2 (Tryz.fl Tryz.sizeOf3 (Tryz.fl Tryz.sizeOf4 (Tryz.fl Tryz.sizeOf6 Tryz.fz))))) ?_
 refine Tryz.all_cons (Tryz.mkS Tryz.sizeOf8 Tryz.isAgg8 Tryz.zeroValue8 Tryz.underlying8 Tryz.t8 (Tryz.fl Tryz.sizeOf2 (Tryz.fl Tryz.sizeOf3 (Tryz.fl Tryz.sizeOf4 (Tryz.fl Tryz.sizeOf6 Tryz.fz))))) ?_
 refine Tryz.all_cons (Tryz.mkN Tryz.sizeOf9 Tryz.isAgg9 Tryz.zeroValue9 Tryz.underlying9 Tryz.t9) ?_
 refine Tryz.all_cons (Tryz.mkN Tryz.sizeOf10 Tryz.isAgg10 Tryz.zeroValue10 Tryz.underlying10 Tryz.t10) ?_
 refine Tryz.all_cons (Tryz.mkN Tryz.sizeOf11 Tryz.isAgg11 Tryz.zeroValue11 Tryz.underlying11 Tryz.t11) ?_
 refine Tryz.all_cons (Tryz.mkN Tryz.sizeOf12 Tryz.isAgg12 Tryz.zeroValue12 Tryz.underlying12 Tryz.t12) ?_
 refine Tryz.all_cons (Tryz.mkS Tryz.sizeOf13 Tryz.isAgg13 Tryz.zeroValue13 Tryz.underlying13 Tryz.t13 (Tryz.fl Tryz.sizeOf9 (Tryz.fl Tryz.sizeOf12 Tryz.fz))) ?_
 refine Tryz.all_cons (Tryz.mkS Tryz.sizeOf14 Tryz.isAgg14 Tryz.zeroValue14 Tryz.underlying14 Tryz.t14 (Tryz.fl Tryz.sizeOf9 (Tryz.fl Tryz.sizeOf12 Tryz.fz))) ?_
 refine Tryz.all_cons (Tryz.mkN Tryz.sizeOf15 Tryz.isAgg15 Tryz.zeroValue15 Tryz.underlying15 Tryz.t15) ?_
 refine Tryz.all_cons (Tryz.mkN Tryz.sizeOf16 Tryz.isAgg16 Tryz.zeroValue16 Tryz.underlying16 Tryz.t16) ?_
 refine Tryz.all_cons (Tryz.mkN Tryz.sizeOf17 Tryz.isAgg17 Tryz.zeroValue17 Tryz.underlying17 Tryz.t17) ?_
 refine Tryz.all_cons (Tryz.mkS Tryz.sizeOf18 Tryz.isAgg18 Tryz.zeroValue18 Tryz.underlying18 Tryz.t18 (Tryz.fl Tryz.sizeOf17 Tryz.fz)) ?_
 refine Tryz.all_cons (Tryz.mkS Tryz.sizeOf19 Tryz.isAgg19 Tryz.zeroValue19 Tryz.underlying19 Tryz.t19 (Tryz.fl Tryz.sizeOf17 Tryz.fz)) ?_
 refine Tryz.all_cons (Tryz.mkN Tryz.sizeOf20 Tryz.isAgg20 Tryz.zeroValue20 Tryz.underlying20 Tryz.t20) ?_
 refine Tryz.all_cons (Tryz.mkN Tryz.sizeOf21 Tryz.isAgg21 Tryz.zeroValue21 Tryz.underlying21 Tryz.t21) ?_
 refine Tryz.all_cons (Tryz.mkN Tryz.sizeOf22 Tryz.isAgg22 Tryz.zeroValue22 Tryz.underlying22 Tryz.t22) ?_
 refine Tryz.all_cons (Tryz.mkS Tryz.sizeOf23 Tryz.isAgg23 Tryz.zeroValue23 Tryz.underlying23 Tryz.t23 (Tryz.fl Tryz.sizeOf3 (Tryz.fl Tryz.sizeOf22 Tryz.fz))) ?_
 refine Tryz.all_cons (Tryz.mkS Tryz.sizeOf24 Tryz.isAgg24 Tryz.zeroValue24 Tryz.underlying24 Tryz.t24 (Tryz.fl Tryz.sizeOf3 (Tryz.fl Tryz.sizeOf22 Tryz.fz))) ?_
 refine Tryz.all_cons (Tryz.mkN Tryz.sizeOf25 Tryz.isAgg25 Tryz.zeroValue25 Tryz.underlying25 Tryz.t25) ?_
 refine Tryz.all_cons (Tryz.mkN Tryz.sizeOf26 Tryz.isAgg26 Tryz.zeroValue26 Tryz.underlying26 Tryz.t26) ?_
 refine Tryz.all_cons (Tryz.mkN Tryz.sizeOf27 Tryz.isAgg27 Tryz.zeroValue27 Tryz.underlying27 Tryz.t27) ?_
 refine Tryz.all_cons (Tryz.mkN Tryz.sizeOf28 Tryz.isAgg28 Tryz.zeroValue28 Tryz.underlying28 Tryz.t28) ?_
 refine Tryz.all_cons (Tryz.mkN Tryz.sizeOf30 Tryz.isAgg30 Tryz.zeroValue30 Tryz.underlying30 Tryz.t30) ?_
 refine Tryz.all_cons (Tryz.mkN Tryz.sizeOf31 Tryz.isAgg31 Tryz.zeroValue31 Tryz.underlying31 Tryz.t31) ?_
 refine Tryz.all_cons (Tryz.mkN Tryz.sizeOf33 Tryz.isAgg33 Tryz.zeroValue33 Tryz.underlying33 Tryz.t33) ?_
 refine Tryz.all_cons (Tryz.mkN Tryz.sizeOf34 Tryz.isAgg34 Tryz.zeroValue34 Tryz.underlying34 Tryz.t34) ?_
 refine Tryz.all_cons (Tryz.mkS Tryz.sizeOf35 Tryz.isAgg35 Tryz.zeroValue35 Tryz.underlying35 Tryz.t35 (Tryz.fl Tryz.sizeOf3 (Tryz.fl Tryz.sizeOf9 (Tryz.fl Tryz.sizeOf9 (Tryz.fl Tryz.sizeOf3 Tryz.fz))))) ?_
 refine Tryz.all_cons (Tryz.mkS Tryz.sizeOf36 Tryz.isAgg36 Tryz.zeroValue36 Tryz.underlying36 Tryz.t36 (Tryz.fl Tryz.sizeOf3 (Tryz.fl Tryz.sizeOf9 (Tryz.fl Tryz.sizeOf9 (Tryz.fl Tryz.sizeOf3 Tryz.fz))))) ?_
 refine Tryz.all_cons (Tryz.mkS Tryz.sizeOf37 Tryz.isAgg37 Tryz.zeroValue37 Tryz.underlying37 Tryz.t37 (Tryz.fl Tryz.sizeOf4 (Tryz.fl Tryz.sizeOf31 Tryz.fz))) ?_
 refine Tryz.all_cons (Tryz.mkS Tryz.sizeOf38 Tryz.isAgg38 Tryz.zeroValue38 Tryz.underlying38 Tryz.t38 (Tryz.fl Tryz.sizeOf4 (Tryz.fl Tryz.sizeOf31 Tryz.fz))) ?_
 refine Tryz.all_cons (Tryz.mkN Tryz.sizeOf39 Tryz.isAgg39 Tryz.zeroValue39 Tryz.underlying39 Tryz.t39) ?_
 refine Tryz.all_cons (Tryz.mkS Tryz.sizeOf40 Tryz.isAgg40 Tryz.zeroValue40 Tryz.underlying40 Tryz.t40 (Tryz.fl Tryz.sizeOf28 (Tryz.fl Tryz.sizeOf36 (Tryz.fl Tryz.sizeOf36 (Tryz.fl Tryz.sizeOf38 (Tryz.fl Tryz.sizeOf39 Tryz.fz)))))) ?_
 refine Tryz.all_cons (Tryz.mkS Tryz.sizeOf41 Tryz.isAgg41 Tryz.zeroValue41 Tryz.underlying41 Tryz.t41 (Tryz.fl Tryz.sizeOf28 (Tryz.fl Tryz.sizeOf36 (Tryz.fl Tryz.sizeOf36 (Tryz.fl Tryz.sizeOf38 (Tryz.fl Tryz.sizeOf39 Tryz.fz)))))) ?_
 refine Tryz.all_cons (Tryz.mkS Tryz.sizeOf42 Tryz.isAgg42 Tryz.zeroValue42 Tryz.underlying42 Tryz.t42 (Tryz.fl Tryz.sizeOf41 (Tryz.fl Tryz.sizeOf31 (Tryz.fl Tryz.sizeOf31 Tryz.fz)))) ?_
 refine Tryz.all_cons (Tryz.mkS Tryz.sizeOf43 Tryz.isAgg43 Tryz.zeroValue43 Tryz.underlying43 Tryz.t43 (Tryz.fl Tryz.sizeOf41 (Tryz.fl Tryz.sizeOf31 (Tryz.fl Tryz.sizeOf31 Tryz.fz)))) ?_
 refine Tryz.all_cons (Tryz.mkN Tryz.sizeOf44 Tryz.isAgg44 Tryz.zeroValue44 Tryz.underlying44 Tryz.t44) ?_
 refine Tryz.all_cons (Tryz.mkN Tryz.sizeOf45 Tryz.isAgg45 Tryz.zeroValue45 Tryz.underlying45 Tryz.t45) ?_
 refine Tryz.all_cons (Tryz.mkN Tryz.sizeOf46 Tryz.isAgg46 Tryz.zeroValue46 Tryz.underlying46 Tryz.t46) ?_
 refine Tryz.all_cons (Tryz.mkN Tryz.sizeOf47 Tryz.isAgg47 Tryz.zeroValue47 Tryz.underlying47 Tryz.t47) ?_
 refine Tryz.all_cons (Tryz.mkN Tryz.sizeOf48 Tryz.isAgg48 Tryz.zeroValue48 Tryz.underlying48 Tryz.t48) ?_
 refine Tryz.all_cons (Tryz.mkN Tryz.sizeOf49 Tryz.isAgg49 Tryz.zeroValue49 Tryz.underlying49 Tryz.t49) ?_
 refine Tryz.all_cons (Tryz.mkN Tryz.sizeOf50 Tryz.isAgg50 Tryz.zeroValue50 Tryz.underlying50 Tryz.t50) ?_
 refine Tryz.all_cons (Tryz.mkN Tryz.sizeOf51 Tryz.isAgg51 Tryz.zeroValue51 Tryz.underlying51 Tryz.t51) ?_
 refine Tryz.all_cons (Tryz.mkN Tryz.sizeOf53 Tryz.isAgg53 Tryz.zeroValue53 Tryz.underlying53 Tryz.t53) ?_
 refine Tryz.all_cons (Tryz.mkN Tryz.sizeOf54 Tryz.isAgg54 Tryz.zeroValue54 Tryz.underlying54 Tryz.t54) ?_
 refine Tryz.all_cons (Tryz.mkN Tryz.sizeOf55 Tryz.isAgg55 Tryz.zeroValue55 Tryz.underlying55 Tryz.t55) ?_
 refine Tryz.all_cons (Tryz.mkN Tryz.sizeOf56 Tryz.isAgg56 Tryz.zeroValue56 Tryz.underlying56 Tryz.t56) ?_
 refine Tryz.all_cons (Tryz.mkN Tryz.sizeOf57 Tryz.isAgg57 Tryz.zeroValue57 Tryz.underlying57 Tryz.t57) ?_
 refine Tryz.all_cons (Tryz.mkN Tryz.sizeOf58 Tryz.isAgg58 Tryz.zeroValue58 Tryz.underlying58 Tryz.t58) ?_
 refine Tryz.all_cons (Tryz.mkN Tryz.sizeOf59 Tryz.isAgg59 Tryz.zeroValue59 Tryz.underlying59 Tryz.t59) ?_
 refine Tryz.all_cons (Tryz.mkN Tryz.sizeOf60 Tryz.isAgg60 Tryz.zeroValue60 Tryz.underlying60 Tryz.t60) ?_
 refine Tryz.all_cons (Tryz.mkN Tryz.sizeOf61 Tryz.isAgg61 Tryz.zeroValue61 Tryz.underlying61 Tryz.t61) ?_
 refine Tryz.all_cons (Tryz.mkN Tryz.sizeOf63 Tryz.isAgg63 Tryz.zeroValue63 Tryz.underlying63 Tryz.t63) ?_
 refine Tryz.all_cons (Tryz.mkN Tryz.sizeOf64 Tryz.isAgg64 Tryz.zeroValue64 Tryz.underlying64 Tryz.t64) ?_
 refine Tryz.all_cons (Tryz.mkN Tryz.sizeOf65 Tryz.isAgg65 Tryz.zeroValue65 Tryz.underlying65 Tryz.t65) ?_
 refine Tryz.all_cons (Tryz.mkN Tryz.sizeOf67 Tryz.isAgg67 Tryz.zeroValue67 Tryz.underlying67 Tryz.t67) ?_
 refine Tryz.all_cons (Tryz.mkN Tryz.sizeOf68 Tryz.isAgg68 Tryz.zeroValue68 Tryz.underlying68 Tryz.t68) ?_
 refine Tryz.all_cons (Tryz.mkN Tryz.sizeOf69 Tryz.isAgg69 Tryz.zeroValue69 Tryz.underlying69 Tryz.t69) ?_
 refine Tryz.all_cons (Tryz.mkN Tryz.sizeOf70 Tryz.isAgg70 Tryz.zeroValue70 Tryz.underlying70 Tryz.t70) ?_
 refine Tryz.all_cons (Tryz.mkN Tryz.sizeOf71 Tryz.isAgg71 Tryz.zeroValue71 Tryz.underlying71 Tryz.t71) ?_
 refine Tryz.all_cons (Tryz.mkN Tryz.sizeOf72 Tryz.isAgg72 Tryz.zeroValue72 Tryz.underlying72 Tryz.t72) ?_
 refine Tryz.all_cons (Tryz.mkN Tryz.sizeOf73 Tryz.isAgg73 Tryz.zeroValue73 Tryz.underlying73 Tryz.t73) ?_
 refine Tryz.all_cons (Tryz.mkN Tryz.sizeOf74 Tryz.isAgg74 Tryz.zeroValue74 Tryz.underlying74 Tryz.t74) ?_
 refine Tryz.all_cons (Tryz.mkS Tryz.sizeOf75 Tryz.isAgg75 Tryz.zeroValue75 Tryz.underlying75 Tryz.t75 (Tryz.fl Tryz.sizeOf25 Tryz.fz)) ?_
 refine Tryz.all_cons (Tryz.mkS Tryz.sizeOf76 Tryz.isAgg76 Tryz.zeroValue76 Tryz.underlying76 Tryz.t76 (Tryz.fl Tryz.sizeOf25 Tryz.fz)) ?_
 refine Tryz.all_cons (Tryz.mkN Tryz.sizeOf77 Tryz.isAgg77 Tryz.zeroValue77 Tryz.underlying77 Tryz.t77) ?_
 refine Tryz.all_cons (Tryz.mkN Tryz.sizeOf78 Tryz.isAgg78 Tryz.zeroValue78 Tryz.underlying78 Tryz.t78) ?_
 refine Tryz.all_cons (Tryz.mkS Tryz.sizeOf79 Tryz.isAgg79 Tryz.zeroValue79 Tryz.underlying79 Tryz.t79 (Tryz.fl Tryz.sizeOf9 (Tryz.fl Tryz.sizeOf9 Tryz.fz))) ?_
 refine Tryz.all_cons (Tryz.mkS Tryz.sizeOf80 Tryz.isAgg80 Tryz.zeroValue80 Tryz.underlying80 Tryz.t80 (Tryz.fl Tryz.sizeOf9 (Tryz.fl Tryz.sizeOf9 Tryz.fz))) ?_
 refine Tryz.all_cons (Tryz.mkN Tryz.sizeOf82 Tryz.isAgg82 Tryz.zeroValue82 Tryz.underlying82 Tryz.t82) ?_
 refine Tryz.all_cons (Tryz.mkN Tryz.sizeOf83 Tryz.isAgg83 Tryz.zeroValue83 Tryz.underlying83 Tryz.t83) ?_
 refine Tryz.all_cons (Tryz.mkS Tryz.sizeOf84 Tryz.isAgg84 Tryz.zeroValue84 Tryz.underlying84 Tryz.t84 (Tryz.fl Tryz.sizeOf9 (Tryz.fl Tryz.sizeOf9 Tryz.fz))) ?_
 refine Tryz.all_cons (Tryz.mkS Tryz.sizeOf85 Tryz.isAgg85 Tryz.zeroValue85 Tryz.underlying85 Tryz.t85 (Tryz.fl Tryz.sizeOf9 (Tryz.fl Tryz.sizeOf9 Tryz.fz))) ?_
 refine Tryz.all_cons (Tryz.mkN Tryz.sizeOf87 Tryz.isAgg87 Tryz.zeroValue87 Tryz.underlying87 Tryz.t87) ?_
 refine Tryz.all_cons (Tryz.mkN Tryz.sizeOf88 Tryz.isAgg88 Tryz.zeroValue88 Tryz.underlying88 Tryz.t88) ?_
 refine Tryz.all_cons (Tryz.mkN Tryz.sizeOf89 Tryz.isAgg89 Tryz.zeroValue89 Tryz.underlying89 Tryz.t89) ?_
 refine Tryz.all_cons (Tryz.mkS Tryz.sizeOf90 Tryz.isAgg90 Tryz.zeroValue90 Tryz.underlying90 Tryz.t90 (Tryz.fl Tryz.sizeOf9 (Tryz.fl Tryz.sizeOf3 (Tryz.fl Tryz.sizeOf9 (Tryz.fl Tryz.sizeOf9 (Tryz.fl Tryz.sizeOf9 (Tryz.fl Tryz.sizeOf4 (Tryz.fl Tryz.sizeOf4 Tryz.fz)))))))) ?_
 refine Tryz.all_cons (Tryz.mkS Tryz.sizeOf91 Tryz.isAgg91 Tryz.zeroValue91 Tryz.underlying91 Tryz.t91 (Tryz.fl Tryz.sizeOf9 (Tryz.fl Tryz.sizeOf3 (Tryz.fl Tryz.sizeOf9 (Tryz.fl Tryz.sizeOf9 (Tryz.fl Tryz.sizeOf9 (Tryz.fl Tryz.sizeOf4 (Tryz.fl Tryz.sizeOf4 Tryz.fz)))))))) ?_
 refine Tryz.all_cons (Tryz.mkS Tryz.sizeOf92 Tryz.isAgg92 Tryz.zeroValue92 Tryz.underlying92 Tryz.t92 (Tryz.fl Tryz.sizeOf91 (Tryz.fl Tryz.sizeOf3 (Tryz.fl Tryz.sizeOf28 Tryz.fz)))) ?_
 refine Tryz.all_cons (Tryz.mkS Tryz.sizeOf93 Tryz.isAgg93 Tryz.zeroValue93 Tryz.underlying93 Tryz.t93 (Tryz.fl Tryz.sizeOf91 (Tryz.fl Tryz.sizeOf3 (Tryz.fl Tryz.sizeOf28 Tryz.fz)))) ?_
 refine Tryz.all_cons (Tryz.mkN Tryz.sizeOf94 Tryz.isAgg94 Tryz.zeroValue94 Tryz.underlying94 Tryz.t94) ?_
 refine Tryz.all_cons (Tryz.mkN Tryz.sizeOf95 Tryz.isAgg95 Tryz.zeroValue95 Tryz.underlying95 Tryz.t95) ?_
 refine Tryz.all_cons (Tryz.mkN Tryz.sizeOf96 Tryz.isAgg96 Tryz.zeroValue96 Tryz.underlying96 Tryz.t96) ?_
 refine Tryz.all_cons (Tryz.mkN Tryz.sizeOf97 Tryz.isAgg97 Tryz.zeroValue97 Tryz.underlying97 Tryz.t97) ?_
 refine Tryz.all_cons (Tryz.mkS Tryz.sizeOf98 Tryz.isAgg98 Tryz.zeroValue98 Tryz.underlying98 Tryz.t98 (Tryz.fl Tryz.sizeOf22 (Tryz.fl Tryz.sizeOf97 Tryz.fz))) ?_
 refine Tryz.all_cons (Tryz.mkS Tryz.sizeOf99 Tryz.isAgg99 Tryz.zeroValue99 Tryz.underlying99 Tryz.t99 (Tryz.fl Tryz.sizeOf22 (Tryz.fl Tryz.sizeOf97 Tryz.fz))) ?_
 refine Tryz.all_cons (Tryz.mkN Tryz.sizeOf100 Tryz.isAgg100 Tryz.zeroValue100 Tryz.underlying100 Tryz.t100) ?_
 refine Tryz.all_cons (Tryz.mkN Tryz.sizeOf101 Tryz.isAgg101 Tryz.zeroValue101 Tryz.underlying101 Tryz.t101) ?_
 refine Tryz.all_cons (Tryz.mkN Tryz.sizeOf102 Tryz.isAgg102 Tryz.zeroValue102 Tryz.underlying102 Tryz.t102) ?_
 refine Tryz.all_cons (Tryz.mkN Tryz.sizeOf103 Tryz.isAgg103 Tryz.zeroValue103 Tryz.underlying103 Tryz.t103) ?_
 refine Tryz.all_cons (Tryz.mkN Tryz.sizeOf104 Tryz.isAgg104 Tryz.zeroValue104 Tryz.underlying104 Tryz.t104) ?_
 refine Tryz.all_cons (Tryz.mkN Tryz.sizeOf106 Tryz.isAgg106 Tryz.zeroValue106 Tryz.underlying106 Tryz.t106) ?_
 refine Tryz.all_cons (Tryz.mkN Tryz.sizeOf107 Tryz.isAgg107 Tryz.zeroValue107 Tryz.underlying107 Tryz.t107) ?_
 refine Tryz.all_cons (Tryz.mkN Tryz.sizeOf108 Tryz.isAgg108 Tryz.zeroValue108 Tryz.underlying108 Tryz.t108) ?_
 refine Tryz.all_cons (Tryz.mkN Tryz.sizeOf109 Tryz.isAgg109 Tryz.zeroValue109 Tryz.underlying109 Tryz.t109) ?_
 refine Tryz.all_cons (Tryz.mkN Tryz.sizeOf110 Tryz.isAgg110 Tryz.zeroValue110 Tryz.underlying110 Tryz.t110) ?_
 refine Tryz.all_cons (Tryz.mkN Tryz.sizeOf111 Tryz.isAgg111 Tryz.zeroValue111 Tryz.underlying111 Tryz.t111) ?_
 refine Tryz.all_cons (Tryz.mkN Tryz.sizeOf112 Tryz.isAgg112 Tryz.zeroValue112 Tryz.underlying112 Tryz.t112) ?_
 refine Tryz.all_cons (Tryz.mkN Tryz.sizeOf114 Tryz.isAgg114 Tryz.zeroValue114 Tryz.underlying114 Tryz.t114) ?_
 refine Tryz.all_cons (Tryz.mkN Tryz.sizeOf115 Tryz.isAgg115 Tryz.zeroValue115 Tryz.underlying115 Tryz.t115) ?_
 refine Tryz.all_cons (Tryz.mkN Tryz.sizeOf116 Tryz.isAgg116 Tryz.zeroValue116 Tryz.underlying116 Tryz.t116) ?_
 refine Tryz.all_cons (Tryz.mkN Tryz.sizeOf117 Tryz.isAgg117 Tryz.zeroValue117 Tryz.underlying117 Tryz.t117) ?_
 refine Tryz.all_cons (Tryz.mkN Tryz.sizeOf118 Tryz.isAgg118 Tryz.zeroValue118 Tryz.underlying118 Tryz.t118) ?_
 refine Tryz.all_cons (Tryz.mkN Tryz.sizeOf120 Tryz.isAgg120 Tryz.zeroValue120 Tryz.underlying120 Tryz.t120) ?_
 refine Tryz.all_cons (Tryz.mkN Tryz.sizeOf121 Tryz.isAgg121 Tryz.zeroValue121 Tryz.underlying121 Tryz.t121) ?_
 refine Tryz.all_cons (Tryz.mkS Tryz.sizeOf122 Tryz.isAgg122 Tryz.zeroValue122 Tryz.underlying122 Tryz.t122 (Tryz.fl Tryz.sizeOf9 (Tryz.fl Tryz.sizeOf9 Tryz.fz))) ?_
 refine Tryz.all_cons (Tryz.mkS Tryz.sizeOf123 Tryz.isAgg123 Tryz.zeroValue123 Tryz.underlying123 Tryz.t123 (Tryz.fl Tryz.sizeOf9 (Tryz.fl Tryz.sizeOf9 Tryz.fz))) ?_
 refine Tryz.all_cons (Tryz.mkN Tryz.sizeOf125 Tryz.isAgg125 Tryz.zeroValue125 Tryz.underlying125 Tryz.t125) ?_
 refine Tryz.all_cons (Tryz.mkN Tryz.sizeOf126 Tryz.isAgg126 Tryz.zeroValue126 Tryz.underlying126 Tryz.t126) ?_
 refine Tryz.all_cons (Tryz.mkS Tryz.sizeOf127 Tryz.isAgg127 Tryz.zeroValue127 Tryz.underlying127 Tryz.t127 (Tryz.fl Tryz.sizeOf9 (Tryz.fl Tryz.sizeOf3 Tryz.fz))) ?_
 refine Tryz.all_cons (Tryz.mkS Tryz.sizeOf128 Tryz.isAgg128 Tryz.zeroValue128 Tryz.underlying128 Tryz.t128 (Tryz.fl Tryz.sizeOf9 (Tryz.fl Tryz.sizeOf3 Tryz.fz))) ?_
 refine Tryz.all_cons (Tryz.mkN Tryz.sizeOf130 Tryz.isAgg130 Tryz.zeroValue130 Tryz.underlying130 Tryz.t130) ?_
 refine Tryz.all_cons (Tryz.mkN Tryz.sizeOf131 Tryz.isAgg131 Tryz.zeroValue131 Tryz.underlying131 Tryz.t131) ?_
 refine Tryz.all_cons (Tryz.mkN Tryz.sizeOf132 Tryz.isAgg132 Tryz.zeroValue132 Tryz.underlying132 Tryz.t132) ?_
 refine Tryz.all_cons (Tryz.mkN Tryz.sizeOf133 Tryz.isAgg133 Tryz.zeroValue133 Tryz.underlying133 Tryz.t133) ?_
 refine Tryz.all_cons (Tryz.mkN Tryz.sizeOf134 Tryz.isAgg134 Tryz.zeroValue134 Tryz.underlying134 Tryz.t134) ?_
 refine Tryz.all_cons (Tryz.mkN Tryz.sizeOf135 Tryz.isAgg135 Tryz.zeroValue135 Tryz.underlying135 Tryz.t135) ?_
 refine Tryz.all_cons (Tryz.mkN Tryz.sizeOf136 Tryz.isAgg136 Tryz.zeroValue136 Tryz.underlying136 Tryz.t136) ?_
 refine Tryz.all_cons (Tryz.mkN Tryz.sizeOf137 Tryz.isAgg137 Tryz.zeroValue137 Tryz.underlying137 Tryz.t137) ?_
 refine Tryz.all_cons (Tryz.mkN Tryz.sizeOf138 Tryz.isAgg138 Tryz.zeroValue138 Tryz.underlying138 Tryz.t138) ?_
 refine Tryz.all_cons (Tryz.mkN Tryz.sizeOf140 Tryz.isAgg140 Tryz.zeroValue140 Tryz.underlying140 Tryz.t140) ?_
 refine Tryz.all_cons (Tryz.mkN Tryz.sizeOf141 Tryz.isAgg141 Tryz.zeroValue141 Tryz.underlying141 Tryz.t141) ?_
 refine Tryz.all_cons (Tryz.mkN Tryz.sizeOf142 Tryz.isAgg142 Tryz.zeroValue142 Tryz.underlying142 Tryz.t142) ?_
 refine Tryz.all_cons (Tryz.mkN Tryz.sizeOf143 Tryz.isAgg143 Tryz.zeroValue143 Tryz.underlying143 Tryz.t143) ?_
 refine Tryz.all_cons (Tryz.mkN Tryz.sizeOf145 Tryz.isAgg145 Tryz.zeroValue145 Tryz.underlying145 Tryz.t145) ?_
 refine Tryz.all_cons (Tryz.mkS Tryz.sizeOf146 Tryz.isAgg146 Tryz.zeroValue146 Tryz.underlying146 Tryz.t146 (Tryz.fl Tryz.sizeOf9 (Tryz.fl Tryz.sizeOf9 (Tryz.fl Tryz.sizeOf9 (Tryz.fl Tryz.sizeOf9 (Tryz.fl Tryz.sizeOf9 (Tryz.fl Tryz.sizeOf4 (Tryz.fl Tryz.sizeOf4 (Tryz.fl Tryz.sizeOf4 (Tryz.fl Tryz.sizeOf4 Tryz.fz)))))))))) ?_
 refine Tryz.all_cons (Tryz.mkS Tryz.sizeOf147 Tryz.isAgg147 Tryz.zeroValue147 Tryz.underlying147 Tryz.t147 (Tryz.fl Tryz.sizeOf9 (Tryz.fl Tryz.sizeOf9 (Tryz.fl Tryz.sizeOf9 (Tryz.fl Tryz.sizeOf9 (Tryz.fl Tryz.sizeOf9 (Tryz.fl Tryz.sizeOf4 (Tryz.fl Tryz.sizeOf4 (Tryz.fl Tryz.sizeOf4 (Tryz.fl Tryz.sizeOf4 Tryz.fz)))))))))) ?_
 refine Tryz.all_cons (Tryz.mkN Tryz.sizeOf149 Tryz.isAgg149 Tryz.zeroValue149 Tryz.underlying149 Tryz.t149) ?_
 refine Tryz.all_cons (Tryz.mkN Tryz.sizeOf150 Tryz.isAgg150 Tryz.zeroValue150 Tryz.underlying150 Tryz.t150) ?_
 refine Tryz.all_cons (Tryz.mkN Tryz.sizeOf151 Tryz.isAgg151 Tryz.zeroValue151 Tryz.underlying151 Tryz.t151) ?_
 refine Tryz.all_cons (Tryz.mkN Tryz.sizeOf152 Tryz.isAgg152 Tryz.zeroValue152 Tryz.underlying152 Tryz.t152) ?_
 refine Tryz.all_cons (Tryz.mkN Tryz.sizeOf153 Tryz.isAgg153 Tryz.zeroValue153 Tryz.underlying153 Tryz.t153) ?_
 refine Tryz.all_cons (Tryz.mkN Tryz.sizeOf154 Tryz.isAgg154 Tryz.zeroValue154 Tryz.underlying154 Tryz.t154) ?_
 refine Tryz.all_cons (Tryz.mkN Tryz.sizeOf156 Tryz.isAgg156 Tryz.zeroValue156 Tryz.underlying156 Tryz.t156) ?_
 refine Tryz.all_cons (Tryz.mkN Tryz.sizeOf157 Tryz.isAgg157 Tryz.zeroValue157 Tryz.underlying157 Tryz.t157) ?_
 refine Tryz.all_cons (Tryz.mkN Tryz.sizeOf158 Tryz.isAgg158 Tryz.zeroValue158 Tryz.underlying158 Tryz.t158) ?_
 refine Tryz.all_cons (Tryz.mkN Tryz.sizeOf159 Tryz.isAgg159 Tryz.zeroValue159 Tryz.underlying159 Tryz.t159) ?_
 refine Tryz.all_cons (Tryz.mkN Tryz.sizeOf160 Tryz.isAgg160 Tryz.zeroValue160 Tryz.underlying160 Tryz.t160) ?_
 refine Tryz.all_cons (Tryz.mkN Tryz.sizeOf161 Tryz.isAgg161 Tryz.zeroValue161 Tryz.underlying161 Tryz.t161) ?_
 refine Tryz.all_cons (Tryz.mkN Tryz.sizeOf163 Tryz.isAgg163 Tryz.zeroValue163 Tryz.underlying163 Tryz.t163) ?_
 refine Tryz.all_cons (Tryz.mkN Tryz.sizeOf164 Tryz.isAgg164 Tryz.zeroValue164 Tryz.underlying164 Tryz.t164) ?_
 refine Tryz.all_cons (Tryz.mkN Tryz.sizeOf165 Tryz.isAgg165 Tryz.zeroValue165 Tryz.underlying165 Tryz.t165) ?_
 refine Tryz.all_cons (Tryz.mkN Tryz.sizeOf167 Tryz.isAgg167 Tryz.zeroValue167 Tryz.underlying167 Tryz.t167) ?_
 refine Tryz.all_cons (Tryz.mkN Tryz.sizeOf169 Tryz.isAgg169 Tryz.zeroValue169 Tryz.underlying169 Tryz.t169) ?_
 refine Tryz.all_cons (Tryz.mkN Tryz.sizeOf170 Tryz.isAgg170 Tryz.zeroValue170 Tryz.underlying170 Tryz.t170) ?_
 refine Tryz.all_cons (Tryz.mkN Tryz.sizeOf171 Tryz.isAgg171 Tryz.zeroValue171 Tryz.underlying171 Tryz.t171) ?_
 refine Tryz.all_cons (Tryz.mkN Tryz.sizeOf173 Tryz.isAgg173 Tryz.zeroValue173 Tryz.underlying173 Tryz.t173) ?_
 refine Tryz.all_cons (Tryz.mkN Tryz.sizeOf174 Tryz.isAgg174 Tryz.zeroValue174 Tryz.underlying174 Tryz.t174) ?_
 refine Tryz.all_cons (Tryz.mkN Tryz.sizeOf175 Tryz.isAgg175 Tryz.zeroValue175 Tryz.underlying175 Tryz.t175) ?_
 refine Tryz.all_cons (Tryz.mkN Tryz.sizeOf176 Tryz.isAgg176 Tryz.zeroValue176 Tryz.underlying176 Tryz.t176) ?_
 refine Tryz.all_cons (Tryz.mkN Tryz.sizeOf177 Tryz.isAgg177 Tryz.zeroValue177 Tryz.underlying177 Tryz.t177) ?_
 refine Tryz.all_cons (Tryz.mkS Tryz.sizeOf178 Tryz.isAgg178 Tryz.zeroValue178 Tryz.underlying178 Tryz.t178 (Tryz.fl Tryz.sizeOf28 Tryz.fz)) ?_
 refine Tryz.all_cons (Tryz.mkS Tryz.sizeOf179 Tryz.isAgg179 Tryz.zeroValue179 Tryz.underlying179 Tryz.t179 (Tryz.fl Tryz.sizeOf28 Tryz.fz)) ?_
 refine Tryz.all_cons (Tryz.mkN Tryz.sizeOf180 Tryz.isAgg180 Tryz.zeroValue180 Tryz.underlying180 Tryz.t180) ?_
 refine Tryz.all_cons (Tryz.mkN Tryz.sizeOf181 Tryz.isAgg181 Tryz.zeroValue181 Tryz.underlying181 Tryz.t181) ?_
 refine Tryz.all_cons (Tryz.mkN Tryz.sizeOf182 Tryz.isAgg182 Tryz.zeroValue182 Tryz.underlying182 Tryz.t182) ?_
 refine Tryz.all_cons (Tryz.mkN Tryz.sizeOf183 Tryz.isAgg183 Tryz.zeroValue183 Tryz.underlying183 Tryz.t183) ?_
 refine Tryz.all_cons (Tryz.mkN Tryz.sizeOf187 Tryz.isAgg187 Tryz.zeroValue187 Tryz.underlying187 Tryz.t187) ?_
 refine Tryz.all_cons (Tryz.mkN Tryz.sizeOf188 Tryz.isAgg188 Tryz.zeroValue188 Tryz.underlying188 Tryz.t188) ?_
 refine Tryz.all_cons (Tryz.mkN Tryz.sizeOf189 Tryz.isAgg189 Tryz.zeroValue189 Tryz.underlying189 Tryz.t189) ?_
 refine Tryz.all_cons (Tryz.mkN Tryz.sizeOf190 Tryz.isAgg190 Tryz.zeroValue190 Tryz.underlying190 Tryz.t190) ?_
 refine Tryz.all_cons (Tryz.mkN Tryz.sizeOf191 Tryz.isAgg191 Tryz.zeroValue191 Tryz.underlying191 Tryz.t191) ?_
 refine Tryz.all_cons (Tryz.mkS Tryz.sizeOf192 Tryz.isAgg192 Tryz.zeroValue192 Tryz.underlying192 Tryz.t192 (Tryz.fl Tryz.sizeOf191 (Tryz.fl Tryz.sizeOf25 Tryz.fz))) ?_
 refine Tryz.all_cons (Tryz.mkS Tryz.sizeOf193 Tryz.isAgg193 Tryz.zeroValue193 Tryz.underlying193 Tryz.t193 (Tryz.fl Tryz.sizeOf191 (Tryz.fl Tryz.sizeOf25 Tryz.fz))) ?_
 refine Tryz.all_cons (Tryz.mkN Tryz.sizeOf194 Tryz.isAgg194 Tryz.zeroValue194 Tryz.underlying194 Tryz.t194) ?_
 refine Tryz.all_cons (Tryz.mkN Tryz.sizeOf195 Tryz.isAgg195 Tryz.zeroValue195 Tryz.underlying195 Tryz.t195) ?_
 refine Tryz.all_cons (Tryz.mkN Tryz.sizeOf197 Tryz.isAgg197 Tryz.zeroValue197 Tryz.underlying197 Tryz.t197) ?_
 refine Tryz.all_cons (Tryz.mkN Tryz.sizeOf198 Tryz.isAgg198 Tryz.zeroValue198 Tryz.underlying198 Tryz.t198) ?_
 refine Tryz.all_cons (Tryz.mkN Tryz.sizeOf199 Tryz.isAgg199 Tryz.zeroValue199 Tryz.underlying199 Tryz.t199) ?_
 refine Tryz.all_cons (Tryz.mkN Tryz.sizeOf200 Tryz.isAgg200 Tryz.zeroValue200 Tryz.underlying200 Tryz.t200) ?_
 refine Tryz.all_cons (Tryz.mkN Tryz.sizeOf201 Tryz.isAgg201 Tryz.zeroValue201 Tryz.underlying201 Tryz.t201) ?_
 refine Tryz.all_cons (Tryz.mkN Tryz.sizeOf202 Tryz.isAgg202 Tryz.zeroValue202 Tryz.underlying202 Tryz.t202) ?_
 refine Tryz.all_cons (Tryz.mkN Tryz.sizeOf203 Tryz.isAgg203 Tryz.zeroValue203 Tryz.underlying203 Tryz.t203) ?_
 refine Tryz.all_cons (Tryz.mkN Tryz.sizeOf204 Tryz.isAgg204 Tryz.zeroValue204 Tryz.underlying204 Tryz.t204) ?_
 refine Tryz.all_cons (Tryz.mkN Tryz.sizeOf205 Tryz.isAgg205 Tryz.zeroValue205 Tryz.underlying205 Tryz.t205) ?_
 refine Tryz.all_cons (Tryz.mkN Tryz.sizeOf207 Tryz.isAgg207 Tryz.zeroValue207 Tryz.underlying207 Tryz.t207) ?_
 refine Tryz.all_cons (Tryz.mkN Tryz.sizeOf208 Tryz.isAgg208 Tryz.zeroValue208 Tryz.underlying208 Tryz.t208) ?_
 refine Tryz.all_cons (Tryz.mkN Tryz.sizeOf209 Tryz.isAgg209 Tryz.zeroValue209 Tryz.underlying209 Tryz.t209) ?_
 refine Tryz.all_cons (Tryz.mkN Tryz.sizeOf210 Tryz.isAgg210 Tryz.zeroValue210 Tryz.underlying210 Tryz.t210) ?_
 refine Tryz.all_cons (Tryz.mkN Tryz.sizeOf212 Tryz.isAgg212 Tryz.zeroValue212 Tryz.underlying212 Tryz.t212) ?_
 refine Tryz.all_cons (Tryz.mkN Tryz.sizeOf213 Tryz.isAgg213 Tryz.zeroValue213 Tryz.underlying213 Tryz.t213) ?_
 refine Tryz.all_cons (Tryz.mkS Tryz.sizeOf215 Tryz.isAgg215 Tryz.zeroValue215 Tryz.underlying215 Tryz.t215 (Tryz.fl Tryz.sizeOf5 (Tryz.fl Tryz.sizeOf5 Tryz.fz))) ?_
 refine Tryz.all_cons (Tryz.mkS Tryz.sizeOf216 Tryz.isAgg216 Tryz.zeroValue216 Tryz.underlying216 Tryz.t216 (Tryz.fl Tryz.sizeOf5 (Tryz.fl Tryz.sizeOf5 Tryz.fz))) ?_
 refine Tryz.all_cons (Tryz.mkN Tryz.sizeOf217 Tryz.isAgg217 Tryz.zeroValue217 Tryz.underlying217 Tryz.t217) ?_
 refine Tryz.all_cons (Tryz.mkS Tryz.sizeOf218 Tryz.isAgg218 Tryz.zeroValue218 Tryz.underlying218 Tryz.t218 (Tryz.fl Tryz.sizeOf17 (Tryz.fl Tryz.sizeOf17 (Tryz.fl Tryz.sizeOf17 (Tryz.fl Tryz.sizeOf9 Tryz.fz))))) ?_
 refine Tryz.all_cons (Tryz.mkS Tryz.sizeOf219 Tryz.isAgg219 Tryz.zeroValue219 Tryz.underlying219 Tryz.t219 (Tryz.fl Tryz.sizeOf17 (Tryz.fl Tryz.sizeOf17 (Tryz.fl Tryz.sizeOf17 (Tryz.fl Tryz.sizeOf9 Tryz.fz))))) ?_
 refine Tryz.all_cons (Tryz.mkN Tryz.sizeOf220 Tryz.isAgg220 Tryz.zeroValue220 Tryz.underlying220 Tryz.t220) ?_
 refine Tryz.all_cons (Tryz.mkS Tryz.sizeOf221 Tryz.isAgg221 Tryz.zeroValue221 Tryz.underlying221 Tryz.t221 (Tryz.fl Tryz.sizeOf220 Tryz.fz)) ?_
 refine Tryz.all_cons (Tryz.mkS Tryz.sizeOf222 Tryz.isAgg222 Tryz.zeroValue222 Tryz.underlying222 Tryz.t222 (Tryz.fl Tryz.sizeOf220 Tryz.fz)) ?_
 refine Tryz.all_cons (Tryz.mkN Tryz.sizeOf223 Tryz.isAgg223 Tryz.zeroValue223 Tryz.underlying223 Tryz.t223) ?_
 refine Tryz.all_cons (Tryz.mkN Tryz.sizeOf224 Tryz.isAgg224 Tryz.zeroValue224 Tryz.underlying224 Tryz.t224) ?_
 refine Tryz.all_cons (Tryz.mkN Tryz.sizeOf225 Tryz.isAgg225 Tryz.zeroValue225 Tryz.underlying225 Tryz.t225) ?_
 refine Tryz.all_cons (Tryz.mkN Tryz.sizeOf226 Tryz.isAgg226 Tryz.zeroValue226 Tryz.underlying226 Tryz.t226) ?_
 refine Tryz.all_cons (Tryz.mkN Tryz.sizeOf227 Tryz.isAgg227 Tryz.zeroValue227 Tryz.underlying227 Tryz.t227) ?_
 refine Tryz.all_cons (Tryz.mkS Tryz.sizeOf228 Tryz.isAgg228 Tryz.zeroValue228 Tryz.underlying228 Tryz.t228 (Tryz.fl Tryz.sizeOf12 (Tryz.fl Tryz.sizeOf12 (Tryz.fl Tryz.sizeOf171 (Tryz.fl Tryz.sizeOf223 (Tryz.fl Tryz.sizeOf5 (Tryz.fl Tryz.sizeOf5 (Tryz.fl Tryz.sizeOf224 (Tryz.fl Tryz.sizeOf225 (Tryz.fl Tryz.sizeOf208 (Tryz.fl Tryz.sizeOf226 (Tryz.fl Tryz.sizeOf227 Tryz.fz)))))))))))) ?_
 refine Tryz.all_cons (Tryz.mkS Tryz.sizeOf229 Tryz.isAgg229 Tryz.zeroValue229 Tryz.underlying229 Tryz.t229 (Tryz.fl Tryz.sizeOf12 (Tryz.fl Tryz.sizeOf12 (Tryz.fl Tryz.sizeOf171 (Tryz.fl Tryz.sizeOf223 (Tryz.fl Tryz.sizeOf5 (Tryz.fl Tryz.sizeOf5 (Tryz.fl Tryz.sizeOf224 (Tryz.fl Tryz.sizeOf225 (Tryz.fl Tryz.sizeOf208 (Tryz.fl Tryz.sizeOf226 (Tryz.fl Tryz.sizeOf227 Tryz.fz)))))))))))) ?_
 refine Tryz.all_cons (Tryz.mkN Tryz.sizeOf230 Tryz.isAgg230 Tryz.zeroValue230 Tryz.underlying230 Tryz.t230) ?_
 exact fun x hx=>by cases hx
theorem Tryz.gI:Vc.BO Tryz.prog Tryz.Γ:=by
 intro T t h
 unfold Tryz.Γ at h
 obtain⟨p,hp,rfl⟩:=Option.map_eq_some_iff.1 h
 have h1:=List.find?_some hp
 have h2:=List.mem_of_find?_eq_some hp
 obtain rfl:p.1=T:=by simpa using h1
 exact Tryz.gokl p h2
end Go.Proofs
namespace Go.Proofs
open Go.Shelf
def Tryz.AH:Go.Shelf.Ren:=⟨fun|119=>207|n=>n,fun|21=>21|4=>4|n=>n,fun|n=>n⟩
theorem Tryz.lays119:Go.Proofs.Lays.n119 Tryz.prog Tryz.AH:={
 mixed:=by kernel_rfl
 f119:=Tryz.func207.trans (congrArg some (by kernel_rfl))
 t4:=Tryz.underlying4
 a4:=Tryz.isAgg4
 z4:=Tryz.sizeOf4
 v4:=Tryz.zeroValue4
 t21:=Tryz.underlying21
 a21:=Tryz.isAgg21
 z21:=Tryz.sizeOf21
 v21:=Tryz.zeroValue21 }
theorem Tryz.utf8_ValidRune (r:Int)(w:World) :
 Calls Tryz.prog 207 #[.int .i32 r] w fun e w'=>e=.returned (.bool (Lib.validRune r))∧w'=w:=Any.utf8_ValidRune Tryz.lays119 r w
def Tryz.lays213_ren:Go.Shelf.Ren:=⟨fun|213=>82|265=>111|n=>n,fun|9=>9|3=>3|n=>n,fun|n=>n⟩
def Tryz.AI:Go.Shelf.Ren:=⟨fun|106=>58|213=>82|265=>111|n=>n,fun|9=>9|3=>3|n=>n,fun|n=>n⟩
theorem Tryz.lays106:Go.Proofs.Lays.n106 Tryz.prog Tryz.AI:={
 mixed:=by kernel_rfl
 f106:=Tryz.func58.trans (congrArg some (by kernel_rfl))
 f213:=Tryz.func82.trans (congrArg some (by kernel_rfl))
 f265:=Tryz.func111.trans (congrArg some (by kernel_rfl))
 t3:=Tryz.underlying3
 a3:=Tryz.isAgg3
 z3:=Tryz.sizeOf3
 v3:=Tryz.zeroValue3
 t9:=Tryz.underlying9
 a9:=Tryz.isAgg9
 z9:=Tryz.sizeOf9
 v9:=Tryz.zeroValue9 }
open Go.RowKit in
theorem Tryz.strings_Compare (a b:ByteArray)(w:World) :
 Calls Tryz.prog 58 #[.string a,.string b] w fun e w'=>e=.returned (.int .i64 (Lib.compareBytes a.data.toList b.data.toList))∧w'=w:=Any.strings_Compare Tryz.lays106 a b w
def Tryz.AG:Go.Shelf.Ren:=⟨fun|137=>144|217=>134|266=>163|n=>n,fun|9=>9|5=>5|3=>3|n=>n,fun|n=>n⟩
theorem Tryz.lays137:Go.Proofs.Lays.n137 Tryz.prog Tryz.AG:={
 mixed:=by kernel_rfl
 f137:=Tryz.func144.trans (congrArg some (by kernel_rfl))
 f217:=Tryz.func134.trans (congrArg some (by kernel_rfl))
 f266:=Tryz.func163.trans (congrArg some (by kernel_rfl))
 t3:=Tryz.underlying3
 a3:=Tryz.isAgg3
 z3:=Tryz.sizeOf3
 v3:=Tryz.zeroValue3
 t5:=Tryz.underlying5
 a5:=Tryz.isAgg5
 z5:=Tryz.sizeOf5
 v5:=Tryz.zeroValue5
 t9:=Tryz.underlying9
 a9:=Tryz.isAgg9
 z9:=Tryz.sizeOf9
 v9:=Tryz.zeroValue9 }
open Go.RowKit in
theorem Tryz.strings_IndexByte (s:ByteArray)(c:Int)(w:World) :
 Calls Tryz.prog 144 #[.string s,.int .u8 c] w fun e w'=>e=.returned (.int .i64 (Lib.indexByte s.data.toList c.toNat.toUInt8))∧w'=w:=Any.strings_IndexByte Tryz.lays137 s c w
def Tryz.lays210_ren:Go.Shelf.Ren:=⟨fun|210=>181|206=>200|n=>n,fun|9=>9|4=>4|3=>3|n=>n,fun|n=>n⟩
def Tryz.AJ:Go.Shelf.Ren:=⟨fun|103=>156|210=>181|206=>200|n=>n,fun|9=>9|4=>4|24=>168|3=>3|n=>n,fun|n=>n⟩
theorem Tryz.lays103:Go.Proofs.Lays.n103 Tryz.prog Tryz.AJ:={
 mixed:=by kernel_rfl
 f103:=Tryz.func156.trans (congrArg some (by kernel_rfl))
 f206:=Tryz.func200.trans (congrArg some (by kernel_rfl))
 f210:=Tryz.func181.trans (congrArg some (by kernel_rfl))
 t3:=Tryz.underlying3
 a3:=Tryz.isAgg3
 z3:=Tryz.sizeOf3
 v3:=Tryz.zeroValue3
 t4:=Tryz.underlying4
 a4:=Tryz.isAgg4
 z4:=Tryz.sizeOf4
 v4:=Tryz.zeroValue4
 t9:=Tryz.underlying9
 a9:=Tryz.isAgg9
 z9:=Tryz.sizeOf9
 v9:=Tryz.zeroValue9
 t24:=Tryz.underlying168
 a24:=Tryz.isAgg168
 z24:=Tryz.sizeOf168
 v24:=Tryz.zeroValue168 }
open Go.RowKit in
theorem Tryz.strings_CutPrefix (s p:ByteArray)(w:World) :
 Calls Tryz.prog 156 #[.string s,.string p] w fun e w'=>e=.returned (.tuple #[.string ⟨(Lib.trimPrefix s.data.toList p.data.toList).toArray⟩,.bool (Lib.hasPrefix s.data.toList p.data.toList)])∧w'=w:=Any.strings_CutPrefix Tryz.lays103 s p w
def Tryz.lays219_ren:Go.Shelf.Ren:=⟨fun|219=>113|217=>134|225=>135|224=>136|267=>137|266=>163|314=>164|n=>n,fun|9=>9|3=>3|4=>4|5=>5|46=>132|146=>172|51=>171|n=>n,fun|1=>0|n=>n⟩
def Tryz.AF:Go.Shelf.Ren:=⟨fun|144=>150|143=>175|219=>113|217=>134|225=>135|224=>136|267=>137|266=>163|314=>164|n=>n,fun|9=>9|4=>4|3=>3|5=>5|46=>132|146=>172|51=>171|n=>n,fun|1=>0|n=>n⟩
theorem Tryz.lays144:Go.Proofs.Lays.n144 Tryz.prog Tryz.AF:={
 mixed:=by kernel_rfl
 f143:=Tryz.func175.trans (congrArg some (by kernel_rfl))
 f144:=Tryz.func150.trans (congrArg some (by kernel_rfl))
 f217:=Tryz.func134.trans (congrArg some (by kernel_rfl))
 f219:=Tryz.func113.trans (congrArg some (by kernel_rfl))
 f224:=Tryz.func136.trans (congrArg some (by kernel_rfl))
 f225:=Tryz.func135.trans (congrArg some (by kernel_rfl))
 f266:=Tryz.func163.trans (congrArg some (by kernel_rfl))
 f267:=Tryz.func137.trans (congrArg some (by kernel_rfl))
 f314:=Tryz.func164.trans (congrArg some (by kernel_rfl))
 t3:=Tryz.underlying3
 a3:=Tryz.isAgg3
 z3:=Tryz.sizeOf3
 v3:=Tryz.zeroValue3
 t4:=Tryz.underlying4
 a4:=Tryz.isAgg4
 z4:=Tryz.sizeOf4
 v4:=Tryz.zeroValue4
 t5:=Tryz.underlying5
 a5:=Tryz.isAgg5
 z5:=Tryz.sizeOf5
 v5:=Tryz.zeroValue5
 t9:=Tryz.underlying9
 a9:=Tryz.isAgg9
 z9:=Tryz.sizeOf9
 v9:=Tryz.zeroValue9
 t46:=Tryz.underlying132
 a46:=Tryz.isAgg132
 z46:=Tryz.sizeOf132
 v46:=Tryz.zeroValue132
 t51:=Tryz.underlying171
 a51:=Tryz.isAgg171
 z51:=Tryz.sizeOf171
 v51:=Tryz.zeroValue171
 t146:=Tryz.underlying172
 a146:=Tryz.isAgg172
 z146:=Tryz.sizeOf172
 v146:=Tryz.zeroValue172
 g1:=by kernel_rfl }
open Go.RowKit Go.Lib in
theorem Tryz.strings_Contains_one (s:ByteArray)(c:UInt8)(w:World) :
 Calls Tryz.prog 150 #[.string s,.string ⟨#[c]⟩] w fun e w'=>e=.returned (.bool (decide (0≤Lib.indexByte s.data.toList c)))∧w'=w:=Any.strings_Contains_one Tryz.lays144 s c w
def Tryz.AE:Go.Shelf.Ren:=⟨fun|145=>64|220=>85|219=>113|217=>134|225=>135|224=>136|267=>137|266=>163|314=>164|n=>n,fun|9=>9|4=>4|59=>105|3=>3|5=>5|46=>132|146=>172|51=>171|n=>n,fun|1=>0|n=>n⟩
theorem Tryz.lays145:Go.Proofs.Lays.n145 Tryz.prog Tryz.AE:={
 mixed:=by kernel_rfl
 f145:=Tryz.func64.trans (congrArg some (by kernel_rfl))
 f217:=Tryz.func134.trans (congrArg some (by kernel_rfl))
 f219:=Tryz.func113.trans (congrArg some (by kernel_rfl))
 f220:=Tryz.func85.trans (congrArg some (by kernel_rfl))
 f224:=Tryz.func136.trans (congrArg some (by kernel_rfl))
 f225:=Tryz.func135.trans (congrArg some (by kernel_rfl))
 f266:=Tryz.func163.trans (congrArg some (by kernel_rfl))
 f267:=Tryz.func137.trans (congrArg some (by kernel_rfl))
 f314:=Tryz.func164.trans (congrArg some (by kernel_rfl))
 t3:=Tryz.underlying3
 a3:=Tryz.isAgg3
 z3:=Tryz.sizeOf3
 v3:=Tryz.zeroValue3
 t4:=Tryz.underlying4
 a4:=Tryz.isAgg4
 z4:=Tryz.sizeOf4
 v4:=Tryz.zeroValue4
 t5:=Tryz.underlying5
 a5:=Tryz.isAgg5
 z5:=Tryz.sizeOf5
 v5:=Tryz.zeroValue5
 t9:=Tryz.underlying9
 a9:=Tryz.isAgg9
 z9:=Tryz.sizeOf9
 v9:=Tryz.zeroValue9
 t46:=Tryz.underlying132
 a46:=Tryz.isAgg132
 z46:=Tryz.sizeOf132
 v46:=Tryz.zeroValue132
 t51:=Tryz.underlying171
 a51:=Tryz.isAgg171
 z51:=Tryz.sizeOf171
 v51:=Tryz.zeroValue171
 t59:=Tryz.underlying105
 a59:=Tryz.isAgg105
 z59:=Tryz.sizeOf105
 v59:=Tryz.zeroValue105
 t146:=Tryz.underlying172
 a146:=Tryz.isAgg172
 z146:=Tryz.sizeOf172
 v146:=Tryz.zeroValue172
 g1:=by kernel_rfl }
open Go.RowKit Go.Lib in
theorem Tryz.strings_Cut (s sep:ByteArray)(m:Int)(w:World)(hs:s.size<4294967281)(hm:w.cell? ⟨0,0,none⟩=some (.int .i64 m)) :
 Calls Tryz.prog 64 #[.string s,.string sep] w fun e w'=>e=.returned (.tuple #[.string ⟨(Lib.cut s.data.toList sep.data.toList).1.toArray⟩,.string ⟨(Lib.cut s.data.toList sep.data.toList).2.1.toArray⟩,.bool (Lib.cut s.data.toList sep.data.toList).2.2])∧∃ n,w'=w.drewN n:=Any.strings_Cut Tryz.lays145 s sep m w hs hm
def Tryz.lays222_ren:Go.Shelf.Ren:=⟨fun|222=>202|n=>n,fun|9=>9|5=>5|3=>3|4=>4|n=>n,fun|n=>n⟩
def Tryz.AB:Go.Shelf.Ren:=⟨fun|149=>179|222=>202|n=>n,fun|9=>9|5=>5|3=>3|4=>4|n=>n,fun|n=>n⟩
theorem Tryz.lays149:Go.Proofs.Lays.n149 Tryz.prog Tryz.AB:={
 mixed:=by kernel_rfl
 f149:=Tryz.func179.trans (congrArg some (by kernel_rfl))
 f222:=Tryz.func202.trans (congrArg some (by kernel_rfl))
 t3:=Tryz.underlying3
 a3:=Tryz.isAgg3
 z3:=Tryz.sizeOf3
 v3:=Tryz.zeroValue3
 t4:=Tryz.underlying4
 a4:=Tryz.isAgg4
 z4:=Tryz.sizeOf4
 v4:=Tryz.zeroValue4
 t5:=Tryz.underlying5
 a5:=Tryz.isAgg5
 z5:=Tryz.sizeOf5
 v5:=Tryz.zeroValue5
 t9:=Tryz.underlying9
 a9:=Tryz.isAgg9
 z9:=Tryz.sizeOf9
 v9:=Tryz.zeroValue9 }
open Go.RowKit Go.Lib in
theorem Tryz.strings_LastIndexByte (s:ByteArray)(c:Int)(hs:s.size<4611686018427387904)(w:World) :
 Calls Tryz.prog 179 #[.string s,.int .u8 c] w fun e w'=>e=.returned (.int .i64 (Lib.lastIndexByte s c))∧w'=w:=Any.strings_LastIndexByte Tryz.lays149 s c hs w
def Tryz.CD:Go.Shelf.Ren:=⟨fun|99=>177|206=>200|n=>n,fun|9=>9|4=>4|3=>3|n=>n,fun|n=>n⟩
theorem Tryz.lays99:Go.Proofs.Lays.n99 Tryz.prog Tryz.CD:={
 mixed:=by kernel_rfl
 f99:=Tryz.func177.trans (congrArg some (by kernel_rfl))
 f206:=Tryz.func200.trans (congrArg some (by kernel_rfl))
 t3:=Tryz.underlying3
 a3:=Tryz.isAgg3
 z3:=Tryz.sizeOf3
 v3:=Tryz.zeroValue3
 t4:=Tryz.underlying4
 a4:=Tryz.isAgg4
 z4:=Tryz.sizeOf4
 v4:=Tryz.zeroValue4
 t9:=Tryz.underlying9
 a9:=Tryz.isAgg9
 z9:=Tryz.sizeOf9
 v9:=Tryz.zeroValue9 }
open Go.RowKit Go.Lib in
theorem Tryz.strings_HasPrefix (s p:ByteArray)(w:World) :
 Calls Tryz.prog 177 #[.string s,.string p] w fun e w'=>e=.returned (.bool (Lib.hasPrefix s.data.toList p.data.toList))∧w'=w:=Any.strings_HasPrefix Tryz.lays99 s p w
def Tryz.AL:Go.Shelf.Ren:=⟨fun|100=>159|207=>184|n=>n,fun|9=>9|4=>4|3=>3|n=>n,fun|n=>n⟩
theorem Tryz.lays100:Go.Proofs.Lays.n100 Tryz.prog Tryz.AL:={
 mixed:=by kernel_rfl
 f100:=Tryz.func159.trans (congrArg some (by kernel_rfl))
 f207:=Tryz.func184.trans (congrArg some (by kernel_rfl))
 t3:=Tryz.underlying3
 a3:=Tryz.isAgg3
 z3:=Tryz.sizeOf3
 v3:=Tryz.zeroValue3
 t4:=Tryz.underlying4
 a4:=Tryz.isAgg4
 z4:=Tryz.sizeOf4
 v4:=Tryz.zeroValue4
 t9:=Tryz.underlying9
 a9:=Tryz.isAgg9
 z9:=Tryz.sizeOf9
 v9:=Tryz.zeroValue9 }
open Go.RowKit Go.Lib in
theorem Tryz.strings_HasSuffix (s p:ByteArray)(w:World)(hs:s.size≤9223372036854775807) :
 Calls Tryz.prog 159 #[.string s,.string p] w fun e w'=>e=.returned (.bool (Lib.hasSuffix s.data.toList p.data.toList))∧w'=w:=Any.strings_HasSuffix Tryz.lays100 s p w hs
def Tryz.AK:Go.Shelf.Ren:=⟨fun|101=>178|208=>201|206=>200|n=>n,fun|9=>9|4=>4|3=>3|n=>n,fun|n=>n⟩
theorem Tryz.lays101:Go.Proofs.Lays.n101 Tryz.prog Tryz.AK:={
 mixed:=by kernel_rfl
 f101:=Tryz.func178.trans (congrArg some (by kernel_rfl))
 f206:=Tryz.func200.trans (congrArg some (by kernel_rfl))
 f208:=Tryz.func201.trans (congrArg some (by kernel_rfl))
 t3:=Tryz.underlying3
 a3:=Tryz.isAgg3
 z3:=Tryz.sizeOf3
 v3:=Tryz.zeroValue3
 t4:=Tryz.underlying4
 a4:=Tryz.isAgg4
 z4:=Tryz.sizeOf4
 v4:=Tryz.zeroValue4
 t9:=Tryz.underlying9
 a9:=Tryz.isAgg9
 z9:=Tryz.sizeOf9
 v9:=Tryz.zeroValue9 }
open Go.RowKit Go.Lib in
theorem Tryz.strings_TrimPrefix (s p:ByteArray)(w:World) :
 Calls Tryz.prog 178 #[.string s,.string p] w fun e w'=>e=.returned (.string ⟨(Lib.trimPrefix s.data.toList p.data.toList).toArray⟩)∧w'=w:=Any.strings_TrimPrefix Tryz.lays101 s p w
def Tryz.lays221_ren:Go.Shelf.Ren:=⟨fun|221=>198|268=>208|138=>209|143=>175|195=>214|197=>212|218=>215|219=>113|260=>218|217=>134|225=>135|224=>136|267=>137|266=>163|314=>164|n=>n,fun|9=>9|3=>3|31=>142|4=>4|0=>0|105=>206|21=>21|5=>5|46=>132|119=>214|139=>217|138=>216|146=>172|51=>171|n=>n,fun|1=>0|3=>1|4=>2|n=>n⟩
def Tryz.AD:Go.Shelf.Ren:=⟨fun|146=>172|221=>198|268=>208|138=>209|143=>175|195=>214|197=>212|218=>215|219=>113|260=>218|217=>134|225=>135|224=>136|267=>137|266=>163|314=>164|n=>n,fun|9=>9|31=>142|3=>3|4=>4|0=>0|105=>206|21=>21|5=>5|46=>132|119=>214|139=>217|138=>216|146=>172|51=>171|n=>n,fun|1=>0|3=>1|4=>2|n=>n⟩
theorem Tryz.lays146:Go.Proofs.Lays.n146 Tryz.prog Tryz.AD:={
 mixed:=by kernel_rfl
 f138:=Tryz.func209.trans (congrArg some (by kernel_rfl))
 f143:=Tryz.func175.trans (congrArg some (by kernel_rfl))
 f146:=Tryz.func172.trans (congrArg some (by kernel_rfl))
 f195:=Tryz.func214.trans (congrArg some (by kernel_rfl))
 f197:=Tryz.func212.trans (congrArg some (by kernel_rfl))
 f217:=Tryz.func134.trans (congrArg some (by kernel_rfl))
 f218:=Tryz.func215.trans (congrArg some (by kernel_rfl))
 f219:=Tryz.func113.trans (congrArg some (by kernel_rfl))
 f221:=Tryz.func198.trans (congrArg some (by kernel_rfl))
 f224:=Tryz.func136.trans (congrArg some (by kernel_rfl))
 f225:=Tryz.func135.trans (congrArg some (by kernel_rfl))
 f260:=Tryz.func218.trans (congrArg some (by kernel_rfl))
 f266:=Tryz.func163.trans (congrArg some (by kernel_rfl))
 f267:=Tryz.func137.trans (congrArg some (by kernel_rfl))
 f268:=Tryz.func208.trans (congrArg some (by kernel_rfl))
 f314:=Tryz.func164.trans (congrArg some (by kernel_rfl))
 t0:=Tryz.underlying0
 a0:=Tryz.isAgg0
 z0:=Tryz.sizeOf0
 v0:=Tryz.zeroValue0
 t3:=Tryz.underlying3
 a3:=Tryz.isAgg3
 z3:=Tryz.sizeOf3
 v3:=Tryz.zeroValue3
 t4:=Tryz.underlying4
 a4:=Tryz.isAgg4
 z4:=Tryz.sizeOf4
 v4:=Tryz.zeroValue4
 t5:=Tryz.underlying5
 a5:=Tryz.isAgg5
 z5:=Tryz.sizeOf5
 v5:=Tryz.zeroValue5
 t9:=Tryz.underlying9
 a9:=Tryz.isAgg9
 z9:=Tryz.sizeOf9
 v9:=Tryz.zeroValue9
 t21:=Tryz.underlying21
 a21:=Tryz.isAgg21
 z21:=Tryz.sizeOf21
 v21:=Tryz.zeroValue21
 t31:=Tryz.underlying142
 a31:=Tryz.isAgg142
 z31:=Tryz.sizeOf142
 v31:=Tryz.zeroValue142
 t46:=Tryz.underlying132
 a46:=Tryz.isAgg132
 z46:=Tryz.sizeOf132
 v46:=Tryz.zeroValue132
 t51:=Tryz.underlying171
 a51:=Tryz.isAgg171
 z51:=Tryz.sizeOf171
 v51:=Tryz.zeroValue171
 t105:=Tryz.underlying206
 a105:=Tryz.isAgg206
 z105:=Tryz.sizeOf206
 v105:=Tryz.zeroValue206
 t119:=Tryz.underlying214
 a119:=Tryz.isAgg214
 z119:=Tryz.sizeOf214
 t138:=Tryz.underlying216
 a138:=Tryz.isAgg216
 z138:=Tryz.sizeOf216
 v138:=Tryz.zeroValue216
 t139:=Tryz.underlying217
 a139:=Tryz.isAgg217
 z139:=Tryz.sizeOf217
 v139:=Tryz.zeroValue217
 t146:=Tryz.underlying172
 a146:=Tryz.isAgg172
 z146:=Tryz.sizeOf172
 v146:=Tryz.zeroValue172
 g1:=by kernel_rfl
 g3:=by kernel_rfl
 g4:=by kernel_rfl }
open Go.RowKit Go.Lib in
theorem Tryz.strings_Split (s sep:ByteArray)(m:Int)(w:World)(hs:s.size<4294967281)(hm:w.cell? ⟨0,0,none⟩=some (.int .i64 m))(h1:1≤sep.size) :
 Calls Tryz.prog 172 #[.string s,.string sep] w fun e w' =>
  e=.returned (.slice (some ⟨w.heap.size,0,none⟩) (Lib.countB s sep+1) (Lib.countB s sep+1))∧w'=w.alloc (.cells ((Lib.splitB sep 0 (Lib.countB s sep) s).map Value.string).toArray 9):=Any.strings_Split Tryz.lays146 (by kernel_rfl) s sep m w hs hm h1
def Tryz.lays154_ren:Go.Shelf.Ren:=⟨fun|154=>203|138=>209|165=>211|143=>175|166=>204|197=>212|169=>205|195=>214|218=>215|240=>213|241=>217|219=>113|260=>218|276=>219|277=>220|217=>134|225=>135|224=>136|267=>137|266=>163|314=>164|n=>n,fun|9=>9|3=>3|4=>4|72=>193|0=>0|76=>196|105=>206|21=>21|5=>5|70=>191|20=>20|37=>25|75=>195|127=>208|164=>211|46=>132|119=>214|139=>217|138=>216|146=>172|51=>171|80=>198|n=>n,fun|1=>0|3=>1|4=>2|n=>n⟩
def Tryz.r6:Go.Shelf.Ren:=⟨fun|155=>183|154=>203|138=>209|165=>211|143=>175|166=>204|197=>212|169=>205|195=>214|218=>215|240=>213|241=>217|219=>113|260=>218|276=>219|277=>220|217=>134|225=>135|224=>136|267=>137|266=>163|314=>164|n=>n,fun|9=>9|3=>3|4=>4|72=>193|0=>0|76=>196|105=>206|21=>21|5=>5|70=>191|20=>20|37=>25|75=>195|127=>208|164=>211|46=>132|119=>214|139=>217|138=>216|146=>172|51=>171|80=>198|n=>n,fun|1=>0|3=>1|4=>2|n=>n⟩
theorem Tryz.lays155:Go.Proofs.Lays.n155 Tryz.prog Tryz.r6:={
 mixed:=by kernel_rfl
 f138:=Tryz.func209.trans (congrArg some (by kernel_rfl))
 f143:=Tryz.func175.trans (congrArg some (by kernel_rfl))
 f154:=Tryz.func203.trans (congrArg some (by kernel_rfl))
 f155:=Tryz.func183.trans (congrArg some (by kernel_rfl))
 f165:=Tryz.func211.trans (congrArg some (by kernel_rfl))
 f166:=Tryz.func204.trans (congrArg some (by kernel_rfl))
 f169:=Tryz.func205.trans (congrArg some (by kernel_rfl))
 f195:=Tryz.func214.trans (congrArg some (by kernel_rfl))
 f197:=Tryz.func212.trans (congrArg some (by kernel_rfl))
 f217:=Tryz.func134.trans (congrArg some (by kernel_rfl))
 f218:=Tryz.func215.trans (congrArg some (by kernel_rfl))
 f219:=Tryz.func113.trans (congrArg some (by kernel_rfl))
 f224:=Tryz.func136.trans (congrArg some (by kernel_rfl))
 f225:=Tryz.func135.trans (congrArg some (by kernel_rfl))
 f240:=Tryz.func213.trans (congrArg some (by kernel_rfl))
 f241:=Tryz.func217.trans (congrArg some (by kernel_rfl))
 f260:=Tryz.func218.trans (congrArg some (by kernel_rfl))
 f266:=Tryz.func163.trans (congrArg some (by kernel_rfl))
 f267:=Tryz.func137.trans (congrArg some (by kernel_rfl))
 f276:=Tryz.func219.trans (congrArg some (by kernel_rfl))
 f277:=Tryz.func220.trans (congrArg some (by kernel_rfl))
 f314:=Tryz.func164.trans (congrArg some (by kernel_rfl))
 t0:=Tryz.underlying0
 a0:=Tryz.isAgg0
 z0:=Tryz.sizeOf0
 v0:=Tryz.zeroValue0
 t3:=Tryz.underlying3
 a3:=Tryz.isAgg3
 z3:=Tryz.sizeOf3
 v3:=Tryz.zeroValue3
 t4:=Tryz.underlying4
 a4:=Tryz.isAgg4
 z4:=Tryz.sizeOf4
 v4:=Tryz.zeroValue4
 t5:=Tryz.underlying5
 a5:=Tryz.isAgg5
 z5:=Tryz.sizeOf5
 v5:=Tryz.zeroValue5
 t9:=Tryz.underlying9
 a9:=Tryz.isAgg9
 z9:=Tryz.sizeOf9
 v9:=Tryz.zeroValue9
 t20:=Tryz.underlying20
 a20:=Tryz.isAgg20
 z20:=Tryz.sizeOf20
 v20:=Tryz.zeroValue20
 t21:=Tryz.underlying21
 a21:=Tryz.isAgg21
 z21:=Tryz.sizeOf21
 v21:=Tryz.zeroValue21
 t37:=Tryz.underlying25
 a37:=Tryz.isAgg25
 z37:=Tryz.sizeOf25
 v37:=Tryz.zeroValue25
 t46:=Tryz.underlying132
 a46:=Tryz.isAgg132
 z46:=Tryz.sizeOf132
 v46:=Tryz.zeroValue132
 t51:=Tryz.underlying171
 a51:=Tryz.isAgg171
 z51:=Tryz.sizeOf171
 v51:=Tryz.zeroValue171
 t70:=Tryz.underlying191
 a70:=Tryz.isAgg191
 z70:=Tryz.sizeOf191
 v70:=Tryz.zeroValue191
 t72:=Tryz.underlying193
 a72:=Tryz.isAgg193
 z72:=Tryz.sizeOf193
 v72:=Tryz.zeroValue193
 t75:=Tryz.underlying195
 a75:=Tryz.isAgg195
 z75:=Tryz.sizeOf195
 v75:=Tryz.zeroValue195
 t76:=Tryz.underlying196
 a76:=Tryz.isAgg196
 z76:=Tryz.sizeOf196
 v76:=Tryz.zeroValue196
 t105:=Tryz.underlying206
 a105:=Tryz.isAgg206
 z105:=Tryz.sizeOf206
 v105:=Tryz.zeroValue206
 t119:=Tryz.underlying214
 a119:=Tryz.isAgg214
 z119:=Tryz.sizeOf214
 t127:=Tryz.underlying208
 a127:=Tryz.isAgg208
 z127:=Tryz.sizeOf208
 v127:=Tryz.zeroValue208
 t138:=Tryz.underlying216
 a138:=Tryz.isAgg216
 z138:=Tryz.sizeOf216
 v138:=Tryz.zeroValue216
 t139:=Tryz.underlying217
 a139:=Tryz.isAgg217
 z139:=Tryz.sizeOf217
 v139:=Tryz.zeroValue217
 t146:=Tryz.underlying172
 a146:=Tryz.isAgg172
 z146:=Tryz.sizeOf172
 v146:=Tryz.zeroValue172
 t164:=Tryz.underlying211
 a164:=Tryz.isAgg211
 z164:=Tryz.sizeOf211
 v164:=Tryz.zeroValue211
 g1:=by kernel_rfl
 g3:=by kernel_rfl
 g4:=by kernel_rfl }
theorem Tryz.qG:Builder.Extra Tryz.prog Tryz.r6:={
 sizeBuilder:=by kernel_rfl
 liesBuilder:=by kernel_rfl
 t5:=Tryz.underlying5
 a5:=Tryz.isAgg5
 z5:=Tryz.sizeOf5
 v5:=Tryz.zeroValue5
 infoByte:=by kernel_rfl
 cellsByte:=by kernel_rfl
 sizeByte:=by kernel_rfl
 neB5:=by decide }
open Go.RowKit Go.Lib in
theorem Tryz.strings_ReplaceAll (s old new:ByteArray)(m:Int)(w:World)(hs:s.size<4294967281)(hm:w.cell? ⟨0,0,none⟩=some (.int .i64 m))(h1:1≤old.size)(hlen:s.size+Lib.countB s old * new.size≤140737488355328) :
 Calls Tryz.prog 183 #[.string s,.string old,.string new] w fun e w' =>
  e=.returned (.string ⟨(Lib.replaceAll s.data.toList old.data.toList new.data.toList).toArray⟩)∧Below w.heap.size w w':=Any.strings_ReplaceAll Tryz.lays155 Tryz.qG s old new m w hs hm h1 hlen
def Tryz.AA:Go.Shelf.Ren:=⟨fun|152=>193|137=>144|119=>207|224=>136|225=>135|217=>134|266=>163|n=>n,fun|9=>9|21=>21|3=>3|4=>4|5=>5|0=>0|46=>132|n=>n,fun|n=>n⟩
theorem Tryz.lays152:Go.Proofs.Lays.n152 Tryz.prog Tryz.AA:={
 mixed:=by kernel_rfl
 f119:=Tryz.func207.trans (congrArg some (by kernel_rfl))
 f137:=Tryz.func144.trans (congrArg some (by kernel_rfl))
 f152:=Tryz.func193.trans (congrArg some (by kernel_rfl))
 f217:=Tryz.func134.trans (congrArg some (by kernel_rfl))
 f224:=Tryz.func136.trans (congrArg some (by kernel_rfl))
 f225:=Tryz.func135.trans (congrArg some (by kernel_rfl))
 f266:=Tryz.func163.trans (congrArg some (by kernel_rfl))
 t0:=Tryz.underlying0
 a0:=Tryz.isAgg0
 z0:=Tryz.sizeOf0
 v0:=Tryz.zeroValue0
 t3:=Tryz.underlying3
 a3:=Tryz.isAgg3
 z3:=Tryz.sizeOf3
 v3:=Tryz.zeroValue3
 t4:=Tryz.underlying4
 a4:=Tryz.isAgg4
 z4:=Tryz.sizeOf4
 v4:=Tryz.zeroValue4
 t5:=Tryz.underlying5
 a5:=Tryz.isAgg5
 z5:=Tryz.sizeOf5
 v5:=Tryz.zeroValue5
 t9:=Tryz.underlying9
 a9:=Tryz.isAgg9
 z9:=Tryz.sizeOf9
 v9:=Tryz.zeroValue9
 t21:=Tryz.underlying21
 a21:=Tryz.isAgg21
 z21:=Tryz.sizeOf21
 v21:=Tryz.zeroValue21
 t46:=Tryz.underlying132
 a46:=Tryz.isAgg132
 z46:=Tryz.sizeOf132
 v46:=Tryz.zeroValue132 }
open Go.RowKit Go.Lib in
theorem Tryz.strings_IndexRune_ascii (s:ByteArray)(r:Int)(w:World)(h0:0≤r)(h1:r<128) :
 Calls Tryz.prog 193 #[.string s,.int .i32 r] w fun e w'=>e=.returned (.int .i64 (Lib.indexByte s.data.toList r.toNat.toUInt8))∧w'=w:=Any.strings_IndexRune_ascii Tryz.lays152 s r w h0 h1
def Tryz.Ay:Go.Shelf.Ren:=⟨fun|226=>194|n=>n,fun|3=>3|4=>4|n=>n,fun|n=>n⟩
theorem Tryz.lays226:Go.Proofs.Lays.n226 Tryz.prog Tryz.Ay:={
 mixed:=by kernel_rfl
 f226:=Tryz.func194.trans (congrArg some (by kernel_rfl))
 t3:=Tryz.underlying3
 a3:=Tryz.isAgg3
 z3:=Tryz.sizeOf3
 v3:=Tryz.zeroValue3
 t4:=Tryz.underlying4
 a4:=Tryz.isAgg4
 z4:=Tryz.sizeOf4
 v4:=Tryz.zeroValue4 }
open Go.RowKit Go.Lib in
theorem Tryz.strings_shouldUseASCIISet (n:Int)(w:World) :
 Calls Tryz.prog 194 #[.int .i64 n] w fun e w'=>e=.returned (.bool (decide (8<n)))∧w'=w:=Any.strings_shouldUseASCIISet Tryz.lays226 n w
def Tryz.Az:Go.Shelf.Ren:=⟨fun|153=>168|152=>193|226=>194|227=>195|228=>196|137=>144|119=>207|224=>136|225=>135|217=>134|266=>163|n=>n,fun|9=>9|3=>3|4=>4|5=>5|21=>21|117=>186|116=>185|0=>0|46=>132|124=>202|n=>n,fun|n=>n⟩
theorem Tryz.DQ:Go.Proofs.Lays.n153 Tryz.prog Tryz.Az:={
 mixed:=by kernel_rfl
 f119:=Tryz.func207.trans (congrArg some (by kernel_rfl))
 f137:=Tryz.func144.trans (congrArg some (by kernel_rfl))
 f152:=Tryz.func193.trans (congrArg some (by kernel_rfl))
 f153:=Tryz.func168.trans (congrArg some (by kernel_rfl))
 f217:=Tryz.func134.trans (congrArg some (by kernel_rfl))
 f224:=Tryz.func136.trans (congrArg some (by kernel_rfl))
 f225:=Tryz.func135.trans (congrArg some (by kernel_rfl))
 f226:=Tryz.func194.trans (congrArg some (by kernel_rfl))
 f227:=Tryz.func195.trans (congrArg some (by kernel_rfl))
 f228:=Tryz.func196.trans (congrArg some (by kernel_rfl))
 f266:=Tryz.func163.trans (congrArg some (by kernel_rfl))
 t0:=Tryz.underlying0
 a0:=Tryz.isAgg0
 z0:=Tryz.sizeOf0
 v0:=Tryz.zeroValue0
 t3:=Tryz.underlying3
 a3:=Tryz.isAgg3
 z3:=Tryz.sizeOf3
 v3:=Tryz.zeroValue3
 t4:=Tryz.underlying4
 a4:=Tryz.isAgg4
 z4:=Tryz.sizeOf4
 v4:=Tryz.zeroValue4
 t5:=Tryz.underlying5
 a5:=Tryz.isAgg5
 z5:=Tryz.sizeOf5
 v5:=Tryz.zeroValue5
 t9:=Tryz.underlying9
 a9:=Tryz.isAgg9
 z9:=Tryz.sizeOf9
 v9:=Tryz.zeroValue9
 t21:=Tryz.underlying21
 a21:=Tryz.isAgg21
 z21:=Tryz.sizeOf21
 v21:=Tryz.zeroValue21
 t46:=Tryz.underlying132
 a46:=Tryz.isAgg132
 z46:=Tryz.sizeOf132
 v46:=Tryz.zeroValue132
 t116:=Tryz.underlying185
 a116:=Tryz.isAgg185
 z116:=Tryz.sizeOf185
 t117:=Tryz.underlying186
 a117:=Tryz.isAgg186
 z117:=Tryz.sizeOf186
 v117:=Tryz.zeroValue186
 t124:=Tryz.underlying202
 a124:=Tryz.isAgg202
 z124:=Tryz.sizeOf202
 v124:=Tryz.zeroValue202 }
open Go.RowKit Go.Lib in
theorem Tryz.strings_IndexAny_long (Hz:∀ w,(zeroValue 185).run Tryz.prog w=.ok (.agg (Array.replicate 256 (.bool false))) w)(s chars:ByteArray)(w:World)(h2:2≤chars.size)(h8:8<s.size)(hs:s.size<4294967281)(hcs:chars.size<4294967281)(hascii:∀ (j:Nat) b,chars.data.toList[j]? = some b→b.toNat<128) :
 Calls Tryz.prog 168 #[.string s,.string chars] w fun e w'=>e=.returned (.int .i64 (Lib.indexAny s.data.toList chars.data.toList))∧w'=((w.alloc (.cells (Lib.setCells chars.data.toList) 185)).alloc (.cells (Lib.setCells chars.data.toList) 185)):=Any.strings_IndexAny_long Tryz.DQ Hz (by kernel_rfl) s chars w h2 h8 hs hcs hascii
open Go.RowKit Go.Lib in
theorem Tryz.strings_IndexAny (Hz:∀ w,(zeroValue 185).run Tryz.prog w=.ok (.agg (Array.replicate 256 (.bool false))) w)(s chars:ByteArray)(w:World)(hs:s.size<4294967281)(hcs:chars.size<4294967281)(has:∀ (j:Nat) b,s.data.toList[j]? = some b→b.toNat<128)(hac:∀ (j:Nat) b,chars.data.toList[j]? = some b→b.toNat<128) :
 Calls Tryz.prog 168 #[.string s,.string chars] w fun e w'=>e=.returned (.int .i64 (Lib.indexAny s.data.toList chars.data.toList))∧Below w.heap.size w w':=Any.strings_IndexAny Tryz.DQ Hz (by kernel_rfl) s chars w hs hcs has hac
end Go.Proofs
namespace Wf
open Go Go.RowKit
theorem index_one (c:UInt8)(s:Bytes):Lib.index s [c]=Lib.indexByte s c:=by
 induction s with
 | nil=>rfl
 | cons b l ih =>
   rw[Lib.index,Lib.indexByte,ih]
   have:[c].isPrefixOf (b::l)=(b==c):=by simp[List.isPrefixOf];exact Bool.beq_comm
   rw[this]
def aM (c:UInt8)(s:Bytes):Bytes × Bytes × Bool :=
 if pre (·==c) s<s.length then(s.take (pre (·==c) s),s.drop (pre (·==c) s+1),true) else(s,[],false)
theorem dQ (c:UInt8)(s:Bytes):(aM c s).1.length≤s.length∧(aM c s).2.1.length≤s.length:=by
 unfold aM
 split
 ·simp;omega
 ·simp
theorem cut_one (c:UInt8)(s:Bytes):Lib.cut s [c]=aM c s:=by
 unfold Lib.cut aM
 rw[index_one,cS]
 by_cases h:pre (·==c) s<s.length
 ·simp[h]
 ·simp[h]
def aB (c:UInt8):Bytes→List Bytes
 | []=>[[]]
 | x::r=>if x==c then []::aB c r else match aB c r with
   | h::t=>(x::h)::t
   | []=>[[x]]
theorem bW {c:UInt8}{s:Bytes}(h:¬ pre (·==c) s<s.length):aB c s=[s]:=by
 induction s with
 | nil=>rfl
 | cons x r ih =>
   rw[bX]at h
   rw[aB]
   cases hx:x==c
   ·rw[hx]at h
    simp at h
    rw[ih (by omega)]
    rfl
   ·rw[hx]at h;simp at h
theorem cD {c:UInt8}{s:Bytes}(h:pre (·==c) s<s.length):aB c s=s.take (pre (·==c) s)::aB c (s.drop (pre (·==c) s+1)):=by
 induction s with
 | nil=>simp at h
 | cons x r ih =>
   rw[bX]at h ⊢
   rw[aB]
   cases hx:x==c
   ·rw[hx]at h
    simp at h
    rw[ih h]
    simp
   ·simp
theorem qT (c:UInt8)(s:Bytes):aB c s≠[]:=by
 by_cases h:pre (·==c) s<s.length
 ·rw[cD h];simp
 ·rw[bW h];simp
theorem iB {c:UInt8}{s:Bytes}(h:pre (·==c) s<s.length):s.count c=(s.drop (pre (·==c) s+1)).count c+1:=by
 induction s with
 | nil=>simp at h
 | cons x r ih =>
   rw[bX]at h ⊢
   cases hx:x==c
   ·rw[hx]at h
    simp at h
    rw[List.count_cons,hx,ih h]
    simp
   ·simp[List.count_cons,hx]
theorem lT {c:UInt8}{s:Bytes}(h:¬ pre (·==c) s<s.length):s.count c=0:=by
 induction s with
 | nil=>rfl
 | cons x r ih =>
   rw[bX]at h
   cases hx:x==c
   ·rw[hx]at h
    simp at h
    rw[List.count_cons,hx,ih (by omega)];rfl
   ·rw[hx]at h;simp at h
theorem tj (c:UInt8):∀ (k:Nat)(s:Bytes),s.count c=k→Lib.splitK [c] 0 k s=aB c s:=by
 intro k
 induction k with
 | zero =>
   intro s h
   by_cases hp:pre (·==c) s<s.length
   ·rw[iB hp]at h;omega
   ·rw[bW hp];rfl
 | succ k ih =>
   intro s h
   by_cases hp:pre (·==c) s<s.length
   ·rw[cD hp,Lib.splitK,index_one,cS,if_pos hp,if_neg (by simp)]
    rw[iB hp]at h
    have:=ih (s.drop (pre (·==c) s+1)) (by omega)
    simp[this]
   ·rw[lT hp]at h;omega
theorem iD (c:UInt8)(s:Bytes):(aB c s).length=s.count c+1:=by
 suffices ∀ k,∀ s:Bytes,s.count c=k→(aB c s).length=k+1 from this _ s rfl
 intro k
 induction k with
 | zero =>
   intro s h
   by_cases hp:pre (·==c) s<s.length
   ·rw[iB hp]at h;omega
   ·rw[bW hp];rfl
 | succ k ih =>
   intro s h
   by_cases hp:pre (·==c) s<s.length
   ·rw[cD hp]
    rw[iB hp]at h
    simp[ih _ (by omega:(s.drop (pre (·==c) s+1)).count c=k)]
   ·rw[lT hp]at h;omega
theorem ig (c:UInt8)(s:Bytes):∀ x∈aB c s,x.length≤s.length:=by
 suffices ∀ k,∀ s:Bytes,s.count c=k→∀ x∈aB c s,x.length≤s.length from this _ s rfl
 intro k
 induction k with
 | zero =>
   intro s h
   by_cases hp:pre (·==c) s<s.length
   ·rw[iB hp]at h;omega
   ·rw[bW hp];simp
 | succ k ih =>
   intro s h
   by_cases hp:pre (·==c) s<s.length
   ·rw[cD hp]
    rw[iB hp]at h
    intro x hx
    rcases zJl.1 hx with rfl|hx
    ·simp;omega
    ·have:=ih _ (by omega:(s.drop (pre (·==c) s+1)).count c=k) x hx
     simp at this;omega
   ·rw[lT hp]at h;omega
def lB (l:Bytes):Value:=.string ⟨zJg l⟩
theorem B9 (c:UInt8)(s:Bytes):(Lib.splitB ⟨#[c]⟩ 0 (Lib.countB ⟨zJg s⟩ ⟨#[c]⟩) ⟨zJg s⟩).map Value.string=(aB c s).map lB:=by
 have h:=Lib.splitB_data ⟨#[c]⟩ 0 (Lib.countB ⟨zJg s⟩ ⟨#[c]⟩) ⟨zJg s⟩
 have hk:Lib.splitK [c] 0 (Lib.countB ⟨zJg s⟩ ⟨#[c]⟩) s=aB c s:=tj c _ s (Lib.count_one c s).symm
 have h2:(Lib.splitB ⟨#[c]⟩ 0 (Lib.countB ⟨zJg s⟩ ⟨#[c]⟩) ⟨zJg s⟩).map (·.data.toList)=aB c s:=h.trans hk
 rw[← h2,List.map_map]
 apply List.map_congr_left
 intro x _
 rfl
theorem Dj (c:UInt8)(s:Bytes):Lib.countB ⟨zJg s⟩ ⟨#[c]⟩+1=(aB c s).length:=by
 rw[iD]
 exact congrArg (·+1) (Lib.count_one c s)
open Go Go.RowKit
structure Uri where
 scheme:Bytes
 authority:Bytes
 path:Bytes
 query:Bytes
 fragment:Bytes
 ix:Bool
 dA:Bool
 bh:Bool
 bA:Bool
 deriving DecidableEq
def Uri.none:Uri:=⟨[],[],[],[],[],false,false,false,false⟩
def Uri.cells (u:Uri):Array Value:=#[lB u.scheme,lB u.authority,lB u.path,lB u.query,lB u.fragment,.bool u.ix,.bool u.dA,.bool u.bh,.bool u.bA]
def Uri.val (u:Uri):Value:=.agg u.cells
def eO (c:UInt8):Bool:=isAlpha c||isDigit c||[43,45,46].contains c
def cE (s:Bytes):Bool:=match s with
 | []=>false
 | c::r=>isAlpha c&&r.all eO
def aq (c:UInt8):Bool:=[58,47].contains c
def aC (s:Bytes):Bytes × Bool × Bytes:=match s with
 | 47::47::r=>(r.take (pre (·==47) r),true,r.drop (pre (·==47) r))
 | s=>([],false,s)
def aL (s frag query:Bytes)(bA bh:Bool):Uri × Int :=
 if (s.drop (pre aq s)).head? = some 58 then
  if cE (s.take (pre aq s)) then
   (⟨s.take (pre aq s),(aC (s.drop (pre aq s+1))).1,(aC (s.drop (pre aq s+1))).2.2,query,frag,true,(aC (s.drop (pre aq s+1))).2.1,bh,bA⟩,0)
  else(Uri.none,6)
 else(⟨[],(aC s).1,(aC s).2.2,query,frag,false,(aC s).2.1,bh,bA⟩,0)
def a8 (s:Bytes):Uri × Int :=
 if 16384<s.length then(Uri.none,5)
 else aL (aM 63 (aM 35 s).1).1 (aM 35 s).2.1 (aM 63 (aM 35 s).1).2.1 (aM 35 s).2.2 (aM 63 (aM 35 s).1).2.2
def uriJoin (u:Uri):Bytes :=
 (if u.ix then u.scheme++[58] else [])++(if u.dA then [47,47]++u.authority else [])++u.path++(if u.bh then [63]++u.query else [])++(if u.bA then [35]++u.fragment else [])
def cR (out:Bytes):Bytes:=(out.reverse.dropWhile (· != 47)).drop 1 |>.reverse
def cz (path out:Bytes):Bytes × Bytes :=
 if [46,46,47].isPrefixOf path then(path.drop 3,out)
 else if [46,47].isPrefixOf path then(path.drop 2,out)
 else if [47,46,47].isPrefixOf path then(path.drop 2,out)
 else if path=[47,46] then([47],out)
 else if [47,46,46,47].isPrefixOf path then(path.drop 3,cR out)
 else if path=[47,46,46] then([47],cR out)
 else if path=[46]∨path=[46,46] then([],out)
 else(path.drop (1+pre (·==47) (path.drop 1)),out++path.take (1+pre (·==47) (path.drop 1)))
def dP:Nat→Bytes→Bytes→Bytes
 | 0,_,out=>out
 | f+1,path,out=>if path=[] then out else dP f (cz path out).1 (cz path out).2
def aR (path:Bytes):Bytes:=dP path.length path []
def du (s:Bytes):Nat:=(s.reverse.dropWhile (· != 47)).length
open Go Go.RowKit
def eM (c:UInt8):Bool:=isAlpha c||isDigit c||([45,46,95,126]:Bytes).contains c
def hU (n:Nat):UInt8:=if n<10 then(48+n).toUInt8 else(55+n).toUInt8
def jX (c:UInt8):Bytes:=[37,hU (c.toNat / 16),hU (c.toNat % 16)]
def unhex (a b:UInt8):UInt8:=(cu a * 16+cu b).toUInt8
inductive PU where
 | lit (c:UInt8) | hex (a b:UInt8) | bad
 deriving DecidableEq
def cT:Bytes→Option (UInt8 × UInt8 × Bytes)
 | a::b::r=>if bm a&&bm b then some (a,b,r) else none
 | _=>none
theorem cN {s r:Bytes}{a b:UInt8}(h:cT s=some (a,b,r)):s=a::b::r∧bm a=true∧bm b=true:=by
 unfold cT at h
 split at h
 ·split at h
  ·rename_i hx
   simp only[Bool.and_eq_true]at hx
   cases h
   exact⟨rfl,hx⟩
  ·cases h
 ·cases h
def bD:Nat→Bytes→List PU
 | 0,_=>[]
 | _+1,[]=>[]
 | f+1,c::r=>if c=37 then(match cT r with
    | some (a,b,r)=>.hex a b::bD f r
    | none=>[.bad]) else .lit c::bD f r
def az (s:Bytes):List PU:=bD s.length s
theorem lz:∀ (f g:Nat)(s:Bytes),s.length≤f→s.length≤g→bD f s=bD g s
 | 0,0,_,_,_=>rfl
 | 0,g+1,s,h,_=>by obtain rfl:=List.length_eq_zero_iff.1 (Nat.le_zero.1 h);rfl
 | f+1,0,s,_,h=>by obtain rfl:=List.length_eq_zero_iff.1 (Nat.le_zero.1 h);rfl
 | f+1,g+1,[],_,_=>rfl
 | f+1,g+1,c::r,h,h'=>by
   simp only[zJj]at h h'
   rw[bD,bD]
   split
   ·cases hp:cT r with
    | none=>rfl
    | some x =>
      obtain⟨a,b,r'⟩:=x
      obtain⟨rfl,-,-⟩:=cN hp
      simp only[zJj]at h h' ⊢
      rw[lz f g r' (by omega) (by omega)]
   ·rw[lz f g r (by omega) (by omega)]
theorem dJ:az []=[]:=rfl
theorem cW {c:UInt8}(h:c≠37)(r:Bytes):az (c::r)=.lit c::az r:=by
 unfold az;rw[zJj,bD,if_neg h]
theorem fk {a b:UInt8}(ha:bm a=true)(hb:bm b=true)(r:Bytes):az (37::a::b::r)=.hex a b::az r:=by
 unfold az
 rw[zJj,bD,if_pos rfl,show cT (a::b::r)=some (a,b,r) by simp[cT,ha,hb]]
 simp only[zJj]
 rw[lz _ r.length r (by omega) (zJi _)]
theorem qO {s:Bytes}(h:cT s=none):az (37::s)=[.bad]:=by
 unfold az;rw[zJj,bD,if_pos rfl,h]
theorem fQ:∀ n,n<16→bm (hU n)=true:=by decide
theorem ju (c:UInt8):unhex (hU (c.toNat / 16)) (hU (c.toNat % 16))=c:=by
 have:=dj (p:=fun c=>unhex (hU (c.toNat / 16)) (hU (c.toNat % 16))==c) (by decide +kernel) c
 simpa using this
theorem wz (c:UInt8)(r:Bytes):az (jX c++r)=.hex (hU (c.toNat / 16)) (hU (c.toNat % 16))::az r :=
 fk (fQ _ (by have:=c.toNat_lt;omega)) (fQ _ (by omega)) r
def PU.val:PU→UInt8
 | .lit c=>c
 | .hex a b=>unhex a b
 | .bad=>0
def aj (s:Bytes):Bytes × Int:=if 16384<s.length then([],5) else if PU.bad∈az s then([],2) else((az s).map PU.val,0)
def iA (bQ:Bytes)(c:UInt8):Bytes:=if eM c||(c != 37&&bQ.contains c) then [c] else jX c
def aE (bQ s:Bytes):Bytes:=s.flatMap (iA bQ)
def c9 (also:Bytes)(c:UInt8):Bool:=eM c||also.contains c
def kM (c:UInt8):Bytes:=if eM c then [c] else jX c
def comb (d:Bytes)(x:Bytes × Int):Bytes × Int:=if x.2=0 then(d++x.1,0) else([],x.2)
def bz (also:Bytes):List PU→Bytes × Int
 | []=>([],0)
 | .bad::_=>([],2)
 | .lit c::r=>if c9 also c then comb [c] (bz also r) else([],1)
 | .hex a b::r=>comb (kM (unhex a b)) (bz also r)
def aY (also s:Bytes):Bytes × Int:=if 16384<s.length then([],5) else bz also (az s)
theorem qx (x:Bytes × Int)(h:x.2≠0→x.1=[]):comb [] x=x:=by
 obtain⟨x,e⟩:=x
 unfold comb
 simp only at h ⊢
 split
 ·rename_i h0;subst h0;rfl
 ·rename_i h0;rw[h h0]
theorem gy (a b:Bytes)(x:Bytes × Int):comb a (comb b x)=comb (a++b) x:=by
 unfold comb
 by_cases h:x.2=0
 ·simp[h]
 ·simp[h]
theorem wR (also:Bytes):∀ l,(bz also l).2≠0→(bz also l).1=[]
 | [],h=>by simp[bz]at h
 | .bad::_,_=>rfl
 | .lit c::r,h=>by
   rw[bz]at h ⊢
   split
   ·rename_i hk
    rw[if_pos hk]at h
    unfold comb at h ⊢
    split
    ·rename_i h0;rw[if_pos h0]at h;simp at h
    ·rfl
   ·rfl
 | .hex a b::r,h=>by
   rw[bz]at h ⊢
   unfold comb at h ⊢
   split
   ·rename_i h0;rw[if_pos h0]at h;simp at h
   ·rfl
theorem zk {c:UInt8}(h:eM c=true):c≠37:=by
 rintro rfl;revert h;decide
def canU (also:Bytes):PU→Prop
 | .lit c=>c9 also c=true∧c≠37
 | .hex a b=>eM (unhex a b)=false∧a=hU ((unhex a b).toNat / 16)∧b=hU ((unhex a b).toNat % 16)∧bm a=true∧bm b=true
 | .bad=>False
def PU.str:PU→Bytes
 | .lit c=>[c]
 | .hex a b=>[37,a,b]
 | .bad=>[]
theorem qN (also:Bytes):∀ (l:List PU),(∀ x∈l,canU also x)→az (l.flatMap PU.str)=l
 | [],_=>rfl
 | .lit c::r,h=>by
   have h1:=h _ List.mem_cons_self
   rw[List.flatMap_cons,PU.str,List.singleton_append,cW h1.2,qN also r (fun x hx=>h x (zJq _ hx))]
 | .hex a b::r,h=>by
   have h1:=h _ List.mem_cons_self
   rw[List.flatMap_cons,PU.str]
   simp only[List.cons_append,List.nil_append]
   rw[fk h1.2.2.2.1 h1.2.2.2.2,qN also r (fun x hx=>h x (zJq _ hx))]
 | .bad::r,h=>(h _ List.mem_cons_self).elim
theorem nd (also:Bytes):∀ (l:List PU),(∀ c,PU.lit c∈l→c≠37)→(bz also l).2=0→∃ l':List PU,(bz also l).1=l'.flatMap PU.str∧(∀ x∈l',canU also x)∧(∀ x∈l,x≠.bad)∧l'.map PU.val=l.map PU.val
 | [],_,_=>⟨[],rfl,by simp,by simp,rfl⟩
 | .bad::_,_,h=>by simp[bz]at h
 | .lit c::r,hl,h=>by
   rw[bz]at h ⊢
   split at h
   ·rename_i hk
    rw[if_pos hk]
    unfold comb at h ⊢
    split at h
    ·rename_i h0
     rw[if_pos h0]
     obtain⟨l',e,h1,h2,h3⟩:=nd also r (fun d hd=>hl d (zJq _ hd)) h0
     refine⟨.lit c::l',by simp[e,PU.str],?_,?_,by simp[h3,PU.val]⟩
     ·intro x hx
      simp only[zJl]at hx
      rcases hx with rfl|hx
      ·exact⟨hk,hl c List.mem_cons_self⟩
      ·exact h1 x hx
     ·intro x hx
      simp only[zJl]at hx
      rcases hx with rfl|hx
      ·simp
      ·exact h2 x hx
    ·rename_i h0;exact absurd h h0
   ·simp at h
 | .hex a b::r,hl,h=>by
   rw[bz]at h ⊢
   unfold comb at h ⊢
   split at h
   ·rename_i h0
    rw[if_pos h0]
    obtain⟨l',e,h1,h2,h3⟩:=nd also r (fun d hd=>hl d (zJq _ hd)) h0
    have jL:∀ x∈PU.hex a b::r,x≠.bad:=fun x hx=>by
     simp only[zJl]at hx
     rcases hx with rfl|hx
     ·simp
     ·exact h2 x hx
    by_cases hu:eM (unhex a b)=true
    ·refine⟨.lit (unhex a b)::l',by simp[e,PU.str,kM,hu],?_,jL,by simp[h3,PU.val]⟩
     intro x hx
     simp only[zJl]at hx
     rcases hx with rfl|hx
     ·exact⟨by simp[c9,hu],zk hu⟩
     ·exact h1 x hx
    ·have hu':eM (unhex a b)=false:=by simpa using hu
     have hn:=(unhex a b).toNat_lt
     have hv:=ju (unhex a b)
     refine⟨.hex (hU ((unhex a b).toNat / 16)) (hU ((unhex a b).toNat % 16))::l',by simp[e,PU.str,kM,hu',jX],?_,jL,by simp[h3,PU.val,hv]⟩
     intro x hx
     simp only[zJl]at hx
     rcases hx with rfl|hx
     ·exact⟨by rw[hv];exact hu',by rw[hv],by rw[hv],fQ _ (by omega),fQ _ (by omega)⟩
     ·exact h1 x hx
   ·rename_i h0;exact absurd h h0
theorem mG:∀ (f:Nat)(s:Bytes)(c:UInt8),PU.lit c∈bD f s→c≠37
 | 0,_,_,h=>by simp[bD]at h
 | _+1,[],_,h=>by simp[bD]at h
 | f+1,d::r,c,h=>by
   rw[bD]at h
   split at h
   ·split at h
    ·simp only[zJl,reduceCtorEq,false_or]at h
     exact mG f _ c h
    ·simp at h
   ·rename_i hd
    simp only[zJl,PU.lit.injEq]at h
    rcases h with rfl|h
    ·exact hd
    ·exact mG f _ c h
theorem rH (s:Bytes)(c:UInt8)(h:PU.lit c∈az s):c≠37:=mG _ s c h
theorem mH:∀ (f:Nat)(s:Bytes),((bD f s).flatMap PU.str).length≤s.length
 | 0,_=>by simp[bD]
 | _+1,[]=>by simp[bD]
 | f+1,d::r=>by
   rw[bD]
   split
   ·cases hp:cT r with
    | none=>simp[PU.str]
    | some x =>
      obtain⟨a,b,r'⟩:=x
      obtain⟨rfl,-,-⟩:=cN hp
      have:=mH f r'
      simp[PU.str]at this ⊢;omega
   ·have:=mH f r
    simp[PU.str]at this ⊢;omega
theorem re (also:Bytes):∀ (l:List PU),(bz also l).1.length≤(l.flatMap PU.str).length
 | []=>by simp[bz]
 | .bad::_=>by simp[bz]
 | .lit c::r=>by
   have:=re also r
   rw[bz]
   split
   ·unfold comb;split
    ·simp[PU.str]at this ⊢;omega
    ·simp
   ·simp
 | .hex a b::r=>by
   have:=re also r
   rw[bz]
   unfold comb kM;split
   ·split
    ·simp[PU.str]at this ⊢;omega
    ·simp[PU.str,jX]at this ⊢;omega
   ·simp
theorem dw (also s:Bytes):(aY also s).1.length≤s.length:=by
 unfold aY
 split
 ·simp
 ·exact Nat.le_trans (re also _) (mH _ s)
theorem ly (bQ:Bytes):∀ (s:Bytes),(az (aE bQ s)).map PU.val=s∧PU.bad ∉ az (aE bQ s)
 | []=>⟨rfl,by simp[aE,dJ]⟩
 | c::s=>by
   obtain⟨h1,h2⟩:=ly bQ s
   have e:aE bQ (c::s)=iA bQ c++aE bQ s:=rfl
   rw[e]
   unfold iA
   split
   ·rename_i hc
    have bk:c≠37:=by
     rintro rfl
     simp at hc
     exact absurd hc (by decide)
    rw[List.singleton_append,cW bk]
    exact⟨by simp[PU.val,h1],by simpa using h2⟩
   ·rw[wz]
    exact⟨by simp[PU.val,h1,ju],by simpa using h2⟩
theorem dD (bQ s:Bytes):(aE bQ s).length≤3 * s.length:=by
 induction s with
 | nil=>simp[aE]
 | cons c s ih =>
   have e:aE bQ (c::s)=iA bQ c++aE bQ s:=rfl
   have:(iA bQ c).length≤3:=by unfold iA jX;split <;> simp
   rw[e,zJh,zJj];omega
open Go Go.RowKit
def vu (c:UInt8):Bool:=isAlpha c||isDigit c||c==45
def bt (s:Bytes):Bool:=!s.isEmpty&&decide (s.length≤63)&&!(s.head?==some 45)&&!(s.getLast?==some 45)&&s.all vu
def mc:List Bytes→Bool
 | []=>true
 | [x]=>bt x&&!bY x
 | x::y::r=>bt x&&mc (y::r)
def eb (s:Bytes):Bool:=mc (aB 46 s)
def eP (s:Bytes):Bool:=(aW 255 s).2==0
def ipv4 (s:Bytes):Bool:=(aB 46 s).length==4&&(aB 46 s).all eP
def bw (s:Bytes):Bytes × Int :=
 if s.isEmpty then([],3) else if 253<s.length then([],5) else if !ipv4 s&&!eb s then([],50) else(lower s,0)
def jb (s:Bytes):Int × Int :=
 if (aW 65535 s).2≠0∨(aW 65535 s).1=0 then(0,51) else((aW 65535 s).1,0)
def cr (h:Bytes × Int)(colon:Bool)(p:Int × Int):(Bytes × Int) × Int :=
 if h.2≠0 then(([],0),h.2)
 else if colon then if p.2≠0 then(([],0),p.2) else((h.1,if p.1=443 then 0 else p.1),0)
 else((h.1,0),0)
def aH (s:Bytes):(Bytes × Int) × Int:=cr (bw (aM 58 s).1) (aM 58 s).2.2 (jb (aM 58 s).2.1)
def bc (h:Bytes)(p:Int):Bytes:=if p=0 then h else if p<0 then h++[58,45]++cG p.natAbs else h++[58]++cG p.natAbs
open Go Go.RowKit
structure eS where
 host:Bytes
 port:Int
 path:Bytes
 query:Bytes
 fragment:Bytes
 bh:Bool
 bA:Bool
 deriving DecidableEq
def eS.none:eS:=⟨[],0,[],[],[],false,false⟩
def cM:Bytes:=[33,36,38,39,40,41,42,43,44,59,61,58,64,47]
def cL:Bytes:=[33,36,38,39,40,41,42,43,44,59,61,58,64,47,63]
def cZ:Bytes:=[104,116,116,112,115]
def eG (u:eS):Bytes:=if u.bh then u.path++[63]++u.query else u.path
def cy (u:eS):Bytes:=[104,116,116,112,115,58,47,47]++bc u.host u.port++eG u++(if u.bA then [35]++u.fragment else [])
def s6 (h:Bytes × Int)(p q f:Bytes)(hq hf:Bool):eS × Int :=
 if 4096<(cy ⟨h.1,h.2,if aR p=[] then [47] else aR p,q,f,hq,hf⟩).length then(eS.none,5)
 else(⟨h.1,h.2,if aR p=[] then [47] else aR p,q,f,hq,hf⟩,0)
def pC (r:Uri):eS × Int :=
 if (aH r.authority).2≠0 then(eS.none,(aH r.authority).2)
 else if (aY cM r.path).2≠0 then(eS.none,(aY cM r.path).2)
 else if (aY cL r.query).2≠0 then(eS.none,(aY cL r.query).2)
 else if (aY cL r.fragment).2≠0 then(eS.none,(aY cL r.fragment).2)
 else s6 (aH r.authority).1 (aY cM r.path).1 (aY cL r.query).1 (aY cL r.fragment).1 r.bh r.bA
def wy (r:Uri):eS × Int :=
 if r.ix=false∨lower r.scheme≠cZ then(eS.none,60)
 else if r.dA=false then(eS.none,71)
 else if (64:UInt8)∈r.authority then(eS.none,70)
 else pC r
def bC (s:Bytes):eS × Int :=
 if 4096<s.length then(eS.none,5)
 else if (a8 s).2≠0 then(eS.none,(a8 s).2)
 else wy (a8 s).1
def fN (u:eS):Bool:=decide (bC (cy u)=(u,0))
end Wf
namespace Go.Proofs
open Go.Shelf Go.RowKit
def Tryz.AM:Go.Shelf.Ren:=⟨fun|240=>213|166=>204|276=>219|n=>n,fun|0=>0|3=>3|4=>4|5=>5|9=>9|20=>20|37=>25|70=>191|72=>193|75=>195|80=>198|164=>211|n=>n,fun|n=>n⟩
theorem Tryz.G6:Go.Proofs.Lays.n166 Tryz.prog Tryz.AM:={
 mixed:=by kernel_rfl
 f166:=Tryz.func204.trans (congrArg some (by kernel_rfl))
 f240:=Tryz.func213.trans (congrArg some (by kernel_rfl))
 f276:=Tryz.func219.trans (congrArg some (by kernel_rfl))
 t0:=Tryz.underlying0
 a0:=Tryz.isAgg0
 z0:=Tryz.sizeOf0
 v0:=Tryz.zeroValue0
 t3:=Tryz.underlying3
 a3:=Tryz.isAgg3
 z3:=Tryz.sizeOf3
 v3:=Tryz.zeroValue3
 t4:=Tryz.underlying4
 a4:=Tryz.isAgg4
 z4:=Tryz.sizeOf4
 v4:=Tryz.zeroValue4
 t9:=Tryz.underlying9
 a9:=Tryz.isAgg9
 z9:=Tryz.sizeOf9
 v9:=Tryz.zeroValue9
 t20:=Tryz.underlying20
 a20:=Tryz.isAgg20
 z20:=Tryz.sizeOf20
 v20:=Tryz.zeroValue20
 t37:=Tryz.underlying25
 a37:=Tryz.isAgg25
 z37:=Tryz.sizeOf25
 v37:=Tryz.zeroValue25
 t70:=Tryz.underlying191
 a70:=Tryz.isAgg191
 z70:=Tryz.sizeOf191
 v70:=Tryz.zeroValue191
 t72:=Tryz.underlying193
 a72:=Tryz.isAgg193
 z72:=Tryz.sizeOf193
 v72:=Tryz.zeroValue193
 t75:=Tryz.underlying195
 a75:=Tryz.isAgg195
 z75:=Tryz.sizeOf195
 v75:=Tryz.zeroValue195
 t164:=Tryz.underlying211
 a164:=Tryz.isAgg211
 z164:=Tryz.sizeOf211
 v164:=Tryz.zeroValue211 }
theorem Tryz.uV:Builder.Extra Tryz.prog Tryz.AM:={
 sizeBuilder:=by kernel_rfl
 liesBuilder:=by kernel_rfl
 t5:=Tryz.underlying5
 a5:=Tryz.isAgg5
 z5:=Tryz.sizeOf5
 v5:=Tryz.zeroValue5
 infoByte:=by kernel_rfl
 cellsByte:=by kernel_rfl
 sizeByte:=by kernel_rfl
 neB5:=by decide }
end Go.Proofs
namespace Go.Proofs.YteipdaijbncgeaaGreatDoor
open Go.RowKit Wf
structure Fr (own:Nat→Prop) (w w':World):Prop where
 os:w'.os=w.os
 tape:w'.tape=w.tape
 output:w'.output=w.output
 size:w.heap.size≤w'.heap.size
 block:∀ k,k<w.heap.size→¬ own k→w'.heap[k]? = w.heap[k]?
theorem Fr.below {own:Nat→Prop}{B:Nat}{w w':World}(h:Fr own w w')(ho:∀ k,own k→B≤k)(hB:B≤w.heap.size):Below B w w' :=
 ⟨h.os,h.tape,h.output,h.size,fun k hk=>h.block k (by omega) (fun e=>by have:=ho k e;omega)⟩
theorem Fr.jE {own:Nat→Prop}{B:Nat}{w w':World}(h:Below B w w')(ho:∀ k,B≤k→k<w.heap.size→own k):Fr own w w' :=
 ⟨h.os,h.tape,h.output,h.size,fun k hk hn=>h.block k (by
  rcases Nat.lt_or_ge k B with h' | h'
  ·exact h'
  ·exact absurd (ho k h' hk) hn)⟩
theorem Fr.trans {own:Nat→Prop}{a b c:World}(h:Fr own a b)(k:Fr own b c):Fr own a c :=
 ⟨k.os.trans h.os,k.tape.trans h.tape,k.output.trans h.output,Nat.le_trans h.size k.size,fun i hi hn=>(k.block i (by have:=h.size;omega) hn).trans (h.block i hi hn)⟩
theorem Fr.setCell {own:Nat→Prop}{a w:World}(h:Fr own a w){b o:Nat}(hb:own b)(v:Value):Fr own a (w.setCell ⟨b,o,none⟩ v) :=
 h.trans ⟨rfl,rfl,rfl,by simp[World.setCell],fun k _ hn=>Below.heap_setCell _ _ _ _ (by rintro rfl;exact hn hb)⟩
theorem heap_set {w:World}{b o:Nat}{cs:Array Value}{T:TypeId}{fz:Nat × Nat}(h:w.heap[b]? = some (.cells cs T fz))(v:Value):(w.setCell ⟨b,o,none⟩ v).heap[b]? = some (.cells (cs.setIfInBounds o v) T fz):=by
 simp[World.setCell,Array.getElem?_modify,h]
theorem bL {w:World}{b:Nat}{x:Obj}(h:w.heap[b]? = some x):b<w.heap.size:=(Array.getElem?_eq_some_iff.1 h).1
theorem Fr.kept {b:Nat}{w w':World}(h2:Lib.OthersKept 5 (some b) w w'){k:Nat}{cs:Array Value}{T:TypeId}{fz:Nat × Nat}(hk:w.heap[k]? = some (.cells cs T fz))(bk:k≠b)(hT:T≠5):w'.heap[k]? = some (.cells cs T fz) :=
 h2 k _ hk (by simpa using bk) (by rintro c f Fw;injection Fw with _ hT' _;exact hT hT')
def Bld (b:Nat)(l:Bytes)(w:World):Prop:=Lib.IsBuilderF 193 5 b b (Lib.byteCells l) w
theorem Bld.lt {b:Nat}{l:Bytes}{w:World}(h:Bld b l w):b<w.heap.size:=by
 have:∀ p,Lib.BuilderAtF 193 5 b b p (Lib.byteCells l) w→b<w.heap.size:=by
  rintro p ⟨_,v,hb,_⟩
  rcases Nat.lt_or_ge b w.heap.size with h' | h'
  ·exact h'
  ·simp[Array.getElem?_eq_none h']at hb
 rcases h with h|h <;> exact this _ h
theorem Bld.alloc {b:Nat}{l:Bytes}{w:World}(h:Bld b l w)(o:Obj):Bld b l (w.alloc o):=Lib.IsBuilderF.alloc h o
theorem Bld.fr {b cb:Nat}{l:Bytes}{w w':World}{cs:Array Value}{T:TypeId}{fz:Nat × Nat}(h:Bld b l w)(hf:Fr (·=cb) w w')(hc:w.heap[cb]? = some (.cells cs T fz))(hT:T≠5)(bk:b≠cb):Bld b l w':=by
 have key:∀ p,Lib.BuilderAtF 193 5 b b p (Lib.byteCells l) w→Lib.BuilderAtF 193 5 b b p (Lib.byteCells l) w':=by
  rintro p ⟨hB,v,hb,oo,hv⟩
  refine⟨hB,v,?_,?_,hv⟩
  ·rw[hf.block b (bL hb) bk];exact hb
  ·exact oo.kept (row:=some cb) ⟨hf.os,hf.tape,hf.output,hf.size,fun k hk hn=>hf.block k hk (fun e=>hn (by rw[e]))⟩ (Or.inr (Lib.ownBlock_neF oo hc hT))
 rcases h with h|h
 ·exact Or.inl (key _ h)
 ·exact Or.inr (key _ h)
open Go.RowKit Wf
def Env (w:World):Prop:=∃ m,w.cell? ⟨0,0,none⟩=some (.int .i64 m)
theorem Env.lt {w:World}(h:Env w):0<w.heap.size:=by
 obtain⟨m,hm⟩:=h
 unfold World.cell? at hm
 rcases Nat.lt_or_ge 0 w.heap.size with h' | h'
 ·exact h'
 ·simp[Array.getElem?_eq_none h']at hm
theorem Env.below {w w':World}(h:Env w)(hb:Below w.heap.size w w'):Env w':=by
 have:=h.lt
 obtain⟨m,hm⟩:=h
 exact⟨m,(hb.cell (p:=⟨0,0,none⟩) this).trans hm⟩
theorem gh (l:Bytes)(c:UInt8)(w:World) :
 Calls Tryz.prog 144 #[(Value.string ⟨zJg (l)⟩),.int .u8 c.toNat] w fun e w'=>e=.returned (.int .i64 (Lib.indexByte l c))∧w=w':=by
 refine(Tryz.strings_IndexByte ⟨zJg l⟩ c.toNat w).mono ?_
 rintro e w' ⟨rfl,rfl⟩
 exact⟨by rw[show ((c.toNat:Int)).toNat.toUInt8=c from by simp],rfl⟩
theorem zO (l p:Bytes)(w:World) :
 Calls Tryz.prog 177 #[(Value.string ⟨zJg (l)⟩),(Value.string ⟨zJg (p)⟩)] w fun e w'=>e=.returned (.bool (Lib.hasPrefix l p))∧w=w':=by
 refine(Tryz.strings_HasPrefix ⟨zJg l⟩ ⟨zJg p⟩ w).mono ?_
 rintro e w' ⟨rfl,rfl⟩
 exact⟨rfl,rfl⟩
theorem zP (l p:Bytes)(w:World) :
 Calls Tryz.prog 156 #[(Value.string ⟨zJg (l)⟩),(Value.string ⟨zJg (p)⟩)] w fun e w'=>e=.returned (.tuple #[(Value.string ⟨zJg (Lib.trimPrefix l p)⟩),.bool (Lib.hasPrefix l p)])∧w=w':=by
 refine(Tryz.strings_CutPrefix ⟨zJg l⟩ ⟨zJg p⟩ w).mono ?_
 rintro e w' ⟨rfl,rfl⟩
 exact⟨rfl,rfl⟩
theorem xQ (l p:Bytes)(w:World) :
 Calls Tryz.prog 178 #[(Value.string ⟨zJg (l)⟩),(Value.string ⟨zJg (p)⟩)] w fun e w'=>e=.returned (Value.string ⟨zJg (Lib.trimPrefix l p)⟩)∧w=w':=by
 refine(Tryz.strings_TrimPrefix ⟨zJg l⟩ ⟨zJg p⟩ w).mono ?_
 rintro e w' ⟨rfl,rfl⟩
 exact⟨rfl,rfl⟩
theorem DC (l:Bytes)(c:UInt8)(w:World)(hE:Env w)(hl:l.length<4294967281) :
 Calls Tryz.prog 64 #[(Value.string ⟨zJg (l)⟩),(Value.string ⟨zJg ([c])⟩)] w fun e w'=>e=.returned (.tuple #[(Value.string ⟨zJg ((aM c l).1)⟩),(Value.string ⟨zJg ((aM c l).2.1)⟩),.bool (aM c l).2.2])∧∃ n,w'=w.drewN n:=by
 obtain⟨m,hm⟩:=hE
 refine(Tryz.strings_Cut ⟨zJg l⟩ ⟨#[c]⟩ m w hl hm).mono ?_
 rintro e w' ⟨rfl,hw⟩
 have:=cut_one c l
 exact⟨by rw[← this],hw⟩
theorem s_Split (l:Bytes)(c:UInt8)(w:World)(hE:Env w)(hl:l.length<4294967281) :
 Calls Tryz.prog 172 #[(Value.string ⟨zJg (l)⟩),(Value.string ⟨zJg ([c])⟩)] w fun e w'=>e=.returned (.slice (some ⟨w.heap.size,0,none⟩) (aB c l).length (aB c l).length)∧w'=w.alloc (.cells ((aB c l).map lB).toArray 9):=by
 obtain⟨m,hm⟩:=hE
 refine(Tryz.strings_Split ⟨zJg l⟩ ⟨#[c]⟩ m w hl hm (zJi 1)).mono ?_
 rintro e w' ⟨rfl,rfl⟩
 rw[Dj,B9]
 exact⟨rfl,rfl⟩
def yX (w:World)(b:Nat)(l:List Bytes):Prop:=∀ i (h:i<l.length),w.cell? ⟨b,i,none⟩=some (Value.string ⟨zJg (l[i])⟩)
theorem yX.alloc (w:World)(l:List Bytes)(rest:List Value)(T:TypeId):yX (w.alloc (.cells (l.map lB++rest).toArray T)) w.heap.size l:=by
 intro i h
 rw[Lib.cell_of_heap (cw _ _) i]
 simp[List.getElem?_append_left,h,lB]
end Go.Proofs.YteipdaijbncgeaaGreatDoor
namespace Go.Proofs
open Go Vc Go.Proofs.YteipdaijbncgeaaGreatDoor
noncomputable def Tryz.V:Vc.Cx where
 P:=Tryz.prog
 Γ:=Tryz.Γ
 E:=Env
 G:=0+1
 oI:=fun _ h=>h.lt
 nG:=fun w _ ⟨m,hm⟩ hk _=>⟨m,(World.cell?_of_block (w:=w) (hk _ (zJo _))).trans hm⟩
 gI:=Tryz.gI
 mixed:=by kernel_rfl
 M := fun T name => if T = 96 then (if name = "Len" then some 237 else if name = "Less" then some 238 else if name = "Swap" then some 240 else if name = "Push" then some 239 else none) else none
 mok:=fun T name f h=>by
  split at h
  ·rename_i hT
   subst hT
   split at h
   ·rename_i hn
    subst hn
    cases h
    intro x args w
    kernel_rfl
   split at h
   ·rename_i hn
    subst hn
    cases h
    intro x args w
    kernel_rfl
   split at h
   ·rename_i hn
    subst hn
    cases h
    intro x args w
    kernel_rfl
   split at h
   ·rename_i hn
    subst hn
    cases h
    intro x args w
    kernel_rfl
   cases h
  ·cases h
theorem Tryz.VΓ:Tryz.V.Γ=Tryz.Γ:=rfl
end Go.Proofs
namespace Vc
open Go Go.RowKit Wf
def cU (b:UInt8):SV:=.int .u8 b.toNat
def CF:SV→Bool
 | .int .u8 n=>decide (0≤n∧n<256)
 | _=>false
def vD:SV→UInt8
 | .int _ n=>n.toNat.toUInt8
 | _=>0
theorem gJ (l:Bytes):(l.map cU).map vD=l:=by
 rw[List.map_map]
 conv=>rhs;rw[← List.map_id l]
 apply List.map_congr_left
 intro b _
 simp[cU,vD]
theorem gT (l:Bytes):(l.map cU).all CF=true:=by
 rw[List.all_map,List.all_eq_true]
 intro b _
 have:=b.toNat_lt
 simp[cU,CF]
 omega
theorem FN (β:Nat→Bt){x:SV}(h:CF x=true):ah β x=.int .u8 (vD x).toNat:=by
 unfold CF at h
 split at h
 ·rename_i n
  simp only[decide_eq_true_eq]at h
  simp only[ah,vD]
  congr 1
  simp
  omega
 ·cases h
def zB (bs:List ay)(s:Nat):SV→Option (Nat × List SV)
 | .aD=>some (0,[])
 | .str l=>if s=1 then some (l.length,l.map cU) else none
 | .o j m=>match bs[j]? with
   | some (.own c _ s' n _)=>if s'=s∧n=m then some (m,c) else none
   | _=>none
 | _=>none
def sG (bs:List ay)(e s:Nat):SV→Option (Nat × List SV × List ay)
 | .aD=>some (0,[],bs)
 | .o j m=>match bs[j]? with
   | some (.own c e' s' n true)=>if e'=e∧s'=s∧n=m then some (m,c,bs.set j .gone) else none
   | _=>none
 | .f j m=>match bs[j]? with
   | some (.own c e' s' n _)=>if e'=e∧s'=s∧n=m then some (m,c,bs) else none
   | _=>none
 | _=>none
def capB:SV→Bool
 | .f _ _=>true
 | _=>false
def XP:Kd→Bool
 | .str=>true
 | .slice _=>true
 | _=>false
def Xm (V:Cx)(dst:Option Tmp)(args:List Operand)(ts:List TypeId)(σ:St):Option (Prop × St):=match args with
 | [s,x]=>match ts with
   | [t,u]=>match kd V.Γ t with
     | some (.slice e)=>match kd V.Γ u with
       | some ku=>match V.Γ e with
         | some ti=>match ev σ.t s with
           | some s=>match ev σ.t x with
             | some x=>match sG σ.b e ti.size s with
               | some (n,c,bs)=>match zB σ.b ti.size x with
                 | some (m,xs)=>some ((capB s=true→0<m)∧XP ku=true∧0<ti.size∧xs.all one=true∧n+m≤maxLen∧(n+m) * ti.bytes≤140737488355328,⟨put dst (.o σ.b.length (n+m)) σ.t,bs++[.own (c++xs) e ti.size (n+m) true]⟩)
                 | none=>none
               | none=>none
             | none=>none
           | none=>none
         | none=>none
       | none=>none
     | _=>none
   | _=>none
 | _=>none
def oQ (z:List SV):Nat→List SV
 | 0=>[]
 | n+1=>z++oQ z n
def Yn (V:Cx)(dst:Option Tmp)(t:TypeId)(l c:Operand)(σ:St):Option (Prop × St):=match kd V.Γ t with
 | some (.slice e)=>match V.Γ e with
   | some ti=>match ev σ.t l with
     | some (.int _ l)=>match ev σ.t c with
       | some (.int _ c)=>some (0≤l∧l≤c∧(ti.bytes:Int) * c≤281474976710656∧c≤9223372036854775807∧0<ti.size,⟨put dst (.o σ.b.length l.toNat) σ.t,σ.b++[.own (oQ ti.zero l.toNat) e ti.size l.toNat true]⟩)
       | _=>none
     | _=>none
   | none=>none
 | _=>none
def Yi (s:Nat):Nat→List (Nat × SV)→Option (List SV)
 | _,[]=>some []
 | k,(i,x)::r=>if i=k∧He x=false∧(cells x).length=s then match Yi s (k+1) r with
    | some c=>some (cells x++c)
    | none=>none
   else none
def Xa (V:Cx)(dst:Option Tmp)(t:TypeId)(n:Nat)(ps:List (Nat × Operand))(σ:St):Option (Prop × St):=match kd V.Γ t with
 | some (.slice e)=>match V.Γ e with
   | some ti=>match Xl σ.t ps with
     | some ps=>match Yi ti.size 0 ps with
       | some c=>some (ps.length=n∧n * ti.size≤16777216∧0<ti.size,⟨put dst (.o σ.b.length n) σ.t,σ.b++[.own c e ti.size n true]⟩)
       | none=>none
     | none=>none
   | none=>none
 | _=>none
def Ym (bs:List ay)(k:Int):SV→Option (Prop × SV)
 | .o i n=>match bs[i]? with
   | some (.own _ _ s n' _)=>some (n'=n∧0<s∧0≤k∧k<n,.p i (k.toNat * s))
   | _=>none
 | _=>none
def Xc (V:Cx)(dst:Option Tmp)(t:TypeId)(x i:Operand)(σ:St):Option (Prop × St):=match kd V.Γ t with
 | some (.slice e)=>match sz V.Γ e with
   | some s=>match ev σ.t x with
     | some x=>match ev σ.t i with
       | some (.int _ k)=>match Ym σ.b k x with
         | some (c,y)=>some (c∧lD σ.b x s,⟨put dst y σ.t,σ.b⟩)
         | none=>none
       | _=>none
     | none=>none
   | none=>none
 | _=>none
where lD (bs:List ay) (x:SV) (s:Nat):Prop:=match x with
 | .o i _=>match bs[i]? with
   | some (.own _ _ s' _ _)=>s'=s
   | _=>False
 | _=>False
def reS (bs:List ay)(lo hi:Option SV):SV→Option (Prop × Nat × List ay)
 | .o i n=>match bs[i]? with
   | some (.own c e s n' m)=>match vk n lo hi with
     | some (k,f,u)=>match lo with
       | none=>match m with
         | true=>some (k∧n'=n∧0<s,u,bs.set i .gone++[.own (c.take (u * s)) e s u true])
         | false=>some (k∧n'=n∧0<s,u,bs++[.own (c.take (u * s)) e s u false])
       | some _=>some (k∧n'=n∧0<s,u - f,bs.set i (.own c e s n' false)++[.own ((c.take (u * s)).drop (f * s)) e s (u - f) false])
     | none=>none
   | _=>none
 | _=>none
def Xj (V:Cx)(dst:Option Tmp)(t:TypeId)(x:Operand)(lo hi:Option Operand)(σ:St):Option (Prop × St):=match kd V.Γ t with
 | some (.slice e)=>match sz V.Γ e with
   | some s=>match ev σ.t x with
     | some x=>match oX σ.t lo with
       | some lo=>match oX σ.t hi with
         | some hi=>match reS σ.b lo hi x with
           | some (c,n,bs)=>some (c∧Xc.lD σ.b x s,⟨put dst (.o σ.b.length n) σ.t,bs⟩)
           | none=>none
         | none=>none
       | none=>none
     | none=>none
   | none=>none
 | _=>none
def BB (bs:List ay)(s:Nat)(hi mx:Int):SV→Option (Prop × SV)
 | .o i n=>match bs[i]? with
   | some (.own _ _ s' n' _)=>some (n'=n∧s'=s∧hi=(n:Int)∧mx=(n:Int),.f i n)
   | _=>none
 | .aD=>some (hi=0∧mx=0,.aD)
 | _=>none
def CB (V:Cx)(dst:Option Tmp)(t:TypeId)(x hi mx:Operand)(σ:St):Option (Prop × St):=match kd V.Γ t with
 | some (.slice e)=>match sz V.Γ e with
   | some s=>match ev σ.t x with
     | some x=>match ev σ.t hi with
       | some (.int _ hi)=>match ev σ.t mx with
         | some (.int _ mx)=>match BB σ.b s hi mx x with
           | some (c,y)=>some (c,⟨put dst y σ.t,σ.b⟩)
           | none=>none
         | _=>none
       | _=>none
     | none=>none
   | none=>none
 | _=>none
def Yb (V:Cx)(dst:Option Tmp)(src d:TypeId)(x:Operand)(σ:St):Option (Prop × St):=match kd V.Γ src with
 | some .str=>match kd V.Γ d with
   | some (.slice e)=>match kd V.Γ e with
     | some (.int .u8)=>match ev σ.t x with
       | some (.str l)=>some (l.length≤maxLen,⟨put dst (.o σ.b.length l.length) σ.t,σ.b++[.own (l.map cU) e 1 l.length true]⟩)
       | _=>none
     | _=>none
   | _=>none
 | some (.slice e)=>match kd V.Γ d with
   | some .str=>match kd V.Γ e with
     | some (.int .u8)=>match ev σ.t x with
       | some .aD=>some (True,⟨put dst (.str []) σ.t,σ.b⟩)
       | some (.o i n)=>match σ.b[i]? with
         | some (.own c _ s n' _)=>some (n'=n∧s=1∧c.all CF=true,⟨put dst (.str (c.map vD)) σ.t,σ.b⟩)
         | _=>none
       | _=>none
     | _=>none
   | _=>none
 | _=>none
def mmS (min:Bool):SV→SV→Option SV
 | .int k x,.int _ y=>some (.int k (if min then(if y<x then y else x) else(if x<y then y else x)))
 | _,_=>none
def Xq (min:Bool)(dst:Option Tmp)(args:List Operand)(σ:St):Option (Prop × St):=match args with
 | [x,y]=>match ev σ.t x with
   | some x=>match ev σ.t y with
     | some y=>(mmS min x y).map fun z=>(True,⟨put dst z σ.t,σ.b⟩)
     | none=>none
   | none=>none
 | _=>none
def Yl (V:Cx)(dst:Option Tmp):Op→St→Option (Prop × St)
 | .call ⟨.builtin .append,args,ts⟩,σ=>Xm V dst args.toList ts.toList σ
 | .call ⟨.builtin .min,args,_⟩,σ=>Xq true dst args.toList σ
 | .call ⟨.builtin .max,args,_⟩,σ=>Xq false dst args.toList σ
 | .makeSlice t l c,σ=>Yn V dst t l c σ
 | .buildSlice t n ps,σ=>Xa V dst t n ps.toList σ
 | .indexAddr t x i,σ=>Xc V dst t x i σ
 | .slice t x lo hi none,σ=>Xj V dst t x lo hi σ
 | .slice t x none (some hi) (some mx),σ=>CB V dst t x hi mx σ
 | .convert s d x,σ=>Yb V dst s d x σ
 | _,_=>none
section
variable {V:Cx} {F:Fx V} {β:Nat→Bt} {fp:Nat→Nat→Prop} {bs:List ay} {w:World} {t:List (Nat × SV)} {a:Act}
theorem Wd.own (h:Wd F β fp bs w){i n s e:Nat}{c:List SV}{m:Bool}(hi:bs[i]? = some (.own c e s n m)){β':Nat→Bt}(hβ:bp bs.length β β'):Holds β' (β' i) (fp i) w (.own c e s n m):=(h.bx β' hβ).holds i _ hi
theorem yn (h:Wd F β fp bs w){i n s e:Nat}{c:List SV}{m:Bool}(hi:bs[i]? = some (.own c e s n m)):c.length=n * s:=by
 rcases h.own hi (bp.refl _ β) with⟨-,rfl,rfl,-⟩|⟨-,-,-,h4,-⟩
 ·simp
 ·exact h4
theorem Is {P:Program}{w:World}(s:Nat)(A:Option Addr)(n c:Nat):(Builtin.firstCells s 0 (.slice A n c)).run P w=Result.ok #[] w:=by
 cases A with
 | none=>simp[Builtin.firstCells]
 | some a=>simp[Builtin.firstCells,loadCells,loadCellsFrom]
theorem B8 (h:Wd F β fp bs w){s:Nat}(hs:0<s){x:SV}{m:Nat}{xs:List SV}(hx:zB bs s x=some (m,xs)){β':Nat→Bt}(hβ:bp bs.length β β')(w':World)(hw':w'.heap=w.heap)(P:Program) :
 (Builtin.lenOf (ah β' x)).run P w'=Result.ok m w'∧(Builtin.firstCells s m (ah β' x)).run P w'=Result.ok (xs.map (ah β')).toArray w'∧xs.length=m * s:=by
 unfold zB at hx
 split at hx
 ·cases hx
  simp[ah,Builtin.lenOf,Builtin.firstCells]
 ·rename_i l
  split at hx
  ·rename_i CO
   cases hx
   subst CO
   refine⟨by simp[ah,Builtin.lenOf];rfl,?_,by simp⟩
   simp only[ah,Builtin.firstCells,Sem.run_pure]
   congr 1
   apply zJr
   have e:(⟨zJg l⟩:ByteArray).extract 0 l.length=⟨zJg l⟩:=by rw[fB];simp
   rw[e]
   simp[cU,ah,Function.comp_def]
  ·cases hx
 ·rename_i j m'
  split at hx
  ·rename_i c e s' n mn hj
   split at hx
   ·rename_i hc
    obtain⟨rfl,rfl⟩:=hc
    cases hx
    have hl:=yn h hj
    have ho:=h.own hj hβ
    refine⟨?_,?_,hl⟩
    ·simp only[ah,oV];split <;> simp[Builtin.lenOf]
    ·simp only[ah,oV]
     rcases ho with⟨h1,h2,h3,-⟩|⟨h1,-,-,-,h5,-⟩
     ·rw[if_pos h1];subst h2 h3
      rw[Is];rfl
     ·rw[if_neg h1]
      refine run_firstCells_some (P:=P) w' _ _ _ _ _ _ (by simpa using hl) (fun j v hv=>?_)
      rw[dh]
      have:=h5 j v hv
      rw[← this]
      exact World.cell?_of_block (w:=w) (by rw[hw'])
   ·cases hx
  ·cases hx
 ·cases hx
theorem lE {P:Program}(w:World)(t u ty e:TypeId)(i:TypeInfo)(ht:P.underlying t=some (.slice e)){d:TypeDesc}(hu:P.underlying u=some d)(hd:d=.string∨∃ e',d=.slice e')(hi:P.info? e=some i)
 (g iX sCap m:Nat) (x:Value) (news:List Value) (hlen:(Builtin.lenOf x).run P w=Result.ok m w) (hf:(Builtin.firstCells i.size m x).run P w=Result.ok news.toArray w) (gq:iX+m≤sCap) {w':World}
 (om:(storeCells ⟨g,iX * i.size,none⟩ news).run P w=Result.ok () w') :
 (Builtin.append_ #[t,u] ty #[.slice (some ⟨g,0,none⟩) iX sCap,x]).run P w=Result.ok (.slice (some ⟨g,0,none⟩) (iX+m) sCap) w':=by
 rcases hd with rfl|⟨e',rfl⟩ <;> simp[Builtin.append_,run_underlying ht,run_underlying hu,Go.sizeOf,typeInfo,hi,hlen,gq,hf,dh,om]
theorem pJ {P:Program}(w:World)(t u ty e:TypeId)(i:TypeInfo)(z:Value)(ht:P.underlying t=some (.slice e)){d:TypeDesc}(hu:P.underlying u=some d)(hd:d=.string∨∃ e',d=.slice e')(hi:P.info? e=some i)(hz:i.zero=some z)
 (b:Option Addr) (iX sCap m:Nat) (x:Value) (olds news:List Value) (hlen:(Builtin.lenOf x).run P w=Result.ok m w) (hf:(Builtin.firstCells i.size m x).run P w.drew=Result.ok news.toArray w.drew)
 (ho:(Builtin.firstCells i.size iX (.slice b iX sCap)).run P w.drew=Result.ok olds.toArray w.drew)
 (hg:sCap<iX+m) (sF:iX+m≤maxLen) (rp:(iX+m) * i.bytes≤140737488355328) :
 (Builtin.append_ #[t,u] ty #[.slice b iX sCap,x]).run P w =
  Result.ok (.slice (some ⟨w.heap.size,0,none⟩) (iX+m) (grownCap w (iX+m) sCap e)) (w.drew.alloc (.cells ((olds++news).toArray++Builtin.zeroCells z.cells (grownCap w (iX+m) sCap e - (iX+m))) e)):=by
 have hn:¬ (iX+m≤sCap):=by omega
 have h63':¬ (9223372036854775807<((iX:Int)+(m:Int))):=by unfold maxLen at sF;omega
 have h48':¬ (281474976710656<Builtin.nextslicecap (iX+m) sCap * i.bytes):=by have:=growslice_fits hg rp;omega
 rcases hd with rfl|⟨e',rfl⟩ <;> simp[Builtin.append_,run_underlying ht,run_underlying hu,Go.sizeOf,typeInfo,zeroValue,hi,hz,hlen,hn,h63',h48',Question.forced,hf,ho,newRow,grownCap]
 all_goals
  congr 2
  apply zJr
  simp
theorem dM {w:World}{g cap e s n:Nat}{c:List SV}{β':Nat→Bt}{rest:List Value}{fz:Nat × Nat}(hh:w.heap[g]? = some (.cells (c.map (ah β')++rest).toArray e fz))(sX:c.length+rest.length<fz.1∨fz.2≤fz.1∨s=1∧c.length+rest.length≤fz.1)(hc:c.length=n * s)(hn:n≤cap)(kF:cap≤maxLen)(kC:c.length+rest.length=cap * s) :
 Holds β' ⟨g,0,cap+1⟩ (·=g) w (.own c e s n true):=by
 have hd:Head w g e (c.map (ah β')) rest fz:=⟨hh,by simp;omega⟩
 exact .inr ⟨by simp,hn,kF,hc,hd.sA,fun _=>⟨rfl,rest,fz,hd,sX,kC⟩,fun k=>Iff.rfl⟩
theorem holds_nil {w:World}{e s:Nat}{β':Nat→Bt}{m:Bool}:Holds β' ⟨0,0,0⟩ (fun _=>False) w (.own [] e s 0 m):=.inl ⟨rfl,rfl,rfl,by simp,fun _=>rfl⟩
theorem El {e s:Nat}{sv:SV}{n:Nat}{c:List SV}{bs2:List ay}(h:sG bs e s sv=some (n,c,bs2)):bs2.length=bs.length:=by
 unfold sG at h
 split at h
 ·cases h;rfl
 ·split at h
  ·split at h
   ·cases h;simp
   ·cases h
  ·cases h
 ·split at h
  ·split at h
   ·cases h;rfl
   ·cases h
  ·cases h
 ·cases h
theorem yI {w:World}{b:Nat}{x:Obj}(h:w.heap[b]? = some x):b<w.heap.size:=(Array.getElem?_eq_some_iff.1 h).1
theorem Ek (h:Wd F β fp bs w){e s:Nat}{sv:SV}{n:Nat}{c:List SV}{bs2:List ay}(hs:sG bs e s sv=some (n,c,bs2)){w':World}(hb:Below w.heap.size w w')(r:ay)(b:Bt)(f:Nat→Prop)
 (hr:∀ β',bp (bs.length+1) (nT β bs.length b) β'→Holds β' b f w' r) (hf:∀ k,f k→w.heap.size≤k∧k<w'.heap.size):∃ fp₂,Wd F (nT β bs.length b) fp₂ (bs2++[r]) w':=by
 unfold sG at hs
 split at hs
 ·cases hs;exact⟨_,h.more hb r b f hr hf⟩
 ·split at hs
  ·rename_i hj
   split at hs
   ·cases hs
    exact⟨_,h.swap hj rfl (mD.jE hb) r b f hr (fun k hk=>⟨.inr (hf k hk).1,(hf k hk).2⟩)⟩
   ·cases hs
  ·cases hs
 ·split at hs
  ·split at hs
   ·cases hs;exact⟨_,h.more hb r b f hr hf⟩
   ·cases hs
  ·cases hs
 ·cases hs
theorem app_ok (h:Wd F β fp bs w){t u e s:Nat}(ht:V.P.underlying t=some (.slice e)){d:TypeDesc}(hu:V.P.underlying u=some d)(hd:d=.string∨∃ e',d=.slice e'){ti:TI}(jI:V.Γ e=some ti)(kC:ti.size=s)(eV:0<s)
 {sv xv:SV} {n m:Nat} {c xs:List SV} {bs2:List ay} (hs:sG bs e s sv=some (n,c,bs2)) (hx:zB bs s xv=some (m,xs)) (hxv:∀ β',bp bs.length β β'→ah β xv=ah β' xv) (h1:xs.all one=true) (sF:n+m≤maxLen) (H7:(n+m) * ti.bytes≤140737488355328) (h0m:capB sv=true→0<m) (ty:TypeId) :
 ∃ b fp₂ w',(Builtin.append_ #[t,u] ty #[ah β sv,ah β xv]).run V.P w=Result.ok (oV b (n+m)) w'∧Wd F (nT β bs.length b) fp₂ (bs2++[.own (c++xs) e s (n+m) true]) w':=by
 obtain⟨i,z,hi,hz,o8,HT,CK⟩:=(V.gI e ti jI).info
 have CJ:=(V.gI e ti jI).len
 have hiss:i.size=s:=o8.trans kC
 obtain⟨ny,y7,DW⟩:=B8 h eV hx (bp.refl _ β) w rfl V.P
 obtain⟨gF,Fp,-⟩:=B8 h eV hx (bp.refl _ β) w.drew rfl V.P
 have hxa:∀ β',bp bs.length β β'→xs.map (ah β)=xs.map (ah β'):=fun β' hβ=>by
  have h2:=(B8 h eV hx hβ w rfl V.P).2.1
  rw[← hxv β' hβ,y7]at h2
  injection h2 with h2
  simpa using h2
 rw[← hiss]at y7 Fp
 have uA:z.cells.size=s:=by rw[CK];simp[CJ,kC]
 -- a new row
 have grow:∀ (b:Option Addr) (cap:Nat) (hca:∀ β',bp bs.length β β'→c.map (ah β)=c.map (ah β')) (dO:c.length=n * s),(Builtin.firstCells i.size n (.slice b n cap)).run V.P w.drew=Result.ok (c.map (ah β)).toArray w.drew→cap<n+m →
  ∃ b' fp₂ w',(Builtin.append_ #[t,u] ty #[.slice b n cap,ah β xv]).run V.P w=Result.ok (oV b' (n+m)) w'∧Wd F (nT β bs.length b') fp₂ (bs2++[.own (c++xs) e s (n+m) true]) w':=fun b cap hca dO ho hg=>by
  have bG:=pJ (P:=V.P) w t u ty e i z ht hu hd hi hz b n cap m (ah β xv) (c.map (ah β)) (xs.map (ah β)) ny Fp ho hg sF (by rw[HT];exact H7)
  have rm:=grownCap_ge w (n+m) cap e
  have hle:=grownCap_le_maxLen w (n+m) cap e sF
  generalize grownCap w (n+m) cap e=cap' at bG rm hle
  have hwd0:∃ fp₂,Wd F (nT β bs.length ⟨w.heap.size,0,cap'+1⟩) fp₂ (bs2++[.own (c++xs) e s (n+m) true]) (w.drew.alloc (.cells ((c.map (ah β)++xs.map (ah β)).toArray++Builtin.zeroCells z.cells (cap' - (n+m))) e)):=by
   refine Ek h hs (((Below.refl _ _).drew).alloc (zJi _) _) (.own (c++xs) e s (n+m) true) ⟨w.heap.size,0,cap'+1⟩ (·=w.heap.size) (fun β' hβ=>?_) (fun k hk=>?_)
   ·refine dM (rest:=(Builtin.zeroCells z.cells (cap' - (n+m))).toList) (fz:=(0,0)) ?_ (.inr (.inl (zJi _))) (by rw[zJh,dO,DW,zJm]) rm hle ?_
    ·have e1:=cw w.drew (.cells ((c.map (ah β)++xs.map (ah β)).toArray++Builtin.zeroCells z.cells (cap' - (n+m))) e)
     have e2:w.drew.heap.size=w.heap.size:=rfl
     rw[e2]at e1
     rw[e1,hca β' hβ.dp,hxa β' hβ.dp]
     congr 2
     apply zJr
     simp
    ·rw[zJh,dO,DW]
     simp only[Array.length_toList,size_zeroCells,uA]
     rw[← zJm,← zJm]
     congr 1
     omega
   ·subst hk
    exact⟨zJi _,by rw[size_alloc];exact zJo _⟩
  obtain⟨fp₂,mq⟩:=hwd0
  exact⟨⟨w.heap.size,0,cap'+1⟩,fp₂,_,by rw[bG];simp[oV],mq⟩
 -- nothing at all
 have none0:∀ b0:Bt,b0.cap=0→(m=0→b0.cB=0)→c=[]→n=0→∃ b' fp₂ w',(Builtin.append_ #[t,u] ty #[.slice (oY b0) 0 0,ah β xv]).run V.P w=Result.ok (oV b' (n+m)) w'∧Wd F (nT β bs.length b') fp₂ (bs2++[.own (c++xs) e s (n+m) true]) w':=fun b0 eU hbk fL xi=>by
  subst fL xi
  by_cases hm:m=0
  ·subst hm
   have hxs:xs=[]:=zJp (by rw[DW];simp)
   subst hxs
   obtain⟨fp₂,mq⟩:=Ek h hs (Below.refl _ w) (.own [] e s 0 true) b0 (fun _=>False) (fun β' _=>.inl ⟨eU,rfl,rfl,by simp,fun _=>hbk rfl⟩) (fun k hk=>hk.elim)
   refine⟨b0,fp₂,w,?_,mq⟩
   unfold oV
   rw[if_pos eU]
   cases oY b0 <;> rcases hd with rfl|⟨e',rfl⟩ <;> simp[Builtin.append_,run_underlying ht,run_underlying hu,Go.sizeOf,typeInfo,hi,ny,y7,storeCells]
  ·exact grow (oY b0) 0 (fun _ _=>rfl) (by simp) (by rw[Is];rfl) (by omega)
 have hs':=hs
 unfold sG at hs'
 split at hs'
 ·cases hs'
  simpa[ah,oY] using none0 ⟨0,0,0⟩ rfl (fun _=>rfl) rfl rfl
 ·rename_i j n0
  split at hs'
  ·rename_i c0 e0 s0 n1 hj
   split at hs'
   ·rename_i jK
    obtain⟨rfl,rfl,rfl⟩:=jK
    cases hs'
    have ho:=h.own hj (bp.refl _ β)
    rcases ho with⟨k1,k2,k3,-,k8⟩|⟨k1,k2,k3,k4,k5,k6,k7⟩
    ·have:=none0 _ k1 (fun _=>k8 rfl) k3 k2
     simp only[ah,oV,if_pos k1]
     rw[k2]at this ⊢
     exact this
    ·obtain⟨k8,rest,fz,k9,k10,k11⟩:=k6 rfl
     have hjlt:j<bs.length:=(zJk.1 hj).1
     have hgj:iy bs j=some (c,e0,true):=by simp[iy,hj]
     simp only[ah,oV,if_neg k1]
     by_cases gq:n+m≤(β j).cap - 1
     ·have dO:(c.map (ah β)).length=n * s0:=by simpa using k4
      have hmul:n * s0+m * s0≤((β j).cap - 1) * s0:=by rw[← zJm];exact zJn _ gq
      have om:=bK (P:=V.P) (β j).cB (n * s0) e0 fz (xs.map (ah β)) 0 _ w k9.1 (by simp;omega) (by simp;omega) (fun v hv=>by
       simp only[List.mem_map]at hv
       obtain⟨x,hx',rfl⟩:=hv
       exact gm (List.all_eq_true.1 h1 x hx') β)
      have e1:(List.take (n * s0+0) (c.map (ah β)++rest)++xs.map (ah β)++List.drop (n * s0+0+(xs.map (ah β)).length) (c.map (ah β)++rest))=(c++xs).map (ah β)++rest.drop (m * s0):=by
       simp only[Nat.add_zero,zJs]
       rw[List.take_append_of_le_length (by omega),List.take_of_length_le (by omega),List.drop_append,List.drop_of_length_le (by simp;omega)]
       simp[DW,k4]
      simp only[e1]at om
      have bG:=lE (P:=V.P) w t u ty e0 i ht hu hd hi (β j).cB n ((β j).cap - 1) m (ah β xv) (xs.map (ah β)) ny y7 gq (by rw[hiss];exact om)
      have fI:=setRow_heap w (β j).cB _ ((c++xs).map (ah β)++rest.drop (m * s0)).toArray _ _ k9.1
      have hcb:(β j).cap - 1+1=(β j).cap:=by omega
      have mq:=h.swap hj rfl (w':=w.setRow (β j).cB ((c++xs).map (ah β)++rest.drop (m * s0)).toArray) ⟨rfl,rfl,rfl,by simp,fun k hk hn=>setRow_other _ _ _ _ (fun ek=>hn ((k7 k).2 ek))⟩ (.own (c++xs) e0 s0 (n+m) true) ⟨(β j).cB,0,(β j).cap - 1+1⟩ (·=(β j).cB) (fun β' hβ=>?_) (fun k hk=>?_)
      ·refine⟨⟨(β j).cB,0,(β j).cap - 1+1⟩,_,_,?_,mq⟩
       rw[k8,bG]
       simp[oV]
      ·refine dM (rest:=rest.drop (m * s0)) (fz:=fz) ?_ ?_ (by rw[zJh,k4,DW,zJm]) gq k3 ?_
       ·rw[fI,zJs,h.zc hgj hβ.dp,hxa β' hβ.dp,← zJs]
       ·simp only[zJh,List.length_drop]
        rcases k10 with k10|k10|⟨e1,k10⟩
        ·left;omega
        ·exact .inr (.inl k10)
        ·right;right;exact⟨e1,by omega⟩
       ·simp only[zJh,List.length_drop]
        omega
      ·subst hk
       refine⟨.inl ((k7 _).2 rfl),?_⟩
       rw[setRow_size]
       exact yI k9.1
     ·refine grow _ _ (fun β' hβ=>h.zc hgj hβ) k4 ?_ (by omega)
      rw[hiss]
      refine run_firstCells_some (P:=V.P) w.drew s0 n _ n _ (c.map (ah β)) (by simpa using k4) (fun q v hv=>?_)
      rw[dh]
      exact k5 q v hv
   ·cases hs'
  ·cases hs'
 ·rename_i j n0
  split at hs'
  ·rename_i c0 e0 s0 n1 m1 hj
   split at hs'
   ·rename_i jK
    obtain⟨rfl,rfl,rfl⟩:=jK
    cases hs'
    have hm0:0<m:=h0m rfl
    have hgj:iy bs j=some (c,e0,m1):=by simp[iy,hj]
    have ho:=h.own hj (bp.refl _ β)
    rcases ho with⟨k1,k2,k3,-⟩|⟨k1,k2,k3,k4,k5,k6,k7⟩
    ·have:=none0 _ k1 (fun hm=>absurd hm (by omega)) k3 k2
     simp only[ah,fV,if_pos k1]
     rw[k2]at this ⊢
     exact this
    ·simp only[ah,fV,if_neg k1]
     refine grow _ _ (fun β' hβ=>h.zc hgj hβ) k4 ?_ (by omega)
     rw[hiss]
     refine run_firstCells_some (P:=V.P) w.drew s0 n _ n _ (c.map (ah β)) (by simpa using k4) (fun q v hv=>?_)
     rw[dh]
     exact k5 q v hv
   ·cases hs'
  ·cases hs'
 ·cases hs'
theorem Wd.split (h:Wd F β fp bs w){i:Nat}{r0:ay}(hi:bs[i]? = some r0)(r1 r:ay)(b:Bt)(f1 f:Nat→Prop)(h1:∀ β',bp bs.length β β'→Holds β' (β' i) f1 w r1)(yF:r1.cf=false)(y7:∀ k,f1 k→fp i k)
 (hr:∀ β',bp (bs.length+1) (nT β bs.length b) β'→Holds β' b f w r) (hf:∀ k,f k→fp i k) (hm:r.cf=true→r0.cf=true∧∀ k,¬ f1 k) :
 Wd F (nT β bs.length b) (fun j k=>if j=bs.length then f k else if j=i then f1 k else fp j k) (bs.set i r1++[r]) w:=by
 have sD:i<bs.length:=(zJk.1 hi).1
 have old:∀ {j:Nat} {r':ay},(bs.set i r1++[r])[j]? = some r'→(j<bs.length∧j≠i∧bs[j]? = some r')∨(j=i∧r'=r1)∨(j=bs.length∧r'=r):=fun {j r'} hj=>by
  rcases Nat.lt_or_ge j bs.length with aA|rm
  ·rw[List.getElem?_append_left (by simpa using aA)]at hj
   by_cases lM:j=i
   ·subst lM
    rw[List.getElem?_set_self sD]at hj
    exact .inr (.inl ⟨rfl,by simpa using hj.symm⟩)
   ·rw[List.getElem?_set_ne (fun e=>lM e.symm)]at hj
    exact .inl ⟨aA,lM,hj⟩
  ·have hj':j=bs.length:=by
    have:=(zJk.1 hj).1
    rw[zJh,List.length_singleton,List.length_set]at this
    omega
   subst hj'
   rw[List.getElem?_append_right (by simp)]at hj
   simp at hj
   exact .inr (.inr ⟨rfl,hj.symm⟩)
 have eU:=h.bx β (bp.refl _ _)
 have fo:∀ {j:Nat},j<bs.length→j≠i→(fun k=>if j=bs.length then f k else if j=i then f1 k else fp j k)=fp j:=fun {j} hj bk=>by funext k;simp[show j≠bs.length by omega,bk]
 have fi:(fun k=>if i=bs.length then f k else if i=i then f1 k else fp i k)=f1:=by funext k;simp[show i≠bs.length by omega]
 have fn:(fun k=>if bs.length=bs.length then f k else if bs.length=i then f1 k else fp bs.length k)=f:=by funext k;simp
 refine⟨h.fr,fun β' hβ=>?_,fun j r' hj hm' k hk=>?_,?_,fun j r' hj k hk=>?_⟩
 ·rw[zJh,List.length_singleton,List.length_set]at hβ
  have hb':=h.bx β' hβ.dp
  have kT:β' bs.length=b:=by rw[← hβ bs.length (by omega),fY]
  refine⟨fun j r' hj=>?_,fun j r' hj k hk=>?_,fun j l r2 r3 hj hl bk jc k hk hk'=>?_⟩
  ·rcases old hj with⟨aA,bk,iw⟩|⟨ej,e2⟩|⟨ej,e2⟩
   ·simp only[fo aA bk];exact hb'.holds j r' iw
   ·subst ej e2
    rw[fi]
    exact h1 β' hβ.dp
   ·subst ej e2
    rw[fn,kT]
    exact hr β' hβ
  ·rcases old hj with⟨aA,bk,iw⟩|⟨ej,e2⟩|⟨ej,e2⟩
   ·simp only[if_neg (show j≠bs.length by omega),if_neg bk]at hk
    exact eU.lt j r' iw k hk
   ·subst ej
    simp only[if_neg (show j≠bs.length by omega),if_true]at hk
    exact eU.lt j r0 hi k (y7 k hk)
   ·subst ej
    simp only[if_true]at hk
    exact eU.lt i r0 hi k (hf k hk)
  ·rcases old hj with⟨aA,hnj,iw⟩|⟨ej,e2⟩|⟨ej,e2⟩
   ·simp only[if_neg (show j≠bs.length by omega),if_neg hnj]at hk
    rcases old hl with⟨hlt',sa,gF⟩|⟨el,e3⟩|⟨el,e3⟩
    ·simp only[if_neg (show l≠bs.length by omega),if_neg sa]at hk'
     exact eU.sep j l r2 r3 iw gF bk jc k hk hk'
    ·subst el e3
     simp only[if_neg (show l≠bs.length by omega),if_true]at hk'
     rcases jc with jc|jc
     ·exact eU.sep j l r2 r0 iw hi hnj (.inl jc) k hk (y7 k hk')
     ·rw[yF]at jc;cases jc
    ·subst el e3
     simp only[if_true]at hk'
     rcases jc with jc|jc
     ·exact eU.sep j i r2 r0 iw hi hnj (.inl jc) k hk (hf k hk')
     ·exact eU.sep j i r2 r0 iw hi hnj (.inr (hm jc).1) k hk (hf k hk')
   ·subst ej e2
    simp only[if_neg (show j≠bs.length by omega),if_true]at hk
    rcases old hl with⟨hlt',sa,gF⟩|⟨el,e3⟩|⟨el,e3⟩
    ·simp only[if_neg (show l≠bs.length by omega),if_neg sa]at hk'
     rcases jc with jc|jc
     ·rw[yF]at jc;cases jc
     ·exact eU.sep l j r3 r0 gF hi sa (.inl jc) k hk' (y7 k hk)
    ·exact bk el.symm
    ·subst el e3
     rcases jc with jc|jc
     ·rw[yF]at jc;cases jc
     ·exact(hm jc).2 k hk
   ·subst ej e2
    simp only[if_true]at hk
    rcases old hl with⟨hlt',sa,gF⟩|⟨el,e3⟩|⟨el,e3⟩
    ·simp only[if_neg (show l≠bs.length by omega),if_neg sa]at hk'
     rcases jc with jc|jc
     ·exact eU.sep l i r3 r0 gF hi sa (.inr (hm jc).1) k hk' (hf k hk)
     ·exact eU.sep l i r3 r0 gF hi sa (.inl jc) k hk' (hf k hk)
    ·subst el e3
     simp only[if_neg (show l≠bs.length by omega),if_true]at hk'
     rcases jc with jc|jc
     ·exact(hm jc).2 k hk'
     ·rw[yF]at jc;cases jc
    ·exact bk el.symm
 ·rcases old hj with⟨aA,bk,iw⟩|⟨ej,e2⟩|⟨ej,e2⟩
  ·simp only[if_neg (show j≠bs.length by omega),if_neg bk]at hk
   exact h.cf j r' iw hm' k hk
  ·subst e2;rw[yF]at hm';cases hm'
  ·subst ej e2
   simp only[if_true]at hk
   exact h.cf i r0 hi (hm hm').1 k (hf k hk)
 ·have hl:=h.sR.len
  exact⟨fun j hj=>(h.sR.zc j hj).trans (dZ β _ _ j (by omega)),by rw[zJh,List.length_set];omega⟩
 ·rcases old hj with⟨aA,bk,iw⟩|⟨ej,e2⟩|⟨ej,e2⟩
  ·simp only[if_neg (show j≠bs.length by omega),if_neg bk]at hk
   exact h.lO j r' iw k hk
  ·subst ej
   simp only[if_neg (show j≠bs.length by omega),if_true]at hk
   exact h.lO j r0 hi k (y7 k hk)
  ·subst ej
   simp only[if_true]at hk
   exact h.lO i r0 hi k (hf k hk)
theorem vj {n cap:Nat}(hle:n≤cap){lo hi:Option SV}{c:Prop}{f u:Nat}{β:Nat→Bt}(h:vk n lo hi=some (c,f,u))(hc:c)(P:Program)(w:World) :
 (Instr.sliceBounds true n cap (lo.map (ah β)) (hi.map (ah β)) none).run P w=Result.ok (f,u,cap) w∧f≤u∧u≤n∧(lo=none→f=0):=by
 unfold vk at h
 split at h <;> simp only[Option.some.injEq,Prod.mk.injEq,reduceCtorEq]at h
 all_goals
  obtain⟨rfl,rfl,rfl⟩:=h
  refine⟨?_,by omega,by omega,by simp⟩
  simp[ah,Instr.sliceBounds,Instr.sliceBound,asIntOf,go_sem]
  try omega
 rw[if_pos (by omega),if_pos (by omega)]
theorem Gm {e s:Nat}(hs:sz V.Γ e=some s)(w:World):(Go.sizeOf e).run V.P w=Result.ok s w:=by
 unfold sz at hs
 cases uB:V.Γ e with
 | none=>simp[uB]at hs
 | some ti=>simp[uB]at hs;rw[← hs];exact(V.gI e ti uB).size w
theorem Fb {w:World}{b off:Nat}{vs:List Value}(h:nQ w b off vs)(k j:Nat):nQ w b (off+k) ((vs.take j).drop k):=fun q v hv=>by
 have h1:=h (k+q) v (by
  rw[List.getElem?_drop]at hv
  rw[List.getElem?_take]at hv
  split at hv
  ·exact hv
  ·cases hv)
 rw[Nat.add_assoc]
 exact h1
theorem re_ok (h:Wd F β fp bs w){t e s:Nat}(ht:V.P.underlying t=some (.slice e))(hz:(Go.sizeOf e).run V.P w=Result.ok s w){lo hi:Option SV}{x:SV}{c0:Prop}{n0:Nat}{bs2:List ay}(ha:reS bs lo hi x=some (c0,n0,bs2))(hc:c0)(hsi:Xc.lD bs x s) :
 ∃ b fp₂,(Instr.sliceAt t (ah β x) (lo.map (ah β)) (hi.map (ah β)) none).run V.P w=Result.ok (oV b n0) w∧bs2.length=bs.length+1∧Wd F (nT β bs.length b) fp₂ bs2 w:=by
 unfold reS at ha
 split at ha
 ·rename_i i n
  split at ha
  ·rename_i c e' s' n' m hi'
   simp only[Xc.lD,hi']at hsi
   subst hsi
   have sD:i<bs.length:=(zJk.1 hi').1
   split at ha
   ·rename_i k f u hb
    have xa:k∧n'=n∧0<s':=by
     (repeat' split at ha) <;> (cases ha;exact hc)
    obtain⟨hk,rfl,eV⟩:=xa
    have ho:=h.own hi' (bp.refl _ β)
    have hgi:iy bs i=some (c,e',m):=by simp[iy,hi']
    -- the new slice, as a thing that may only be read
    have fI:∃ b,(Instr.sliceAt t (ah β (.o i n')) (lo.map (ah β)) (hi.map (ah β)) none).run V.P w=Result.ok (oV b (u - f)) w∧f≤u∧u≤n'∧(lo=none→f=0) ∧
     (∀ m',(m'=true→m=true∧lo=none)→∀ β',bp (bs.length+1) (nT β bs.length b) β'→Holds β' b (fp i) w (.own ((c.take (u * s')).drop (f * s')) e' s' (u - f) m')):=by
     rcases ho with⟨h1,h2,h3,h4⟩|⟨h1,h2,h3,h4,h5,h6,h7⟩
     ·subst h2 h3
      obtain⟨hsb,hfu,HA,F4⟩:=vj (β:=β) (zJi 0) hb hk V.P w
      have hu:u=0:=by omega
      have hf:f=0:=by omega
      subst hu hf
      refine⟨β i,?_,zJi _,zJi _,fun _=>rfl,fun m' hm' β' hβ=>.inl ⟨h1,rfl,by simp,h4.1,fun hm=>h4.2 (hm' hm).1⟩⟩
      simp only[ah,oV,if_pos h1]
      cases oY (β i) <;> simp[Instr.sliceAt,Instr.slice,run_underlying ht,hsb,hz,Addr.add]
     ·obtain⟨hsb,hfu,HA,F4⟩:=vj (β:=β) h2 hb hk V.P w
      refine⟨⟨(β i).cB,if (β i).cap - 1=f then(β i).off else(β i).off+f * s',(β i).cap - 1 - f+1⟩,?_,hfu,HA,F4,fun m' hm' β' hβ=>.inr ⟨by simp,by simp;omega,by simp;omega,?_,?_,fun hm=>?_,h7⟩⟩
      ·simp only[ah,oV,if_neg h1]
       simp only[Instr.sliceAt,Instr.slice,run_underlying ht,hsb,hz,Sem.run_bind,Result.andThen_ok,Sem.run_pure,Option.map_some,dh]
       simp
       split <;> rfl
      ·rw[List.length_drop,List.length_take,h4,Nat.min_eq_left (zJn _ HA),Nat.sub_mul]
      ·have:=Fb h5 (f * s') (u * s')
       rw[h.zc hgi hβ.dp]at this
       rw[List.map_drop,List.map_take]
       by_cases Fw:(β i).cap - 1=f
       ·have:u=f:=by omega
        subst this
        intro q v hv
        rw[List.drop_of_length_le (by rw[List.length_take];exact Nat.min_le_left _ _)]at hv
        cases hv
       ·simp only[if_neg Fw]
        exact this
      ·obtain⟨yF,hlo1⟩:=hm' hm
       have y8:=F4 hlo1
       subst y8
       obtain⟨h8,rest,fz,h9,fc,Ig⟩:=h6 yF
       have hus:u * s'≤c.length:=by rw[h4];exact zJn _ HA
       refine⟨by simp[h8],(c.drop (u * s')).map (ah β')++rest,fz,⟨?_,?_⟩,?_,?_⟩
       ·rw[h9.1,Nat.zero_mul,List.drop_zero,← List.append_assoc,← zJs,List.take_append_drop,h.zc hgi hβ.dp]
       ·have:=h9.2
        simp at this ⊢
        omega
       ·simp
        omega
       ·simp
        omega
    obtain⟨b,bG,hfu,HA,F4,hnw⟩:=fI
    cases lo with
    | none =>
      have y8:=F4 rfl
      subst y8
      have hnw':=hnw m (fun hm=>⟨hm,rfl⟩)
      simp only[Nat.zero_mul,List.drop_zero,Nat.sub_zero]at hnw' bG
      cases m with
      | false =>
        cases ha
        have iu:bs.set i (.own c e' s' n' false)=bs:=by
         apply List.ext_getElem?
         intro q
         rw[List.getElem?_set]
         split
         ·rename_i hq
          subst hq
          first|exact hi'.symm | (rw[if_pos sD];exact hi'.symm)
         ·rfl
        have hs:=h.split hi' (.own c e' s' n' false) _ b (fp i) (fp i) (fun β' hβ=>h.own hi' hβ) rfl (fun k hk=>hk) hnw' (fun k hk=>hk) (fun hm=>by cases hm)
        rw[iu]at hs
        exact⟨b,_,bG,by simp,hs⟩
      | true =>
      cases ha
      exact⟨b,_,bG,by simp,h.split hi' .gone _ b (fun _=>False) (fp i) (fun β' hβ k hk=>hk) rfl (fun k hk=>hk.elim) hnw' (fun k hk=>hk) (fun hm=>⟨hm,fun k hk=>hk⟩)⟩
    | some l =>
      cases ha
      refine⟨b,_,bG,by simp,h.split hi' (.own c e' s' n' false) _ b (fp i) (fp i) (fun β' hβ=>?_) rfl (fun k hk=>hk) (hnw false (by simp)) (fun k hk=>hk) (fun hm=>by cases hm)⟩
      rcases h.own hi' hβ with hh|⟨h1,h2,h3,h4,h5,-,h7⟩
      ·exact .inl ⟨hh.1,hh.2.1,hh.2.2.1,hh.2.2.2.1,fun e=>by cases e⟩
      ·exact .inr ⟨h1,h2,h3,h4,h5,(by simp),h7⟩
   ·cases ha
  ·cases ha
 ·cases ha
theorem cap_ok (h:Wd F β fp bs w){t e s:Nat}(ht:V.P.underlying t=some (.slice e))(hz:(Go.sizeOf e).run V.P w=Result.ok s w){kh km:IntKind}{hi mx:Int}{x y:SV}{c0:Prop}(ha:BB bs s hi mx x=some (c0,y))(hc:c0) :
 (Instr.sliceAt t (ah β x) none (some (.int kh hi)) (some (.int km mx))).run V.P w=Result.ok (ah β y) w∧(∀ β',bp bs.length β β'→ah β y=ah β' y):=by
 unfold BB at ha
 split at ha
 ·rename_i i n
  split at ha
  ·rename_i c e' s' n' m hi'
   cases ha
   obtain⟨rfl,rfl,rfl,rfl⟩:=hc
   have sD:i<bs.length:=(zJk.1 hi').1
   refine⟨?_,fun β' hβ=>by simp only[ah];rw[hβ i sD]⟩
   rcases h.own hi' (bp.refl _ β) with⟨h1,h2,h3,h4⟩|⟨h1,h2,h3,h4,h5,h6,h7⟩
   ·subst h2 h3
    simp only[ah,oV,fV,if_pos h1]
    cases oY (β i) <;> simp[Instr.sliceAt,Instr.slice,Instr.sliceBounds,Instr.sliceBound,asIntOf,run_underlying ht,hz,go_sem,Addr.add]
   ·simp only[ah,oV,fV,if_neg h1]
    simp[Instr.sliceAt,Instr.slice,Instr.sliceBounds,Instr.sliceBound,asIntOf,run_underlying ht,hz,go_sem,h2,dh]
  ·cases ha
 ·cases ha
  obtain⟨rfl,rfl⟩:=hc
  exact⟨by simp[ah,Instr.sliceAt,Instr.slice,Instr.sliceBounds,Instr.sliceBound,asIntOf,run_underlying ht,hz,go_sem],fun β' _=>rfl⟩
 ·cases ha
theorem oa {s:Nat}:∀ {ps:List (Nat × SV)}{k:Nat}{c:List SV},Yi s k ps=some c→c.length=ps.length * s
 | [],k,c,h=>by cases h;simp
 | (i,x)::r,k,c,h=>by
  simp only[Yi]at h
  split at h
  ·rename_i hc
   split at h
   ·rename_i c1 h1
    cases h
    rw[zJh,oa h1,hc.2.2,zJj,zJm]
    omega
   ·cases h
  ·cases h
theorem uU (β:Nat→Bt)(s:Nat):∀ (ps:List (Nat × SV))(k:Nat)(c:List SV),Yi s k ps=some c→∀ (cs:Array Value),(k+ps.length) * s≤cs.size →
 Instr.fill (fun i=>some (i * s,s)) cs (ps.map fun p=>(p.1,ah β p.2))=some (cs.toList.take (k * s)++c.map (ah β)++cs.toList.drop ((k+ps.length) * s)).toArray
 | [],k,c,h,cs,hcs=>by
   cases h
   simp[Instr.fill]
 | (i,x)::r,k,c,h,cs,hcs=>by
  simp only[Yi]at h
  split at h
  ·rename_i hc
   obtain⟨rfl,hv,hl⟩:=hc
   split at h
   ·rename_i c1 h1
    cases h
    have ga:=fh β x hv
    rw[zJj]at hcs
    have e0:(i+(r.length+1)) * s=(i+1+r.length) * s:=by congr 1;omega
    rw[e0]at hcs
    have e1:(i+1) * s=i * s+s:=by rw[zJm,Nat.one_mul]
    have e2:(i+1) * s≤(i+1+r.length) * s:=zJn _ (by omega)
    simp only[List.map_cons,Instr.fill,ga,List.size_toArray,List.length_map]
    rw[if_neg (by simp[hl];omega)]
    have hz:=pA (i * s) ((cells x).map (ah β)) 0 cs (by simp;omega)
    rw[← Array.foldl_toList,Array.toList_zipIdx]
    simp only[Nat.add_zero,List.length_map]at hz
    rw[hz,uU β s r (i+1) c1 h1 _ (by simp[hl];omega)]
    congr 2
    rw[zJj,e0]
    simp only[zJs,hl]
    have l1:(cs.toList.take (i * s)).length=i * s:=by simp;omega
    have l2:(cs.toList.take (i * s)++(cells x).map (ah β)).length=(i+1) * s:=by rw[zJh,l1,List.length_map,hl,e1]
    rw[List.take_append_of_le_length (by omega),List.take_of_length_le (by omega),List.drop_append,List.drop_of_length_le (by omega),List.nil_append,l2,List.drop_drop]
    have e3:i * s+s+((i+1+r.length) * s - (i+1) * s)=(i+1+r.length) * s:=by omega
    rw[e3]
    simp
   ·cases h
  ·cases h
def pM:List Value→Nat→List Value
 | _,0=>[]
 | z,n+1=>z++pM z n
theorem j4 (z:List Value):∀ n,(pM z n).length=n * z.length
 | 0=>by simp[pM]
 | n+1=>by simp[pM,j4 z n,zJm,Nat.add_comm]
theorem zU (z:List Value):∀ (n j:Nat),j<n * z.length→(pM z n)[j]? = z[j % z.length]?
 | 0,j,h=>by simp at h
 | n+1,j,h=>by
   simp only[pM]
   by_cases hj:j<z.length
   ·rw[List.getElem?_append_left hj,Nat.mod_eq_of_lt hj]
   ·rw[List.getElem?_append_right (by omega),zU z n (j - z.length) (by rw[zJm]at h;omega)]
    congr 1
    rw[Nat.mod_eq_sub_mod (by omega:j ≥ z.length)]
theorem Au (z:Array Value)(n:Nat)(hz:0<z.size):(madeCells z (n * z.size)).toList=pM z.toList n:=by
 apply List.ext_getElem?
 intro j
 by_cases hj:j<n * z.size
 ·rw[zU _ _ _ (by simpa using hj)]
  have hm:j % z.size<z.size:=Nat.mod_lt _ hz
  simp[madeCells,hj,hm]
 ·rw[List.getElem?_eq_none (by simp[madeCells];omega),List.getElem?_eq_none (by rw[j4];simpa using hj)]
theorem wI (z:List Value):∀ (n k:Nat),k≤n→pM z k=(pM z n).take (k * z.length)
 | _,0,_=>by simp[pM]
 | 0,k+1,h=>by omega
 | n+1,k+1,h=>by
   simp only[pM]
   rw[zJm,Nat.one_mul,Nat.add_comm,List.take_length_add_append,← wI z n k (by omega)]
theorem pL (z:List SV)(β:Nat→Bt):∀ n,(oQ z n).map (ah β)=pM (z.map (ah β)) n
 | 0=>rfl
 | n+1=>by simp[oQ,pM,pL z β n]
theorem wpv {o:Oper}{v:Value}{w w':World}{K:St→Prop}{Q:Exit→Act→World→Prop}(h:(execOp a.eval o).run V.P w=Result.ok (.value v) w'){σ:St}(hK:K σ)(hr:Rel F σ (a.put o.dst v) w'):o.wp V.P a w (fun a w=>∃ σ,K σ∧Rel F σ a w) Q :=
 wp_of_value h ⟨σ,hK,hr⟩
theorem zv {dst:Option Tmp}{op:Op}{σ σ':St}{c:Prop}{K:St→Prop}(bR:fits F.n dst=true)(h:Yl V dst op σ=some (c,σ'))(hc:c)(hK:K σ'){a:Act}{w:World}(hr:Rel F σ a w)(ty:TypeId)(pos:String)(after:Array Edge)(guard:Option (Nat × Bool))(Q:Exit→Act→World→Prop) :
 (⟨dst,op,ty,pos,after,guard⟩:Oper).wp V.P a w (fun a w=>∃ σ,K σ∧Rel F σ a w) Q:=by
 obtain⟨β,fp,hf,hw⟩:=hr
 have mm:∀ (min:Bool) (args:Array Operand) (ts:Array TypeId),Xq min dst args.toList σ=some (c,σ')→(⟨dst,.call ⟨.builtin (if min then .min else .max),args,ts⟩,ty,pos,after,guard⟩:Oper).wp V.P a w (fun a w=>∃ σ,K σ∧Rel F σ a w) Q:=fun min args ts h=>by
  unfold Xq at h
  split at h
  ·rename_i x y hxy
   split at h
   ·rename_i x' hx
    split at h
    ·rename_i y' hy
     simp only[Option.map_eq_some_iff,Prod.mk.injEq]at h
     obtain⟨z,hz,-,rfl⟩:=h
     have ea:args=#[x,y]:=by apply zJr;simpa using hxy
     subst ea
     have h1:=hf.ev hx (bp.refl _ β)
     have h2:=hf.ev hy (bp.refl _ β)
     unfold mmS at hz
     split at hz
     ·cases hz
      simp only[ah]at h1 h2
      refine wpv (v:=_) (w':=w) ?_ hK ⟨β,fp,hf.put bR (fun β' _=>rfl),hw⟩
      cases min
      ·simp only[Bool.false_eq_true,if_false,execOp,resolve,invoke,builtin,Builtin.max_,Builtin.max2,ah]
       generalize a.eval=ρ at h1 h2
       simp[h1,h2,Builtin.max_,Builtin.max2]
      ·simp only[if_true,execOp,resolve,invoke,builtin,Builtin.min_,Builtin.min2,ah]
       generalize a.eval=ρ at h1 h2
       simp[h1,h2,Builtin.min_,Builtin.min2]
     ·cases hz
    ·cases h
   ·cases h
  ·cases h
 cases op <;> simp only[Yl,reduceCtorEq]at h
 case call cl =>
  obtain⟨callee,args,ts⟩:=cl
  cases callee <;> (try simp only[reduceCtorEq]at h)
  rename_i bi
  cases bi <;> (try simp only[reduceCtorEq]at h)
  case append =>
   unfold Xm at h
   (repeat' split at h) <;> try (cases h;done)
   rename_i s x gx _ t u hts _ e ht _ ku hu _ ti jI _ sv hs _ xv hx _ n c0 bs2 hd _ m xs Fg
   cases h
   obtain⟨h0m,hku,eV,h1,sF,H7⟩:=hc
   have ea:args=#[s,x]:=by apply zJr;simpa using gx
   have et:ts=#[t,u]:=by apply zJr;simpa using hts
   subst ea et
   obtain⟨d1,pg,iN⟩:=bV V.gI ht
   obtain⟨d2,nC,fH⟩:=bV V.gI hu
   simp only[ch]at iN
   subst iN
   have hdd:d2=.string∨∃ e',d2=.slice e':=by
    cases ku <;> simp[XP]at hku <;> simp only[ch]at fH
    ·exact .inl fH
    ·exact .inr ⟨_,fH⟩
   obtain⟨b,fp₂,w',bG,mq⟩:=app_ok hw pg nC hdd jI rfl eV hd Fg (fun β' hβ=>by rw[← hf.ev hx (bp.refl _ β),← hf.ev hx hβ]) h1 sF H7 h0m ty
   rw[← hf.ev hs (bp.refl _ β),← hf.ev hx (bp.refl _ β)]at bG
   refine wpv (v:=oV b (n+m)) (w':=w') ?_ hK ⟨_,fp₂,(hf.more (by simp[El hd]) (dZ _ _ _)).put bR (fun β' hβ=>?_),mq⟩
   ·show Sem.run V.P (do let d ← resolve a.eval ⟨.builtin .append,#[s,x],#[t,u]⟩ ty;invoke d.target d.args) w=_
    simp only[resolve,Sem.run_bind,Sem.run_pure,Result.andThen_ok,invoke,builtin,List.map_toArray,List.map_cons,List.map_nil,bG]
   ·simp only[ah]
    rw[← hβ σ.b.length (by simp[El hd]),fY]
  case min=>exact mm true args ts h
  case max=>exact mm false args ts h
 case makeSlice ts l c' =>
  unfold Yn at h
  (repeat' split at h) <;> try (cases h;done)
  rename_i _ e ht _ ti jI _ kl l' hl _ kc c' hc'
  cases h
  obtain⟨h0,hlc,H7,sF,eV⟩:=hc
  obtain⟨d1,pg,iN⟩:=bV V.gI ht
  simp only[ch]at iN
  subst iN
  obtain⟨i,z,hi,hz,o8,HT,CK⟩:=(V.gI e ti jI).info
  have CJ:=(V.gI e ti jI).len
  have mg:=(V.gI e ti jI).flat
  have bG:=run_make (P:=V.P) w ts e i z pg hi hz kl kc l' c' h0 hlc (by rw[HT];exact H7) sF
  have e1:=hf.ev hl (bp.refl _ β)
  have e2:=hf.ev hc' (bp.refl _ β)
  simp only[ah]at e1 e2
  rw[← e1,← e2]at bG
  have hnn:l'.toNat≤c'.toNat:=by omega
  have uA:z.cells.size=ti.size:=by rw[CK];simp[CJ]
  have hzt:z.cells.toList=ti.zero.map (ah jR):=by rw[CK]
  have hM:(madeCells z.cells (c'.toNat * i.size)).toList=pM (ti.zero.map (ah jR)) c'.toNat:=by
   rw[o8,← uA,Au _ _ (by omega),hzt]
  have hlz:(ti.zero.map (ah jR)).length=ti.size:=by simpa using CJ
  have w9:(oQ ti.zero l'.toNat).length=l'.toNat * ti.size:=by
   have:=congrArg List.length (pL ti.zero jR l'.toNat)
   rw[j4,hlz]at this
   simpa using this
  have hmade:∀ β',(madeCells z.cells (c'.toNat * i.size)).toList=(oQ ti.zero l'.toNat).map (ah β')++(madeCells z.cells (c'.toNat * i.size)).toList.drop (l'.toNat * ti.size):=fun β'=>by
   rw[hM,pL,mg β',wI _ _ _ hnn,hlz,List.take_append_drop]
  have mq:=hw.more (w':=w.alloc (.cells (madeCells z.cells (c'.toNat * i.size)) e)) ((Below.refl _ _).alloc (zJi _) _) (.own (oQ ti.zero l'.toNat) e ti.size l'.toNat true) ⟨w.heap.size,0,c'.toNat+1⟩ (·=w.heap.size) (fun β' hβ=>dM (rest:=(madeCells z.cells (c'.toNat * i.size)).toList.drop (l'.toNat * ti.size)) (fz:=(0,0)) (by
   rw[cw,← hmade β']) (.inr (.inl (zJi _))) w9 hnn (by unfold maxLen;omega) (by
   rw[w9,List.length_drop,hM,j4,hlz]
   have:l'.toNat * ti.size≤c'.toNat * ti.size:=zJn _ hnn
   omega)) (fun k hk=>by subst hk;exact⟨zJi _,by rw[size_alloc];exact zJo _⟩)
  refine wpv (bE bG) hK ⟨_,_,(hf.more (by simp) (dZ _ _ _)).put bR (fun β' hβ=>?_),mq⟩
  simp only[ah]
  rw[← hβ σ.b.length (by simp),fY]
  simp[oV]
 case indexAddr ts x i =>
  unfold Xc at h
  (repeat' split at h) <;> try (cases h;done)
  rename_i _ e ht _ s hs _ x' hx _ k kk hi _ c0 y ha
  cases h
  unfold Ym at ha
  split at ha
  ·rename_i j n
   split at ha
   ·rename_i cc ee ss nn mm' hj
    cases ha
    obtain⟨⟨rfl,hss,sC,F7⟩,kC⟩:=hc
    simp only[Xc.lD,hj]at kC
    subst kC
    obtain⟨d1,pg,iN⟩:=bV V.gI ht
    simp only[ch]at iN
    subst iN
    have hz:(Go.sizeOf e).run V.P w=Result.ok ss w:=by
     unfold sz at hs
     cases uB:V.Γ e with
     | none=>simp[uB]at hs
     | some ti=>simp[uB]at hs;rw[← hs];exact(V.gI e ti uB).size w
    have hnz:(β j).cap≠0:=by
     rcases hw.own hj (bp.refl _ β) with⟨-,h2,-⟩|⟨h2,-⟩
     ·subst h2;omega
     ·exact h2
    have e1:=hf.ev hx (bp.refl _ β)
    have e2:=hf.ev hi (bp.refl _ β)
    simp only[ah,oV,if_neg hnz]at e1 e2
    refine wpv (v:=ah β (.p j (kk.toNat * ss))) (w':=w) ?_ hK ⟨β,fp,hf.put bR (fun β' hβ=>?_),hw⟩
    ·refine bE ?_
     rw[e1,e2]
     simp[Instr.indexAt,asIntOf,run_underlying pg,sC,F7,hz,ah,dh]
    ·simp only[ah]
     rw[hβ j (zJk.1 hj).1]
   ·cases ha
  ·cases ha
 case slice ts x lo hi mx =>
  cases mx with
  | some mx =>
    cases lo <;> cases hi <;> simp only[reduceCtorEq]at h
    rename_i hi
    unfold CB at h
    (repeat' split at h) <;> try (cases h;done)
    rename_i _ e ht _ s hs _ x' hx _ kh vh hh _ km vm hm _ c0 y ha
    cases h
    obtain⟨d1,pg,iN⟩:=bV V.gI ht
    simp only[ch]at iN
    subst iN
    obtain⟨bG,hy⟩:=cap_ok (kh:=kh) (km:=km) hw pg (Gm hs w) ha hc
    have e1:=hf.ev hx (bp.refl _ β)
    have e2:=hf.ev hh (bp.refl _ β)
    have e3:=hf.ev hm (bp.refl _ β)
    simp only[ah]at e2 e3
    have hv:(execOp a.eval (⟨dst,.slice ts x none (some hi) (some mx),ty,pos,after,guard⟩:Oper)).run V.P w=Result.ok (.value (ah β y)) w:=by
     refine bE ?_
     simp only[Option.map_some,Option.map_none,e1,e2,e3]
     exact bG
    exact wpv hv hK ⟨β,fp,hf.put bR (fun β' hβ=>hy β' hβ),hw⟩
  | none =>
  simp only at h
  unfold Xj at h
  (repeat' split at h) <;> try (cases h;done)
  rename_i _ e ht _ s hs _ x' hx _ lo' F4 _ hi' hhi _ c0 n0 bs2 ha
  cases h
  obtain⟨hc,hsi⟩:=hc
  obtain⟨d1,pg,iN⟩:=bV V.gI ht
  simp only[ch]at iN
  subst iN
  have hz:(Go.sizeOf e).run V.P w=Result.ok s w:=Gm hs w
  obtain⟨b,fp₂,bG,hlen,mq⟩:=re_ok hw pg hz ha hc hsi
  have hv:(execOp a.eval (⟨dst,.slice ts x lo hi none,ty,pos,after,guard⟩:Oper)).run V.P w=Result.ok (.value (oV b n0)) w:=by
   refine bE ?_
   rw[hf.ev hx (bp.refl _ β),sN (hf.ok β (bp.refl _ _)) F4,sN (hf.ok β (bp.refl _ _)) hhi]
   exact bG
  refine wpv hv hK ⟨_,fp₂,(hf.more (by rw[hlen];exact Nat.le_succ _) (dZ _ _ _)).put bR (fun β' hβ=>?_),mq⟩
  simp only[ah]
  rw[← hβ σ.b.length (by rw[hlen];exact zJo _),fY]
 case convert ts td x =>
  unfold Yb at h
  (repeat' split at h) <;> try (cases h;done)
  ·rename_i _ hts _ e htd _ hte _ l hx
   cases h
   obtain⟨d1,pg,iN⟩:=bV V.gI hts
   obtain⟨d2,nC,fH⟩:=bV V.gI htd
   obtain⟨d3,Fu,oH⟩:=bV V.gI hte
   simp only[ch]at iN fH oH
   subst iN fH oH
   have bG:=Lib.run_convert_string_bytes w ts td e ⟨zJg l⟩ pg nC Fu
   have hss:(⟨zJg l⟩:ByteArray).size=l.length:=rfl
   rw[hss]at bG
   have rm:=grownCap_ge w l.length 0 e
   have hle:=grownCap_le_maxLen w l.length 0 e hc
   have hbc:Lib.bytesCells w e ⟨zJg l⟩=((l.map cU).map (ah β)++List.replicate (grownCap w l.length 0 e - l.length) (Value.int .u8 0)).toArray:=by
    apply zJr
    simp[Lib.bytesCells,cU,ah,Function.comp_def,hss]
   have fI:=Lib.bytesWorld_at_new w e ⟨zJg l⟩
   have uP:Below w.heap.size w (Lib.bytesWorld w e ⟨zJg l⟩):=⟨by simp[Lib.bytesWorld,World.freeze];rfl,rfl,rfl,by rw[Lib.bytesWorld_size];omega,fun k hk=>Lib.bytesWorld_at_old _ _ _ k hk⟩
   have hsize:=Lib.bytesWorld_size w e ⟨zJg l⟩
   rw[hbc]at fI
   generalize Lib.bytesWorld w e ⟨zJg l⟩=w1 at bG fI uP hsize
   generalize grownCap w l.length 0 e=cap' at bG fI rm hle
   have mq:=hw.more uP (.own (l.map cU) e 1 l.length true) ⟨w.heap.size,0,cap'+1⟩ (·=w.heap.size) (fun β' hβ=>dM (by
    rw[fI]
    congr 3
    rw[List.map_map,List.map_map]
    rfl) (by right;right;exact⟨rfl,by simp⟩) (by simp) rm hle (by simp;omega)) (fun k hk=>by subst hk;exact⟨zJi _,by rw[hsize];exact zJo _⟩)
   have e1:=hf.ev hx (bp.refl _ β)
   simp only[ah]at e1
   rw[← e1]at bG
   refine wpv (bE bG) hK ⟨_,_,(hf.more (by simp) (dZ _ _ _)).put bR (fun β' hβ=>?_),mq⟩
   simp only[ah]
   rw[← hβ σ.b.length (by simp),fY]
   simp[oV]
  ·rename_i _ e hts _ htd _ hte _ hx
   cases h
   obtain⟨d1,pg,iN⟩:=bV V.gI hts
   obtain⟨d2,nC,fH⟩:=bV V.gI htd
   obtain⟨d3,Fu,oH⟩:=bV V.gI hte
   simp only[ch]at iN fH oH
   subst iN fH oH
   have e1:=hf.ev hx (bp.refl _ β)
   simp only[ah]at e1
   have bG:=run_convert_bytes_nil w ts e pg Fu 0 0 td nC
   rw[← e1]at bG
   exact wpv (bE bG) hK ⟨β,fp,hf.put bR (fun β' hβ=>by simp[ah];rfl),hw⟩
  ·rename_i _ e hts _ htd _ hte _ i n hx _ c0 ee s n' mm' hi
   cases h
   obtain⟨rfl,rfl,aT⟩:=hc
   obtain⟨d1,pg,iN⟩:=bV V.gI hts
   obtain⟨d2,nC,fH⟩:=bV V.gI htd
   obtain⟨d3,Fu,oH⟩:=bV V.gI hte
   simp only[ch]at iN fH oH
   subst iN fH oH
   have e1:=hf.ev hx (bp.refl _ β)
   simp only[ah,oV]at e1
   have bG:(convert ts td (a.eval x)).run V.P w=Result.ok (.string ⟨zJg (c0.map vD)⟩) w:=by
    rw[e1]
    rcases hw.own hi (bp.refl _ β) with⟨h1,rfl,rfl,-⟩|⟨h1,h2,h3,h4,h5,-⟩
    ·rw[if_pos h1]
     cases oY (β i) with
     | none=>exact run_convert_bytes_nil w ts e pg Fu 0 0 td nC
     | some A=>exact run_convert_bytes_back w ts td e A 0 [] pg Fu nC (fun j hj=>by simp at hj)
    ·rw[if_neg h1]
     have hl:n'=(c0.map vD).length:=by simpa using h4.symm
     rw[hl]
     refine run_convert_bytes_back w ts td e _ _ (c0.map vD) pg Fu nC (fun j hj=>?_)
     rw[dh]
     have hj':j<c0.length:=by simpa using hj
     refine h5 j _ ?_
     simp only[List.getElem?_map,List.getElem?_eq_getElem hj',Option.map_some,List.getElem_map]
     rw[FN β (List.all_eq_true.1 aT _ (List.getElem_mem hj'))]
   exact wpv (bE bG) hK ⟨β,fp,hf.put bR (fun β' hβ=>by simp[ah]),hw⟩
 case buildSlice ts n ps =>
  unfold Xa at h
  (repeat' split at h) <;> try (cases h;done)
  rename_i _ e ht _ ti jI _ l hl _ c0 mg
  cases h
  obtain⟨Fh,h24,eV⟩:=hc
  obtain⟨d1,pg,iN⟩:=bV V.gI ht
  simp only[ch]at iN
  subst iN
  obtain⟨i,z,hi,hz,o8,HT,CK⟩:=(V.gI e ti jI).info
  have hps:=fun β' hβ=>lP (β':=β') hf hβ hl
  have dO:=oa mg
  rw[Fh]at dO
  have ql:=fun β'=>uU β' ti.size l 0 c0 mg ((Array.range (n * i.size)).map (z.cells[· % z.cells.size]!)) (by rw[Nat.zero_add,Fh];simp[o8])
  have bG:∀ β',bp σ.b.length β β'→(Instr.buildSlice ts n (ps.map fun p=>(p.1,a.eval p.2))).run V.P w=Result.ok (.slice (some ⟨w.heap.size,0,none⟩) n n) (w.alloc (.cells (c0.map (ah β')).toArray e)):=fun β' hβ=>by
   have e2:=hps β' hβ
   by_cases hn:n=0
   ·subst hn
    have F6:l=[]:=zJp Fh
    subst F6
    have fL:c0=[]:=zJp (by rw[dO];simp)
    subst fL
    have e3:(ps.toList.map fun p=>(p.1,a.eval p.2))=[]:=e2
    have e4:Array.range 0=#[]:=rfl
    simp[Instr.buildSlice,run_underlying pg,Go.sizeOf,typeInfo,hi,e3,Instr.fill,newRow,e4]
   ·refine run_buildSlice (P:=V.P) w ts e n (ps.map fun p=>(p.1,a.eval p.2)) (c0.map (ah β')).toArray i z pg hi hz (by rw[o8];omega) (by rw[o8];exact Nat.ne_of_gt (Nat.mul_pos (by omega) eV)) ?_
    have e3:=ql β'
    rw[← o8]at e3
    rw[Array.toList_map,e2,e3]
    congr 1
    apply zJr
    rw[Nat.zero_add,Fh]
    simp
  have Bf:∀ β',bp σ.b.length β β'→c0.map (ah β)=c0.map (ah β'):=fun β' hβ=>by
   have h1:=bG β (bp.refl _ _)
   rw[bG β' hβ]at h1
   injection h1 with _ h1
   have h2:=congrArg (fun w':World=>w'.heap[w.heap.size]?) h1
   simp only[cw]at h2
   have h3:=(Obj.cells.inj (Option.some.inj h2)).1
   have h4:=congrArg Array.toList h3
   exact h4.symm
  have mq:=hw.more (w':=w.alloc (.cells (c0.map (ah β)).toArray e)) ((Below.refl _ _).alloc (zJi _) _) (.own c0 e ti.size n true) ⟨w.heap.size,0,n+1⟩ (·=w.heap.size) (fun β' hβ=>dM (rest:=[]) (fz:=(0,0)) (by
   rw[cw,Bf β' hβ.dp,List.append_nil]) (.inr (.inl (zJi _))) dO (zJi _) (by unfold maxLen;have:n * 1≤n * ti.size:=Nat.mul_le_mul_left _ eV;omega) (by simpa using dO)) (fun k hk=>by subst hk;exact⟨zJi _,by rw[size_alloc];exact zJo _⟩)
  refine wpv (bE (bG β (bp.refl _ _))) hK ⟨_,_,(hf.more (by simp) (dZ _ _ _)).put bR (fun β' hβ=>?_),mq⟩
  simp only[ah]
  rw[← hβ σ.b.length (by simp),fY]
  simp[oV]
end
end Vc
