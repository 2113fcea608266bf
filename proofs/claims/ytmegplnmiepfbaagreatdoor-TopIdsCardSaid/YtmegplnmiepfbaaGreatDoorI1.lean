/- Part 2 of the proof. -/
import Derived.Test.YtmegplnmiepfbaaGreatDoorI0
import Derived.Test.YtmegplnmiepfbaaGreatDoorProg
set_option linter.unusedVariables false
set_option linter.unusedSimpArgs false
set_option linter.defProp false
set_option maxRecDepth 100000
namespace Go.Proofs.YtmegplnmiepfbaaGreatDoor.S
open Go.Sx
noncomputable abbrev P:Program:=Go.Proofs.Tryz.prog
noncomputable def rows:List (Nat×TI):=[(0,⟨.u7 [],1,0,[.tuple #[]],[]⟩),
 (2,⟨.int .i64,1,8,[.int .i64 0],[.int .i64]⟩),
 (3,⟨.int .i64,1,8,[.int .i64 0],[.int .i64]⟩),
 (4,⟨.bool,1,1,[.bool false],[.bool]⟩),
 (5,⟨.int .u8,1,1,[.int .u8 0],[.int .u8]⟩),
 (9,⟨.str,1,16,[.string .empty],[.str]⟩),
 (17,⟨.ptr,1,8,[.pointer none],[.ptr]⟩),
 (20,⟨.iface,1,16,[.nilIface],[.any]⟩),
 (21,⟨.int .i32,1,4,[.int .i32 0],[.int .i32]⟩),
 (22,⟨.slice 5,1,24,[.slice none 0 0],[.sl]⟩),
 (25,⟨.struct [(0,3),(1,3),(2,22)],3,40,[.int .i64 0,.int .i64 0,.slice none 0 0],[.int .i64,.int .i64,.sl]⟩),
 (26,⟨.ptr,1,8,[.pointer none],[.ptr]⟩),
 (28,⟨.slice 51,1,24,[.slice none 0 0],[.sl]⟩),
 (29,⟨.slice 3,1,24,[.slice none 0 0],[.sl]⟩),
 (30,⟨.int .u64,1,8,[.int .u64 0],[.int .u64]⟩),
 (32,⟨.struct [(0,30),(1,30),(2,30),(3,30),(4,30),(5,30)],6,48,[.int .u64 0,.int .u64 0,.int .u64 0,.int .u64 0,.int .u64 0,.int .u64 0],[.int .u64,.int .u64,.int .u64,.int .u64,.int .u64,.int .u64]⟩),
 (34,⟨.struct [(0,3),(1,3),(2,3),(3,3),(4,28),(5,29),(6,32)],12,128,[.int .i64 0,.int .i64 0,.int .i64 0,.int .i64 0,.slice none 0 0,.slice none 0 0,.int .u64 0,.int .u64 0,.int .u64 0,.int .u64 0,.int .u64 0,.int .u64 0],[.int .i64,.int .i64,.int .i64,.int .i64,.sl,.sl,.int .u64,.int .u64,.int .u64,.int .u64,.int .u64,.int .u64]⟩),
 (38,⟨.struct [(0,3),(1,3),(2,3),(3,22)],4,48,[.int .i64 0,.int .i64 0,.int .i64 0,.slice none 0 0],[.int .i64,.int .i64,.int .i64,.sl]⟩),
 (39,⟨.slice 43,1,24,[.slice none 0 0],[.sl]⟩),
 (43,⟨.struct [(0,3),(1,3),(2,3)],3,24,[.int .i64 0,.int .i64 0,.int .i64 0],[.int .i64,.int .i64,.int .i64]⟩),
 (45,⟨.slice 90,1,24,[.slice none 0 0],[.sl]⟩),
 (46,⟨.slice 38,1,24,[.slice none 0 0],[.sl]⟩),
 (49,⟨.slice 4,1,24,[.slice none 0 0],[.sl]⟩),
 (51,⟨.struct [(0,3),(1,3)],2,16,[.int .i64 0,.int .i64 0],[.int .i64,.int .i64]⟩),
 (55,⟨.u7 [3,3,4],1,0,[.tuple #[.int .i64 0,.int .i64 0,.bool false]],[]⟩),
 (64,⟨.slice 34,1,24,[.slice none 0 0],[.sl]⟩),
 (68,⟨.ptr,1,8,[.pointer none],[.ptr]⟩),
 (70,⟨.ptr,1,8,[.pointer none],[.ptr]⟩),
 (72,⟨.struct [(0,3),(1,68),(2,70)],3,24,[.int .i64 0,.pointer none,.pointer none],[.int .i64,.ptr,.ptr]⟩),
 (74,⟨.iface,1,16,[.nilIface],[.any]⟩),
 (76,⟨.ptr,1,8,[.pointer none],[.ptr]⟩),
 (78,⟨.ptr,1,8,[.pointer none],[.ptr]⟩),
 (80,⟨.struct [(0,3),(1,74)],2,24,[.int .i64 0,.nilIface],[.int .i64,.any]⟩),
 (81,⟨.int .u64,1,8,[.int .u64 0],[.int .u64]⟩),
 (82,⟨.u7 [3,22],1,0,[.tuple #[.int .i64 0,.slice none 0 0]],[]⟩),
 (84,⟨.struct [(0,3),(1,3),(2,22)],3,40,[.int .i64 0,.int .i64 0,.slice none 0 0],[.int .i64,.int .i64,.sl]⟩),
 (90,⟨.struct [(0,3),(1,3),(2,3)],3,24,[.int .i64 0,.int .i64 0,.int .i64 0],[.int .i64,.int .i64,.int .i64]⟩),
 (95,⟨.u7 [3,3],1,0,[.tuple #[.int .i64 0,.int .i64 0]],[]⟩),
 (100,⟨.ptr,1,8,[.pointer none],[.ptr]⟩),
 (102,⟨.ptr,1,8,[.pointer none],[.ptr]⟩),
 (103,⟨.ptr,1,8,[.pointer none],[.ptr]⟩),
 (104,⟨.ptr,1,8,[.pointer none],[.ptr]⟩),
 (106,⟨.struct [(0,102),(1,103),(2,104),(3,100),(4,32)],10,80,[.pointer none,.pointer none,.pointer none,.pointer none,.int .u64 0,.int .u64 0,.int .u64 0,.int .u64 0,.int .u64 0,.int .u64 0],[.ptr,.ptr,.ptr,.ptr,.int .u64,.int .u64,.int .u64,.int .u64,.int .u64,.int .u64]⟩),
 (108,⟨.int .i64,1,8,[.int .i64 0],[.int .i64]⟩),
 (112,⟨.u7 [3,74],1,0,[.tuple #[.int .i64 0,.nilIface]],[]⟩),
 (120,⟨.ptr,1,8,[.pointer none],[.ptr]⟩),
 (122,⟨.ptr,1,8,[.pointer none],[.ptr]⟩),
 (123,⟨.ptr,1,8,[.pointer none],[.ptr]⟩),
 (125,⟨.struct [(0,3),(1,3),(2,3),(3,122),(4,123)],5,40,[.int .i64 0,.int .i64 0,.int .i64 0,.pointer none,.pointer none],[.int .i64,.int .i64,.int .i64,.ptr,.ptr]⟩),
 (131,⟨.ptr,1,8,[.pointer none],[.ptr]⟩),
 (133,⟨.slice 303,1,24,[.slice none 0 0],[.sl]⟩),
 (135,⟨.struct [(0,131),(1,133),(2,32)],8,80,[.pointer none,.slice none 0 0,.int .u64 0,.int .u64 0,.int .u64 0,.int .u64 0,.int .u64 0,.int .u64 0],[.ptr,.sl,.int .u64,.int .u64,.int .u64,.int .u64,.int .u64,.int .u64]⟩),
 (137,⟨.struct [(0,3),(1,3),(2,4)],3,24,[.int .i64 0,.int .i64 0,.bool false],[.int .i64,.int .i64,.bool]⟩),
 (138,⟨.u7 [137,4],1,0,[.tuple #[.agg #[.int .i64 0,.int .i64 0,.bool false],.bool false]],[]⟩),
 (140,⟨.u7 [25,3],1,0,[.tuple #[.agg #[.int .i64 0,.int .i64 0,.slice none 0 0],.int .i64 0]],[]⟩),
 (144,⟨.u7 [43,4],1,0,[.tuple #[.agg #[.int .i64 0,.int .i64 0,.int .i64 0],.bool false]],[]⟩),
 (146,⟨.func,1,8,[.nilFunc],[.any]⟩),
 (148,⟨.u7 [3,3,3],1,0,[.tuple #[.int .i64 0,.int .i64 0,.int .i64 0]],[]⟩),
 (150,⟨.u7 [29,74],1,0,[.tuple #[.slice none 0 0,.nilIface]],[]⟩),
 (152,⟨.u7 [28,29,3],1,0,[.tuple #[.slice none 0 0,.slice none 0 0,.int .i64 0]],[]⟩),
 (155,⟨.iface,1,16,[.nilIface],[.any]⟩),
 (158,⟨.other,1,8,[.pointer none],[.ptr]⟩),
 (159,⟨.int .u64,1,8,[.int .u64 0],[.int .u64]⟩),
 (161,⟨.struct [(0,17),(1,158),(2,159)],3,24,[.pointer none,.pointer none,.int .u64 0],[.ptr,.ptr,.int .u64]⟩),
 (164,⟨.int .u8,1,1,[.int .u8 0],[.int .u8]⟩),
 (169,⟨.map,1,8,[.map none],[.map]⟩),
 (171,⟨.struct [(0,3),(1,3),(2,169),(3,29)],4,48,[.int .i64 0,.int .i64 0,.map none,.slice none 0 0],[.int .i64,.int .i64,.map,.sl]⟩),
 (172,⟨.slice 2,1,24,[.slice none 0 0],[.sl]⟩),
 (174,⟨.struct [(0,25),(3,2),(4,172)],5,72,[.int .i64 0,.int .i64 0,.slice none 0 0,.int .i64 0,.slice none 0 0],[.int .i64,.int .i64,.sl,.int .i64,.sl]⟩),
 (175,⟨.arr 6 30,6,48,[.int .u64 0,.int .u64 0,.int .u64 0,.int .u64 0,.int .u64 0,.int .u64 0],[.int .u64,.int .u64,.int .u64,.int .u64,.int .u64,.int .u64]⟩),
 (179,⟨.slice 334,1,24,[.slice none 0 0],[.sl]⟩),
 (180,⟨.map,1,8,[.map none],[.map]⟩),
 (182,⟨.struct [(0,3),(1,179),(2,180),(3,3),(4,3)],5,56,[.int .i64 0,.slice none 0 0,.map none,.int .i64 0,.int .i64 0],[.int .i64,.sl,.map,.int .i64,.int .i64]⟩),
 (183,⟨.u7 [38,3],1,0,[.tuple #[.agg #[.int .i64 0,.int .i64 0,.int .i64 0,.slice none 0 0],.int .i64 0]],[]⟩),
 (185,⟨.u7 [25,74],1,0,[.tuple #[.agg #[.int .i64 0,.int .i64 0,.slice none 0 0],.nilIface]],[]⟩),
 (187,⟨.int .i64,1,8,[.int .i64 0],[.int .i64]⟩),
 (188,⟨.ptr,1,8,[.pointer none],[.ptr]⟩),
 (195,⟨.ptr,1,8,[.pointer none],[.ptr]⟩),
 (197,⟨.struct [(0,103),(1,102),(2,195),(3,30)],4,32,[.pointer none,.pointer none,.pointer none,.int .u64 0],[.ptr,.ptr,.ptr,.int .u64]⟩),
 (198,⟨.u7 [3,4],1,0,[.tuple #[.int .i64 0,.bool false]],[]⟩),
 (202,⟨.ptr,1,8,[.pointer none],[.ptr]⟩),
 (203,⟨.func,1,8,[.nilFunc],[.any]⟩),
 (204,⟨.u7 [3,3,74],1,0,[.tuple #[.int .i64 0,.int .i64 0,.nilIface]],[]⟩),
 (207,⟨.map,1,8,[.map none],[.map]⟩),
 (208,⟨.slice 211,1,24,[.slice none 0 0],[.sl]⟩),
 (211,⟨.struct [(0,3),(1,3),(2,29)],3,40,[.int .i64 0,.int .i64 0,.slice none 0 0],[.int .i64,.int .i64,.sl]⟩),
 (213,⟨.struct [(0,29),(1,29)],2,48,[.slice none 0 0,.slice none 0 0],[.sl,.sl]⟩),
 (214,⟨.u7 [213,3],1,0,[.tuple #[.agg #[.slice none 0 0,.slice none 0 0],.int .i64 0]],[]⟩),
 (216,⟨.u7 [39,28,29,3],1,0,[.tuple #[.slice none 0 0,.slice none 0 0,.slice none 0 0,.int .i64 0]],[]⟩),
 (221,⟨.iface,1,16,[.nilIface],[.any]⟩),
 (224,⟨.iface,1,16,[.nilIface],[.any]⟩),
 (226,⟨.iface,1,16,[.nilIface],[.any]⟩),
 (227,⟨.slice 74,1,24,[.slice none 0 0],[.sl]⟩),
 (231,⟨.iface,1,16,[.nilIface],[.any]⟩),
 (234,⟨.slice 319,1,24,[.slice none 0 0],[.sl]⟩),
 (236,⟨.struct [(0,102),(1,234),(2,2),(3,30)],4,48,[.pointer none,.slice none 0 0,.int .i64 0,.int .u64 0],[.ptr,.sl,.int .i64,.int .u64]⟩),
 (238,⟨.u7 [84,3,3],1,0,[.tuple #[.agg #[.int .i64 0,.int .i64 0,.slice none 0 0],.int .i64 0,.int .i64 0]],[]⟩),
 (240,⟨.ptr,1,8,[.pointer none],[.ptr]⟩),
 (242,⟨.struct [(0,3),(1,74)],2,24,[.int .i64 0,.nilIface],[.int .i64,.any]⟩),
 (245,⟨.slice 248,1,24,[.slice none 0 0],[.sl]⟩),
 (247,⟨.struct [(0,245),(1,3)],2,32,[.slice none 0 0,.int .i64 0],[.sl,.int .i64]⟩),
 (248,⟨.int .u32,1,4,[.int .u32 0],[.int .u32]⟩),
 (249,⟨.u7 [213,74],1,0,[.tuple #[.agg #[.slice none 0 0,.slice none 0 0],.nilIface]],[]⟩),
 (253,⟨.arr 2 3,2,16,[.int .i64 0,.int .i64 0],[.int .i64,.int .i64]⟩),
 (257,⟨.ptr,1,8,[.pointer none],[.ptr]⟩),
 (258,⟨.map,1,8,[.map none],[.map]⟩),
 (260,⟨.struct [(0,3),(1,3),(2,258),(3,28),(4,29)],5,72,[.int .i64 0,.int .i64 0,.map none,.slice none 0 0,.slice none 0 0],[.int .i64,.int .i64,.map,.sl,.sl]⟩),
 (263,⟨.ptr,1,8,[.pointer none],[.ptr]⟩),
 (265,⟨.struct [(0,22),(1,3)],2,32,[.slice none 0 0,.int .i64 0],[.sl,.int .i64]⟩),
 (266,⟨.u7 [84,74],1,0,[.tuple #[.agg #[.int .i64 0,.int .i64 0,.slice none 0 0],.nilIface]],[]⟩),
 (268,⟨.ptr,1,8,[.pointer none],[.ptr]⟩),
 (269,⟨.ptr,1,8,[.pointer none],[.ptr]⟩),
 (271,⟨.struct [(0,3),(1,3),(2,74)],3,32,[.int .i64 0,.int .i64 0,.nilIface],[.int .i64,.int .i64,.any]⟩),
 (273,⟨.ptr,1,8,[.pointer none],[.ptr]⟩),
 (275,⟨.struct [(0,3),(1,74)],2,24,[.int .i64 0,.nilIface],[.int .i64,.any]⟩),
 (276,⟨.u7 [84,4],1,0,[.tuple #[.agg #[.int .i64 0,.int .i64 0,.slice none 0 0],.bool false]],[]⟩),
 (278,⟨.slice 294,1,24,[.slice none 0 0],[.sl]⟩),
 (284,⟨.u7 [22,74],1,0,[.tuple #[.slice none 0 0,.nilIface]],[]⟩),
 (286,⟨.u7 [22,3],1,0,[.tuple #[.slice none 0 0,.int .i64 0]],[]⟩),
 (289,⟨.slice 292,1,24,[.slice none 0 0],[.sl]⟩),
 (292,⟨.struct [(0,3),(1,3)],2,16,[.int .i64 0,.int .i64 0],[.int .i64,.int .i64]⟩),
 (294,⟨.struct [(0,3),(1,3),(2,3)],3,24,[.int .i64 0,.int .i64 0,.int .i64 0],[.int .i64,.int .i64,.int .i64]⟩),
 (296,⟨.slice 21,1,24,[.slice none 0 0],[.sl]⟩),
 (298,⟨.struct [(0,3),(1,2),(2,296)],3,40,[.int .i64 0,.int .i64 0,.slice none 0 0],[.int .i64,.int .i64,.sl]⟩),
 (300,⟨.u7 [3,4,4],1,0,[.tuple #[.int .i64 0,.bool false,.bool false]],[]⟩),
 (303,⟨.struct [(0,2),(1,278),(2,213)],4,80,[.int .i64 0,.slice none 0 0,.slice none 0 0,.slice none 0 0],[.int .i64,.sl,.sl,.sl]⟩),
 (307,⟨.ptr,1,8,[.pointer none],[.ptr]⟩),
 (314,⟨.arr 4 3,4,32,[.int .i64 0,.int .i64 0,.int .i64 0,.int .i64 0],[.int .i64,.int .i64,.int .i64,.int .i64]⟩),
 (317,⟨.func,1,8,[.nilFunc],[.any]⟩),
 (319,⟨.struct [(0,2),(1,29),(2,296)],3,56,[.int .i64 0,.slice none 0 0,.slice none 0 0],[.int .i64,.sl,.sl]⟩),
 (322,⟨.ptr,1,8,[.pointer none],[.ptr]⟩),
 (331,⟨.func,1,8,[.nilFunc],[.any]⟩),
 (334,⟨.struct [(0,253),(2,3),(3,3)],4,32,[.int .i64 0,.int .i64 0,.int .i64 0,.int .i64 0],[.int .i64,.int .i64,.int .i64,.int .i64]⟩),
 (336,⟨.u7 [29,3],1,0,[.tuple #[.slice none 0 0,.int .i64 0]],[]⟩),
 (338,⟨.ptr,1,8,[.pointer none],[.ptr]⟩),
 (340,⟨.struct [(0,84),(3,278),(4,29)],5,88,[.int .i64 0,.int .i64 0,.slice none 0 0,.slice none 0 0,.slice none 0 0],[.int .i64,.int .i64,.sl,.sl,.sl]⟩),
 (341,⟨.u7 [81,81],1,0,[.tuple #[.int .u64 0,.int .u64 0]],[]⟩),
 (349,⟨.slice 353,1,24,[.slice none 0 0],[.sl]⟩),
 (351,⟨.struct [(0,349)],1,24,[.slice none 0 0],[.sl]⟩),
 (353,⟨.struct [(0,3),(1,3)],2,16,[.int .i64 0,.int .i64 0],[.int .i64,.int .i64]⟩),
 (354,⟨.ptr,1,8,[.pointer none],[.ptr]⟩),
 (355,⟨.u7 [354,3,4],1,0,[.tuple #[.pointer none,.int .i64 0,.bool false]],[]⟩),
 (358,⟨.ptr,1,8,[.pointer none],[.ptr]⟩),
 (359,⟨.ptr,1,8,[.pointer none],[.ptr]⟩),
 (363,⟨.struct [(0,84),(3,359),(4,278),(5,29)],6,96,[.int .i64 0,.int .i64 0,.slice none 0 0,.pointer none,.slice none 0 0,.slice none 0 0],[.int .i64,.int .i64,.sl,.ptr,.sl,.sl]⟩),
 (367,⟨.u7 [30,30],1,0,[.tuple #[.int .u64 0,.int .u64 0]],[]⟩),
 (370,⟨.func,1,8,[.nilFunc],[.any]⟩),
 (372,⟨.int .i64,1,8,[.int .i64 0],[.int .i64]⟩),
 (373,⟨.u7 [3,372],1,0,[.tuple #[.int .i64 0,.int .i64 0]],[]⟩),
 (385,⟨.struct [(0,29),(1,3)],2,32,[.slice none 0 0,.int .i64 0],[.sl,.int .i64]⟩),
 (386,⟨.arr 256 385,512,8192,([]++(List.replicate 256 [.slice none 0 0,.int .i64 0]).flatten),([]++(List.replicate 256 [.sl,.int .i64]).flatten)⟩),
 (388,⟨.struct [(0,3),(1,3),(2,386)],514,8208,([.int .i64 0,.int .i64 0]++(List.replicate 256 [.slice none 0 0,.int .i64 0]).flatten),([.int .i64,.int .i64]++(List.replicate 256 [.sl,.int .i64]).flatten)⟩),
 (390,⟨.int .u64,1,8,[.int .u64 0],[.int .u64]⟩),
 (393,⟨.ptr,1,8,[.pointer none],[.ptr]⟩),
 (397,⟨.ptr,1,8,[.pointer none],[.ptr]⟩),
 (400,⟨.ptr,1,8,[.pointer none],[.ptr]⟩)]
noncomputable def T:uT:=aaG rows
noncomputable def fns:List Nat:=[3,4,5,6,7,8,9,10,11,12,13,14,15,16,17,18,19,20,21,22,23,24,25,26,27,28,29,30,31,32,33,34,35,36,37,38,39,40,41,42,43,44,45,46,47,48,49,50,51,52,53,54,55,56,57,58,59,60,61,62,63,64,65,66,67,68,69,70,71,72,73,74,75,76,77,78,79,80,81,82,83,84,85,86,87,88,89,90,91,92,93,94,96,100,101,102,103,104,105,106,107,108,109,110,111,112,113,114,115,116,117,118,119,120,121,122,123,124,125,126,127,128,129,130,131,132,133,134,135,136,137,140,141,142,143,144,145,146,147,148,149,150,151,152,153,154,155,156,157,158,159,160,161,162,163,164,165,166,167,168,169,170,171,172,173,174,175,176,177,178,179,180,181,182,183,184,185,186,187,188,189,190,191,192,193,194,195,196,197,198,199,200,201,202,203,204,205,206,207,208,209,210,211,212,213,214,215,216,217,218,220,221,222,223,224,225,226,227,228,229,230,231,232,233,234,235,236,237,238,240,241,242,243,244,245,246,247,248,249,250,252,253,254,255,256,257,258,259,260,261,262,263,264,265,266,267,268,269,270,271,272,273,274,275,276,277,278,279,280,281,282,302,321,323,325]
noncomputable def cx (n:Nat):Cx:=⟨P,T,λf=>o6 f fns,n⟩
def HI:rows.map (λp=>UL P p.1)=rows.map (λp=>some (p.2.d,p.2.size,p.2.bytes,p.2.zero)):=by kernel_rfl
def aui:alm P fns=true:=by kernel_rfl
def ap4:P.follows .mixedOrders=true:=by kernel_rfl
def ok (n:Nat):mO (cx n):=asI HI aui ap4 n
abbrev Bk (n:Nat)(fn:Func)(K:Value->World->Prop)(j:Nat)(l:List (Nat×Kd))(B:KP l):Prop:=Y9 (cx n) fn (ahF (cx n) fn K) j l B
def cf:=bH (.o .b)
def BZ:=λb c d e f g i j w (Q:Bool->WP)=>aq P 4 #[ae b,ae c,.slice d e f,.slice g i j] w (cf Q)
def Mt:=bH (.o (.i .i64))
def a_:=λb c d w (Q:Int->WP)=>aq P 10 #[ae b,ae c,ae d] w (Mt Q)
def ajI:=bH (.o .p)
def Ex:=λb c w (Q:OA->WP)=>aq P 11 #[ae b,ae c] w (ajI Q)
def IT:=bH (.g [.i .i64,.i .i64,.i .i64,.i .i64,.l,.l,.i .u64,.i .u64,.i .u64,.i .u64,.i .u64,.i .u64])
def jl:=λb c d e f g i w (Q:Int->Int->Int->Int->L3 (L3 (Int->Int->Int->Int->Int->Int->WP)))=>aq P 12 #[.pointer b,.agg #[ae c,ae d,ae e,.slice f g i]] w (IT Q)
def Dr:=bH (.o .l)
def lK:=λb c d e f w (Q:L3 WP)=>aq P 13 #[.agg #[ae b,ae c,.slice d e f]] w (Dr Q)
def Ph:=bH (.o .l)
def qv:=λb w (Q:L3 WP)=>aq P 14 #[.pointer b] w (Ph Q)
def Pj:=bH (.o .b)
def wv:=λw (Q:Bool->WP)=>aq P 15 #[] w (Pj Q)
def fP:=bH (.o .l)
def vh:=λb c d e f g i j w (Q:L3 WP)=>aq P 16 #[ae b,ae c,.slice d e f,.slice g i j] w (fP Q)
def TT:=bH (.o .l)
def yV:=λb c d e w (Q:L3 WP)=>aq P 17 #[.slice b c d,ae e] w (TT Q)
def CU:=bH (.o (.i .i64))
def oh:=λb c d e w (Q:Int->WP)=>aq P 21 #[ae b,ae c,ae d,ae e] w (CU Q)
def Pm:=bH (.g [.i .u64,.i .u64,.i .u64,.i .u64,.i .u64,.i .u64])
def wB:=λb w (Q:Int->Int->Int->Int->Int->Int->WP)=>aq P 22 #[.pointer b] w (Pm Q)
def Og:=bH (.o (.i .i64))
def pE:=λb c w (Q:Int->WP)=>aq P 23 #[ae b,ae c] w (Og Q)
def ajJ:=bH (.o .p)
def Jq:=λb w (Q:OA->WP)=>aq P 27 #[ae b] w (ajJ Q)
def B0:=bH (.o .w)
def Ab:=λb c d e f g i j w (Q:Value->WP)=>aq P 28 #[.pointer b,.agg #[ae c,ae d,ae e,.slice f g i],.pointer j] w (B0 Q)
def ahH:=bH (.o (.i .i64))
def CV:=λb w (Q:Int->WP)=>aq P 29 #[b] w (ahH Q)
def K3:=gm [.o (.i .i64),.o .l]
def s_:=λb c d e f w (Q:Int->L3 WP)=>aq P 30 #[.agg #[ae b,ae c,.slice d e f]] w (K3 Q)
def Ds:=bH (.g [.i .i64,.i .i64,.l])
def t_:=λb c d e f g w (Q:Int->Int->L3 WP)=>aq P 31 #[.agg #[ae b,ae c,.slice d e f],ae g] w (Ds Q)
def TU:=bH (.o .p)
def Fo:=λb w (Q:OA->WP)=>aq P 32 #[.pointer b] w (TU Q)
def Pn:=bH (.o .l)
def m6:=λb w (Q:L3 WP)=>aq P 33 #[.pointer b] w (Pn Q)
def Dt:=bH (.o .b)
def ug:=λb c d e f g w (Q:Bool->WP)=>aq P 34 #[.slice b c d,.slice e f g] w (Dt Q)
def sw:=bH (.g [.i .i64,.i .i64,.l])
def qw:=λb c d e f w (Q:Int->Int->L3 WP)=>aq P 35 #[ae b,ae c,.slice d e f] w (sw Q)
def Po:=bH (.o (.i .u8))
def qx:=λb w (Q:Int->WP)=>aq P 36 #[.int .u8 b] w (Po Q)
def Fp:=bH (.g [.i .i64,.i .i64,.i .i64,.l])
def wC:=λb c d e w (Q:Int->Int->Int->L3 WP)=>aq P 37 #[.agg #[ae b,ae c,ae d],ae e] w (Fp Q)
def TV:=bH (.o .p)
def Fq:=λb w (Q:OA->WP)=>aq P 39 #[.pointer b] w (TV Q)
def aaW:=gm [.o (.i .i64),.o (.i .i64)]
def tE:=λb c d w (Q:Int->Int->WP)=>aq P 41 #[ae b,ae c,ae d] w (aaW Q)
def ac4:=bH (.o (.i .i64))
def Ac:=λb c d e w (Q:Int->WP)=>aq P 42 #[ae b,ae c,ae d,ae e] w (ac4 Q)
def Xz:=bH (.g [.i .u64,.i .u64,.i .u64,.i .u64,.i .u64,.i .u64])
def A8:=λb w (Q:Int->Int->Int->Int->Int->Int->WP)=>aq P 43 #[.pointer b] w (Xz Q)
def K4:=gm [.o (.i .i64),.o (.i .i64)]
def kU:=λb c w (Q:Int->Int->WP)=>aq P 44 #[ae b,ae c] w (K4 Q)
def afS:=bH (.o .p)
def Gb:=λb w (Q:OA->WP)=>aq P 47 #[ae b] w (afS Q)
def alq:=bH (.o .b)
def K5:=λb c d e f g w (Q:Bool->WP)=>aq P 48 #[.agg #[ae b,ae c,ae d,.slice e f g]] w (alq Q)
def Fs:=bH (.o .w)
def wD:=λb c d e f g i w (Q:Value->WP)=>aq P 49 #[.pointer b,.agg #[ae c,ae d,ae e,.slice f g i]] w (Fs Q)
def RD:=bH (.o .w)
def xV:=λb c d e w (Q:Value->WP)=>aq P 50 #[.pointer b,.slice c d e] w (RD Q)
def XA:=gm []
def vO:=λb w (Q:WP)=>aq P 51 #[.pointer b] w (XA Q)
def Gc:=bH (.o .w)
def xW:=λb c d w (Q:Value->WP)=>aq P 52 #[.pointer b,ae c,ae d] w (Gc Q)
def Pp:=gm [.o (.i .i64),.o .w]
def wE:=λb c d w (Q:Int->Value->WP)=>aq P 53 #[.pointer b,ae c,ae d] w (Pp Q)
def ac5:=bH (.o .w)
def gx:=λb w (Q:Value->WP)=>aq P 54 #[ae b] w (ac5 Q)
def K6:=bH (.o (.i .i64))
def tf:=λb c d w (Q:Int->WP)=>aq P 55 #[.pointer b,ae c,ae d] w (K6 Q)
def Mu:=bH (.o (.i .i64))
def uh:=λb c w (Q:Int->WP)=>aq P 56 #[.pointer b,ae c] w (Mu Q)
def Pq:=bH (.o .w)
def wF:=λb c d e w (Q:Value->WP)=>aq P 57 #[.pointer b,.pointer c,ae d,ae e] w (Pq Q)
def RE:=bH (.o .w)
def xX:=λb c w (Q:Value->WP)=>aq P 58 #[.pointer b,.pointer c] w (RE Q)
def afT:=bH (.o .b)
def pF:=λb c w (Q:Bool->WP)=>aq P 59 #[b,c] w (afT Q)
def Jr:=bH (.o .b)
def nG:=λb c w (Q:Bool->WP)=>aq P 60 #[b,c] w (Jr Q)
def lW:=bH (.o .l)
def wG:=λb c d w (Q:L3 WP)=>aq P 61 #[.slice b c d] w (lW Q)
def Pt:=gm [.o (.i .i64),.o (.i .i64)]
def qy:=λb c d w (Q:Int->Int->WP)=>aq P 62 #[ae b,ae c,ae d] w (Pt Q)
def Mv:=bH (.o (.i .i64))
def uj:=λb c d e w (Q:Int->WP)=>aq P 63 #[ae b,ae c,ae d,ae e] w (Mv Q)
def Hl:=bH (.o .l)
def yW:=λb w (Q:L3 WP)=>aq P 64 #[.pointer b] w (Hl Q)
def RF:=bH (.o .b)
def xY:=λb c w (Q:Bool->WP)=>aq P 65 #[ae b,ae c] w (RF Q)
def ahI:=bH (.o .b)
def yX:=λb c d w (Q:Bool->WP)=>aq P 68 #[ae b,ae c,ae d] w (ahI Q)
def afU:=bH (.o .b)
def lN:=λb c w (Q:Bool->WP)=>aq P 69 #[ae b,ae c] w (afU Q)
def Js:=bH (.g [.i .u64,.i .u64,.i .u64,.i .u64,.i .u64,.i .u64])
def xe:=λb c d e f g i j l m n o w (Q:Int->Int->Int->Int->Int->Int->WP)=>aq P 70 #[.agg #[.int .u64 b,.int .u64 c,.int .u64 d,.int .u64 e,.int .u64 f,.int .u64 g],.agg #[.int .u64 i,.int .u64 j,.int .u64 l,.int .u64 m,.int .u64 n,.int .u64 o]] w (Js Q)
def Vb:=bH (.g [.i .u64,.i .u64,.i .u64,.i .u64,.i .u64,.i .u64])
def uk:=λb w (Q:Int->Int->Int->Int->Int->Int->WP)=>aq P 71 #[.pointer b] w (Vb Q)
def Pu:=bH (.g [.i .u64,.i .u64,.i .u64,.i .u64,.i .u64,.i .u64])
def wH:=λb w (Q:Int->Int->Int->Int->Int->Int->WP)=>aq P 72 #[.pointer b] w (Pu Q)
def ajK:=bH (.o .p)
def Jt:=λb w (Q:OA->WP)=>aq P 74 #[ae b] w (ajK Q)
def alr:=bH (.o .b)
def K7:=λb c d w (Q:Bool->WP)=>aq P 75 #[.slice b c d] w (alr Q)
def Ju:=gm [.g [.i .i64,.i .i64,.b],.o .b]
def xg:=λb w (Q:Int->Int->Bool->Bool->WP)=>aq P 76 #[ae b] w (Ju Q)
def ajL:=bH (.o .b)
def AQ:=λb c w (Q:Bool->WP)=>aq P 77 #[ae b,ae c] w (ajL Q)
def Y_:=bH (.o (.i .i64))
def rU:=λb c w (Q:Int->WP)=>aq P 78 #[.pointer b,ae c] w (Y_ Q)
def afV:=gm [.g [.i .i64,.i .i64,.l],.o (.i .i64)]
def Gd:=λb c d w (Q:Int->Int->L3 (Int->WP))=>aq P 79 #[.slice b c d] w (afV Q)
def Za:=bH (.o (.i .i64))
def B2:=λb c d e f g w (Q:Int->WP)=>aq P 80 #[.pointer b,.agg #[ae c,ae d,.slice e f g]] w (Za Q)
def afW:=bH (.o .p)
def Ge:=λb c d w (Q:OA->WP)=>aq P 81 #[ae b,ae c,ae d] w (afW Q)
def Pv:=gm []
def qz:=λb w (Q:WP)=>aq P 82 #[.pointer b] w (Pv Q)
def Pw:=gm []
def qA:=λb w (Q:WP)=>aq P 83 #[.pointer b] w (Pw Q)
def TX:=bH (.o (.i .i64))
def yY:=λb c w (Q:Int->WP)=>aq P 84 #[.pointer b,ae c] w (TX Q)
def Zb:=bH (.o (.i .i64))
def B3:=λb c d w (Q:Int->WP)=>aq P 85 #[.pointer b,ae c,ae d] w (Zb Q)
def Px:=gm [.o (.i .i64),.o (.i .i64)]
def wI:=λb c d w (Q:Int->Int->WP)=>aq P 86 #[.pointer b,ae c,ae d] w (Px Q)
def TY:=gm [.g [.i .i64,.i .i64,.i .i64],.o .b]
def iS:=λb c w (Q:Int->Int->Int->Bool->WP)=>aq P 87 #[.pointer b,ae c] w (TY Q)
def Vc:=bH (.o .b)
def pG:=λb c w (Q:Bool->WP)=>aq P 88 #[.pointer b,ae c] w (Vc Q)
def sy:=bH (.o (.i .i64))
def m7:=λb c d e w (Q:Int->WP)=>aq P 89 #[.pointer b,ae c,ae d,ae e] w (sy Q)
def RG:=gm []
def nP:=λb c d e w (Q:WP)=>aq P 90 #[.pointer b,.agg #[ae c,ae d,ae e]] w (RG Q)
def TZ:=bH (.o .b)
def yZ:=λb c d w (Q:Bool->WP)=>aq P 91 #[.pointer b,ae c,ae d] w (TZ Q)
def Zc:=gm [.o (.i .i64),.o (.i .i64),.o (.i .i64)]
def B4:=λb c d w (Q:Int->Int->Int->WP)=>aq P 92 #[.pointer b,ae c,ae d] w (Zc Q)
def jm:=gm [.o .l,.o .w]
def xZ:=λb c d e w (Q:L3 (Value->WP))=>aq P 93 #[.pointer b,.slice c d e] w (jm Q)
def um:=gm [.o .l,.o .l,.o (.i .i64)]
def x6:=λb c d e w (Q:L3 (L3 (Int->WP)))=>aq P 94 #[.pointer b,.slice c d e] w (um Q)
def qf:=bH (.o .b)
def xh:=λb c d w (Q:Bool->WP)=>aq P 96 #[b,c,.bool d] w (qf Q)
def wT:=bH (.o .b)
def Gf:=λb c d e f g w (Q:Bool->WP)=>aq P 100 #[b,c,.agg #[.pointer d,.pointer e,.int .u64 f],g] w (wT Q)
def T0:=bH (.o .b)
def lX:=λb c d w (Q:Bool->WP)=>aq P 101 #[ae b,ae c,ae d] w (T0 Q)
def Ft:=bH (.o .l)
def qB:=λb w (Q:L3 WP)=>aq P 102 #[.pointer b] w (Ft Q)
def Jv:=bH (.o .l)
def mQ:=λb c d w (Q:L3 WP)=>aq P 103 #[.slice b c d] w (Jv Q)
def Zd:=bH (.g [.i .u64,.i .u64,.i .u64,.i .u64,.i .u64,.i .u64])
def cY:=λb c d e f g w (Q:Int->Int->Int->Int->Int->Int->WP)=>aq P 104 #[.agg #[.int .u64 b,.int .u64 c,.int .u64 d,.int .u64 e,.int .u64 f,.int .u64 g]] w (Zd Q)
def afX:=bH (.o (.i .u64))
def sA:=λb c w (Q:Int->WP)=>aq P 105 #[.int .u64 b,.int .u64 c] w (afX Q)
def T1:=bH (.o (.i .u64))
def sB:=λb w (Q:Int->WP)=>aq P 106 #[.pointer b] w (T1 Q)
def Oh:=bH (.o (.i .u64))
def pH:=λb w (Q:Int->WP)=>aq P 107 #[.pointer b] w (Oh Q)
def XB:=gm []
def vQ:=λb w (Q:WP)=>aq P 108 #[.pointer b] w (XB Q)
def ajM:=gm [.g [.i .i64,.i .i64,.i .i64,.l],.o (.i .i64)]
def Jw:=λb c d w (Q:Int->Int->Int->L3 (Int->WP))=>aq P 109 #[.slice b c d] w (ajM Q)
def Vd:=bH (.o (.i .i64))
def fg:=λb c w (Q:Int->WP)=>aq P 110 #[.pointer b,ae c] w (Vd Q)
def Py:=gm [.g [.i .i64,.i .i64,.l],.o .w]
def ET:=λb c d w (Q:Int->Int->L3 (Value->WP))=>aq P 111 #[.slice b c d] w (Py Q)
def afY:=bH (.o .b)
def Bp:=λb c d e f w (Q:Bool->WP)=>aq P 112 #[.agg #[ae b,ae c,.slice d e f]] w (afY Q)
def Ve:=bH (.o .p)
def HJ:=λb c d e f g w (Q:OA->WP)=>aq P 113 #[.agg #[ae b,ae c,.slice d e f],ae g] w (Ve Q)
def T2:=bH (.o (.i .i64))
def gf:=λb w (Q:Int->WP)=>aq P 114 #[.pointer b] w (T2 Q)
def ahJ:=bH (.o .p)
def HK:=λb w (Q:OA->WP)=>aq P 115 #[.pointer b] w (ahJ Q)
def afZ:=bH (.o .p)
def Gg:=λb c w (Q:OA->WP)=>aq P 116 #[.pointer b,.pointer c] w (afZ Q)
def af0:=bH (.o .p)
def Gh:=λb w (Q:OA->WP)=>aq P 117 #[ae b] w (af0 Q)
def af1:=bH (.o .p)
def Gi:=λb w (Q:OA->WP)=>aq P 118 #[ae b] w (af1 Q)
def T3:=bH (.o (.i .i64))
def lY:=λb c w (Q:Int->WP)=>aq P 119 #[.pointer b,ae c] w (T3 Q)
def Vf:=bH (.o (.i .i64))
def Ad:=λb c d w (Q:Int->WP)=>aq P 120 #[.pointer b,ae c,ae d] w (Vf Q)
def T4:=gm [.o (.i .i64),.o .b]
def y6:=λb c d w (Q:Int->Bool->WP)=>aq P 121 #[.pointer b,ae c,ae d] w (T4 Q)
def T5:=bH (.o .b)
def sC:=λb c d w (Q:Bool->WP)=>aq P 122 #[.pointer b,ae c,ae d] w (T5 Q)
def Ze:=bH (.o (.i .i64))
def ee:=λb c d w (Q:Int->WP)=>aq P 123 #[ae b,ae c,ae d] w (Ze Q)
def T6:=bH (.o (.i .i64))
def y7:=λb w (Q:Int->WP)=>aq P 124 #[.pointer b] w (T6 Q)
def RH:=bH (.o .b)
def x7:=λb c w (Q:Bool->WP)=>aq P 125 #[.pointer b,ae c] w (RH Q)
def RI:=bH (.o (.i .i64))
def rH:=λb c w (Q:Int->WP)=>aq P 126 #[.pointer b,ae c] w (RI Q)
def T7:=bH (.o .b)
def sD:=λb c d w (Q:Bool->WP)=>aq P 127 #[.pointer b,ae c,d] w (T7 Q)
def Pz:=gm []
def Du:=λb c w (Q:WP)=>aq P 128 #[.pointer b,.pointer c] w (Pz Q)
def Zf:=gm [.o (.i .i64),.o (.i .i64),.o .w]
def B5:=λb c d w (Q:Int->Int->Value->WP)=>aq P 129 #[.pointer b,ae c,ae d] w (Zf Q)
def ahK:=bH (.o (.i .i64))
def y8:=λb w (Q:Int->WP)=>aq P 130 #[b] w (ahK Q)
def Zg:=gm [.o (.i .i64),.o (.i .i64)]
def xj:=λb w (Q:Int->Int->WP)=>aq P 131 #[.pointer b] w (Zg Q)
def aaX:=bH (.o (.i .i64))
def nC:=λb c d w (Q:Int->WP)=>aq P 132 #[ae b,ae c,ae d] w (aaX Q)
def y9:=bH (.o .l)
def EU:=λb c d e f w (Q:L3 WP)=>aq P 133 #[ae b,ae c,.slice d e f] w (y9 Q)
def XC:=gm [.g [.l,.l],.o (.i .i64)]
def vS:=λb c d w (Q:L3 (L3 (Int->WP)))=>aq P 134 #[.pointer b,ae c,ae d] w (XC Q)
def K8:=gm [.o .l,.o .l,.o .l,.o (.i .i64)]
def HL:=λb c d e f g i j w (Q:L3 (L3 (L3 (Int->WP))))=>aq P 135 #[ae b,ae c,.slice d e f,.slice g i j] w (K8 Q)
def PA:=bH (.o .b)
def wJ:=λb c d w (Q:Bool->WP)=>aq P 136 #[.pointer b,ae c,ae d] w (PA Q)
def RJ:=bH (.o .b)
def x8:=λb c d w (Q:Bool->WP)=>aq P 137 #[.pointer b,ae c,ae d] w (RJ Q)
def Tq:=bH (.o (.i .i64))
def xk:=λb c d w (Q:Int->WP)=>aq P 140 #[.slice b c d] w (Tq Q)
def ac6:=bH (.o (.i .i64))
def EV:=λb c w (Q:Int->WP)=>aq P 141 #[ae b,ae c] w (ac6 Q)
def ac7:=gm [.o (.i .i64),.o (.i .i64)]
def om:=λb c d w (Q:Int->Int->WP)=>aq P 142 #[ae b,ae c,ae d] w (ac7 Q)
def Vg:=gm [.g [.i .i64,.i .i64,.l],.o (.i .i64),.o (.i .i64)]
def HM:=λb c d e f w (Q:Int->Int->L3 (Int->Int->WP))=>aq P 143 #[.slice b c d,ae e,ae f] w (Vg Q)
def Tr:=gm []
def Gj:=λb c d e f g i j l m n w (Q:WP)=>aq P 144 #[.agg #[ae b,ae c,.slice d e f],ae g,.agg #[ae i,ae j,.slice l m n]] w (Tr Q)
def He:=bH (.o .b)
def iY:=λb c d e w (Q:Bool->WP)=>aq P 145 #[.slice b c d,.int .u8 e] w (He Q)
def XD:=gm [.o (.i .i64),.o (.i .i64)]
def lC:=λb c w (Q:Int->Int->WP)=>aq P 146 #[ae b,ae c] w (XD Q)
def Vh:=gm [.o (.i .i64),.o (.i .i64)]
def eS:=λb w (Q:Int->Int->WP)=>aq P 147 #[.pointer b] w (Vh Q)
def Vi:=bH (.o .b)
def uo:=λb c w (Q:Bool->WP)=>aq P 148 #[.pointer b,ae c] w (Vi Q)
def RK:=bH (.o .b)
def rI:=λb c w (Q:Bool->WP)=>aq P 149 #[.pointer b,ae c] w (RK Q)
def yE:=gm [.g [.l,.l],.o .w]
def vT:=λb c d w (Q:L3 (L3 (Value->WP)))=>aq P 150 #[.pointer b,ae c,ae d] w (yE Q)
def Vj:=bH (.o .b)
def CW:=λb c d e f w (Q:Bool->WP)=>aq P 151 #[ae b,ae c,.slice d e f] w (Vj Q)
def PB:=bH (.o .l)
def EW:=λb c d w (Q:L3 WP)=>aq P 152 #[.slice b c d] w (PB Q)
def ac8:=bH (.o .b)
def K9:=λb w (Q:Bool->WP)=>aq P 153 #[ae b] w (ac8 Q)
def FV:=bH (.o .b)
def nQ:=λb c d e w (Q:Bool->WP)=>aq P 154 #[.slice b c d,e] w (FV Q)
def Gk:=bH (.o .b)
def x9:=λb c d w (Q:Bool->WP)=>aq P 155 #[.pointer b,.pointer c,ae d] w (Gk Q)
def Oi:=gm []
def B6:=λb c w (Q:WP)=>aq P 156 #[.pointer b,.pointer c] w (Oi Q)
def Zh:=gm [.o (.i .i64),.o (.i .i64),.o .b]
def xl:=λb c d w (Q:Int->Int->Bool->WP)=>aq P 157 #[ae b,ae c,ae d] w (Zh Q)
def Ae:=gm [.g [.i .i64,.i .i64,.l],.o .w]
def x_:=λb c d w (Q:Int->Int->L3 (Value->WP))=>aq P 158 #[.pointer b,ae c,ae d] w (Ae Q)
def Zi:=bH (.o (.i .i64))
def ow:=λb c d e w (Q:Int->WP)=>aq P 159 #[ae b,ae c,ae d,ae e] w (Zi Q)
def AR:=bH (.o (.i .i64))
def y_:=λb c d e w (Q:Int->WP)=>aq P 160 #[.slice b c d,.int .u8 e] w (AR Q)
def IU:=gm [.g [.i .i64,.i .i64,.l],.o .b]
def uu:=λb c w (Q:Int->Int->L3 (Bool->WP))=>aq P 161 #[.pointer b,ae c] w (IU Q)
def Af:=bH (.o .l)
def B7:=λb c d w (Q:L3 WP)=>aq P 162 #[.pointer b,.pointer c,ae d] w (Af Q)
def za:=bH (.o .p)
def wK:=λb c w (Q:OA->WP)=>aq P 163 #[.pointer b,ae c] w (za Q)
def nK:=gm [.g [.l,.l],.o (.i .i64)]
def ox:=λb c d e f g i j l m n o w (Q:L3 (L3 (Int->WP)))=>aq P 164 #[.pointer b,ae c,ae d,ae e,.agg #[ae f,ae g,.slice i j l],.slice m n o] w (nK Q)
def PC:=bH (.o (.i .i64))
def jc:=λb c w (Q:Int->WP)=>aq P 165 #[.pointer b,ae c] w (PC Q)
def ze:=bH (.o (.i .i64))
def xm:=λb c d e w (Q:Int->WP)=>aq P 166 #[.slice b c d,e] w (ze Q)
def RL:=gm [.o .l,.o .w]
def yc:=λb c w (Q:L3 (Value->WP))=>aq P 167 #[.pointer b,ae c] w (RL Q)
def ahL:=gm [.o .l,.o (.i .i64)]
def HN:=λb c d e f w (Q:L3 (Int->WP))=>aq P 168 #[.agg #[ae b,ae c,.slice d e f]] w (ahL Q)
def aaY:=bH (.o .b)
def DI:=λb c d e f g w (Q:Bool->WP)=>aq P 169 #[.slice b c d,.slice e f g] w (aaY Q)
def PD:=bH (.o (.i .i64))
def wL:=λb w (Q:Int->WP)=>aq P 170 #[.pointer b] w (PD Q)
def K_:=bH (.o .l)
def oy:=λb c w (Q:L3 WP)=>aq P 171 #[.pointer b,ae c] w (K_ Q)
def La:=bH (.o .l)
def B8:=λb c w (Q:L3 WP)=>aq P 172 #[.pointer b,ae c] w (La Q)
def Vk:=bH (.o (.i .i64))
def Ag:=λb c w (Q:Int->WP)=>aq P 173 #[.pointer b,ae c] w (Vk Q)
def PE:=bH (.o (.i .i64))
def EX:=λb c d e w (Q:Int->WP)=>aq P 174 #[ae b,ae c,ae d,ae e] w (PE Q)
def RM:=bH (.o (.i .i64))
def yd:=λb w (Q:Int->WP)=>aq P 175 #[.pointer b] w (RM Q)
def ac9:=bH (.o .l)
def kI:=λb c d w (Q:L3 WP)=>aq P 176 #[.slice b c d] w (ac9 Q)
def Fu:=bH (.o (.i .i64))
def wM:=λb w (Q:Int->WP)=>aq P 177 #[.pointer b] w (Fu Q)
def jd:=bH (.o .p)
def uw:=λb c w (Q:OA->WP)=>aq P 178 #[.pointer b,ae c] w (jd Q)
def af2:=bH (.o .b)
def Bq:=λb c d e f g i j w (Q:Bool->WP)=>aq P 179 #[.agg #[ae b,ae c,.slice d e f],.slice g i j] w (af2 Q)
def Np:=gm [.o (.i .i64),.o .b,.o .b]
def DJ:=λb c d w (Q:Int->Bool->Bool->WP)=>aq P 180 #[.pointer b,ae c,ae d] w (Np Q)
def ac_:=bH (.o .b)
def EY:=λb c d e f g w (Q:Bool->WP)=>aq P 181 #[.slice b c d,.slice e f g] w (ac_ Q)
def af3:=gm []
def sE:=λb w (Q:WP)=>aq P 182 #[.pointer b] w (af3 Q)
def af4:=bH (.g [.l,.l])
def Br:=λb c d e f g w (Q:L3 (L3 WP))=>aq P 183 #[.agg #[.slice b c d,.slice e f g]] w (af4 Q)
def Nq:=gm [.g [.l,.l],.o (.i .i64)]
def DK:=λb c d e f g i j w (Q:L3 (L3 (Int->WP)))=>aq P 184 #[.agg #[ae b,ae c,.slice d e f],.slice g i j] w (Nq Q)
def DL:=bH (.o .l)
def jn:=λb c d w (Q:L3 WP)=>aq P 185 #[.slice b c d] w (DL Q)
def RN:=gm [.o .l,.o .w]
def nR:=λb c w (Q:L3 (Value->WP))=>aq P 186 #[.pointer b,ae c] w (RN Q)
def PF:=gm [.o .l,.o .w]
def qC:=λb c w (Q:L3 (Value->WP))=>aq P 187 #[.pointer b,ae c] w (PF Q)
def Ah:=bH (.o .l)
def rV:=λb c d e w (Q:L3 WP)=>aq P 188 #[.slice b c d,ae e] w (Ah Q)
def ux:=gm [.o .l,.o .w]
def ye:=λb c w (Q:L3 (Value->WP))=>aq P 189 #[.pointer b,ae c] w (ux Q)
def ahM:=bH (.o .b)
def uX:=λb c d e f w (Q:Bool->WP)=>aq P 190 #[.agg #[ae b,ae c,.slice d e f]] w (ahM Q)
def CX:=gm [.o (.i .i64),.o .l]
def EZ:=λb c d e f w (Q:Int->L3 WP)=>aq P 191 #[.agg #[ae b,ae c,.slice d e f]] w (CX Q)
def vi:=bH (.o .l)
def B9:=λb c d w (Q:L3 WP)=>aq P 192 #[ae b,ae c,ae d] w (vi Q)
def aaZ:=bH (.o .b)
def tF:=λb c w (Q:Bool->WP)=>aq P 193 #[.pointer b,ae c] w (aaZ Q)
def Zj:=bH (.g [.i .i64,.i .i64,.i .i64,.i .i64])
def xo:=λw (Q:Int->Int->Int->Int->WP)=>aq P 194 #[] w (Zj Q)
def aa0:=bH (.o (.i .i64))
def yF:=λb c d e w (Q:Int->WP)=>aq P 195 #[ae b,ae c,ae d,ae e] w (aa0 Q)
def BH:=gm []
def kV:=λb c d e w (Q:WP)=>aq P 196 #[.slice b c d,e] w (BH Q)
def aa1:=bH (.o (.i .i64))
def DM:=λb c d e f g w (Q:Int->WP)=>aq P 197 #[.agg #[ae b,ae c,ae d],.agg #[ae e,ae f,ae g]] w (aa1 Q)
def jo:=bH (.o .l)
def lD:=λb c d w (Q:L3 WP)=>aq P 198 #[.slice b c d] w (jo Q)
def Ho:=bH (.o .l)
def zf:=λb w (Q:L3 WP)=>aq P 199 #[.pointer b] w (Ho Q)
def xp:=bH (.g [.i .i64,.l,.l])
def Ai:=λb c w (Q:Int->L3 (L3 WP))=>aq P 200 #[.pointer b,ae c] w (xp Q)
def qo:=bH (.o .l)
def o7:=λb c d e w (Q:L3 WP)=>aq P 201 #[.slice b c d,ae e] w (qo Q)
def ahN:=bH (.o .p)
def CY:=λw (Q:OA->WP)=>aq P 202 #[] w (ahN Q)
def kA:=bH (.o .m)
def uy:=λb c w (Q:ON->WP)=>aq P 203 #[.pointer b,ae c] w (kA Q)
def T8:=bH (.o .l)
def zg:=λb c w (Q:L3 WP)=>aq P 204 #[.pointer b,ae c] w (T8 Q)
def RO:=bH (.o .b)
def rJ:=λb c d w (Q:Bool->WP)=>aq P 205 #[.pointer b,ae c,ae d] w (RO Q)
def Vl:=gm []
def mR:=λb c d w (Q:WP)=>aq P 206 #[.pointer b,ae c,ae d] w (Vl Q)
def DN (Q:Int->Int->Bool->World->Prop)(v:Value)(w:World):Prop:=
 dT v λc=>dH c λd e=>dI .i64 d λf=>dH e λg i=>dI .i64 g λj=>dH i λl m=>dB l λn=>kT m<|Q f j n w
def jJ:=λb w (Q:Int->Int->Bool->WP)=>aq P 207 #[.pointer b] w (DN Q)
def Hq {b:Option Addr}{w:World}{Q Q':Int->Int->Bool->World->Prop}(hq:∀a b c w,Q a b c w->Q' a b c w)(h:jJ b w Q):jJ b w Q':=by
 refine aq.mono ?_ h
 intro v w' h0
 unfold DN at h0⊢
 obtain⟨c,rfl,h1⟩:=acS h0
 obtain⟨d,e,rfl,h2⟩:=jK h1
 obtain⟨f,rfl,h3⟩:=CO h2
 obtain⟨g,i,rfl,h4⟩:=jK h3
 obtain⟨j,rfl,h5⟩:=CO h4
 obtain⟨l,m,rfl,h6⟩:=jK h5
 obtain⟨n,rfl,h7⟩:=Hz h6
 obtain⟨rfl,h8⟩:=rR h7
 exact hq _ _ _ w' h8
def B_:=bH (.o .l)
def Aj:=λb c w (Q:L3 WP)=>aq P 208 #[.pointer b,ae c] w (B_ Q)
def zR:=bH (.o .b)
def n_:=λb c d e w (Q:Bool->WP)=>aq P 209 #[.slice b c d,e] w (zR Q)
def aa2:=bH (.o .b)
def DO:=λb c d e w (Q:Bool->WP)=>aq P 210 #[.agg #[ae b,ae c,ae d],.pointer e] w (aa2 Q)
def af5:=bH (.o .b)
def Gl:=λb c d e f g i w (Q:Bool->WP)=>aq P 211 #[.agg #[ae b,ae c,.slice d e f],ae g,ae i] w (af5 Q)
def IV:=gm []
def uz:=λb c w (Q:WP)=>aq P 212 #[.pointer b,ae c] w (IV Q)
def Lb:=gm []
def xq:=λb c w (Q:WP)=>aq P 213 #[.pointer b,ae c] w (Lb Q)
def tG:=bH (.o .b)
def rW:=λb c d e f g w (Q:Bool->WP)=>aq P 214 #[.slice b c d,.slice e f g] w (tG Q)
def Lc:=bH (.o .l)
def kW:=λb c d w (Q:L3 WP)=>aq P 215 #[.slice b c d] w (Lc Q)
def Ld:=gm [.o .l,.o (.i .i64)]
def xu:=λb c d e f g i j w (Q:L3 (Int->WP))=>aq P 216 #[.agg #[ae b,ae c,.slice d e f],.slice g i j] w (Ld Q)
def Vm:=bH (.o (.i .i64))
def Ak:=λb c w (Q:Int->WP)=>aq P 217 #[.pointer b,ae c] w (Vm Q)
def XE:=gm [.o (.i .u64),.o (.i .u64)]
def qL:=λb c w (Q:Int->Int->WP)=>aq P 218 #[.int .u64 b,.int .u64 c] w (XE Q)
def ada:=bH (.o .b)
def Am:=λb w (Q:Bool->WP)=>aq P 220 #[ae b] w (ada Q)
def zh:=bH (.o .l)
def HO:=λb c d e f g w (Q:L3 WP)=>aq P 221 #[.agg #[ae b,ae c,.slice d e f],ae g] w (zh Q)
def E0:=bH (.o .l)
def Ca:=λb c d w (Q:L3 WP)=>aq P 222 #[ae b,ae c,ae d] w (E0 Q)
def cJ:=gm []
def fu:=λb c d e f g i w (Q:WP)=>aq P 223 #[.slice b c d,ae e,ae f,ae g,i] w (cJ Q)
def XF:=bH (.o (.i .i64))
def vU:=λb w (Q:Int->WP)=>aq P 224 #[.int .u64 b] w (XF Q)
def PG:=bH (.o (.i .i64))
def E1:=λb c d w (Q:Int->WP)=>aq P 225 #[.slice b c d] w (PG Q)
def T9:=bH (.o (.i .i64))
def oz:=λb c w (Q:Int->WP)=>aq P 226 #[ae b,ae c] w (T9 Q)
def CZ:=gm [.o .l,.o (.i .i64)]
def E2:=λb c d e f g i j w (Q:L3 (Int->WP))=>aq P 227 #[.agg #[ae b,ae c,.slice d e f],.slice g i j] w (CZ Q)
def Le:=gm []
def Cb:=λb w (Q:WP)=>aq P 228 #[.pointer b] w (Le Q)
def XG:=gm [.o (.i .i64),.o (.i .i64),.o .b]
def A9:=λb w (Q:Int->Int->Bool->WP)=>aq P 229 #[.pointer b] w (XG Q)
def oA:=gm []
def An:=λb w (Q:WP)=>aq P 230 #[.pointer b] w (oA Q)
def Vn:=gm [.o .p,.o (.i .i64),.o .b]
def uA:=λb c w (Q:OA->Int->Bool->WP)=>aq P 231 #[.pointer b,ae c] w (Vn Q)
def PI:=bH (.o (.i .i64))
def wN:=λb c d w (Q:Int->WP)=>aq P 232 #[.pointer b,ae c,ae d] w (PI Q)
def qM:=bH (.o (.i .i64))
def pI:=λb c d e w (Q:Int->WP)=>aq P 233 #[.slice b c d,e] w (qM Q)
def ahO:=bH (.o .p)
def C0:=λb w (Q:OA->WP)=>aq P 234 #[ae b] w (ahO Q)
def uB:=bH (.o .l)
def ku:=λb c d e w (Q:L3 WP)=>aq P 235 #[.slice b c d,ae e] w (uB Q)
def Fv:=gm []
def Dv:=λb w (Q:WP)=>aq P 236 #[.pointer b] w (Fv Q)
def C1:=bH (.o (.i .i64))
def Ao:=λb c d e f w (Q:Int->WP)=>aq P 237 #[.slice b c d,ae e,ae f] w (C1 Q)
def uC:=bH (.o (.i .i64))
def D6:=λb c d w (Q:Int->WP)=>aq P 238 #[.pointer b,ae c,ae d] w (uC Q)
def T_:=gm [.o (.i .u64),.o (.i .u64)]
def Fw:=λb c w (Q:Int->Int->WP)=>aq P 240 #[.int .u64 b,.int .u64 c] w (T_ Q)
def D7:=bH (.o .b)
def mS:=λb c d e w (Q:Bool->WP)=>aq P 241 #[.slice b c d,e] w (D7 Q)
def adb:=bH (.o .b)
def Lg:=λb c w (Q:Bool->WP)=>aq P 242 #[.int .u8 b,.pointer c] w (adb Q)
def iy:=gm []
def jP:=λb c d e f g w (Q:WP)=>aq P 243 #[.slice b c d,ae e,ae f,g] w (iy Q)
def mT:=gm []
def lU:=λb c d e f g w (Q:WP)=>aq P 244 #[.slice b c d,ae e,ae f,g] w (mT Q)
def iz:=gm []
def jQ:=λb c d e f g w (Q:WP)=>aq P 245 #[.slice b c d,ae e,ae f,g] w (iz Q)
def lE:=gm [.o (.i .i64),.o (.i .i64)]
def kJ:=λb c d e f g w (Q:Int->Int->WP)=>aq P 246 #[.slice b c d,ae e,ae f,g] w (lE Q)
def qg:=gm []
def j_:=λb c d e f g w (Q:WP)=>aq P 247 #[.slice b c d,ae e,ae f,g] w (qg Q)
def bp:=bH (.o .b)
def iG:=λb c d e f g w (Q:Bool->WP)=>aq P 248 #[.slice b c d,ae e,ae f,g] w (bp Q)
def eI:=bH (.o (.i .i64))
def jI:=λb c d e f g i w (Q:Int->WP)=>aq P 249 #[.slice b c d,ae e,ae f,ae g,i] w (eI Q)
def cS:=gm [.o (.i .i64),.o .b]
def lF:=λb c d e f g i w (Q:Int->Bool->WP)=>aq P 250 #[.slice b c d,ae e,ae f,ae g,i] w (cS Q)
def vV:=bH (.o (.i .i64))
def Fx:=λb w (Q:Int->WP)=>aq P 252 #[.int .u64 b] w (vV Q)
def XH:=bH (.o .b)
def qN:=λb w (Q:Bool->WP)=>aq P 253 #[ae b] w (XH Q)
def Ts:=bH (.o .b)
def Gm:=λb c d e f g i j w (Q:Bool->WP)=>aq P 254 #[.agg #[ae b,ae c,.slice d e f],.slice g i j] w (Ts Q)
def ahP:=gm [.o .l,.o (.i .i64)]
def HP:=λb c d e f g w (Q:L3 (Int->WP))=>aq P 255 #[.agg #[ae b,ae c,.slice d e f],ae g] w (ahP Q)
def Ua:=bH (.o .b)
def sF:=λb c d e w (Q:Bool->WP)=>aq P 256 #[.agg #[ae b,ae c],.agg #[ae d,ae e]] w (Ua Q)
def XI:=bH (.o (.i .i64))
def A_:=λb w (Q:Int->WP)=>aq P 257 #[.pointer b] w (XI Q)
def Ub:=gm [.o (.i .i64),.o .b]
def Fy:=λb c w (Q:Int->Bool->WP)=>aq P 258 #[.pointer b,ae c] w (Ub Q)
def D8:=gm []
def jR:=λb w (Q:WP)=>aq P 259 #[.pointer b] w (D8 Q)
def XJ:=bH (.o (.i .i64))
def qO:=λb w (Q:Int->WP)=>aq P 260 #[.pointer b] w (XJ Q)
def JV:=gm [.o (.i .i64),.o (.i .i64),.o .b]
def Ba:=λb w (Q:Int->Int->Bool->WP)=>aq P 261 #[.pointer b] w (JV Q)
def pJ:=gm []
def tg:=λb c w (Q:WP)=>aq P 262 #[.pointer b,ae c] w (pJ Q)
def XK:=bH (.o .b)
def nL:=λb c d w (Q:Bool->WP)=>aq P 263 #[.pointer b,ae c,ae d] w (XK Q)
def xw:=bH (.o (.i .i64))
def vk:=λb c d e w (Q:Int->WP)=>aq P 264 #[.slice b c d,e] w (xw Q)
def jC:=gm []
def jb:=λb c d e f g i w (Q:WP)=>aq P 265 #[.slice b c d,ae e,ae f,ae g,i] w (jC Q)
def Kf:=bH (.o (.i .u64))
def zY:=λb w (Q:Int->WP)=>aq P 266 #[ae b] w (Kf Q)
def Lh:=bH (.o (.i .u64))
def tj:=λb w (Q:Int->WP)=>aq P 267 #[.pointer b] w (Lh Q)
def zS:=bH (.o (.i .i64))
def fo:=λb c d e f g w (Q:Int->WP)=>aq P 268 #[.slice b c d,ae e,.pointer f,g] w (zS Q)
def D9:=bH (.o (.i .i64))
def jD:=λb c d e f g i j w (Q:Int->WP)=>aq P 269 #[.slice b c d,ae e,ae f,ae g,.pointer i,j] w (D9 Q)
def ajN:=bH (.o (.i .i64))
def Jx:=λb c d e f g w (Q:Int->WP)=>aq P 270 #[.agg #[ae b,ae c,.slice d e f],ae g] w (ajN Q)
def wj:=gm [.o (.i .i64),.o .b]
def nS:=λb c d e w (Q:Int->Bool->WP)=>aq P 271 #[.slice b c d,ae e] w (wj Q)
def Vo:=bH (.o .b)
def Ap:=λb c w (Q:Bool->WP)=>aq P 272 #[.pointer b,ae c] w (Vo Q)
def XL:=bH (.o .b)
def vW:=λb c d w (Q:Bool->WP)=>aq P 273 #[.pointer b,ae c,ae d] w (XL Q)
def PJ:=bH (.o .b)
def qD:=λb w (Q:Bool->WP)=>aq P 274 #[.pointer b] w (PJ Q)
def Uc:=bH (.o (.i .i64))
def zi:=λb w (Q:Int->WP)=>aq P 275 #[.pointer b] w (Uc Q)
def Mw:=gm []
def iA:=λb c d w (Q:WP)=>aq P 276 #[.pointer b,ae c,ae d] w (Mw Q)
def vX:=bH (.o (.i .i64))
def zj:=λb c d w (Q:Int->WP)=>aq P 277 #[.pointer b,ae c,ae d] w (vX Q)
def D_:=gm [.o (.i .i64),.o (.i .i64)]
def gT:=λb c d e f g i w (Q:Int->Int->WP)=>aq P 278 #[.slice b c d,ae e,ae f,.pointer g,i] w (D_ Q)
def ajO:=bH (.o .b)
def Jy:=λb c d e f g w (Q:Bool->WP)=>aq P 279 #[.agg #[ae b,ae c,.slice d e f],ae g] w (ajO Q)
def Zk:=bH (.o .b)
def IW:=λb c w (Q:Bool->WP)=>aq P 280 #[ae b,ae c] w (Zk Q)
def RP:=bH (.o .b)
def nT:=λb w (Q:Bool->WP)=>aq P 281 #[ae b] w (RP Q)
def Ud:=gm []
def zk:=λb c w (Q:WP)=>aq P 282 #[.pointer b,ae c] w (Ud Q)
def Vp:=bH (.o .w)
def Gn:=λb w (Q:Value->WP)=>aq P 302 #[.pointer b] w (Vp Q)
def PK:=bH (.o .w)
def Dw:=λb w (Q:Value->WP)=>aq P 321 #[.pointer b] w (PK Q)
def Ue:=bH (.o .w)
def Fz:=λb w (Q:Value->WP)=>aq P 325 #[.pointer b] w (Ue Q)
def uD:=λa b c w Q=>bB (a_ a b c w Q) (NZ (IntKind.wrap .i64 ((IntKind.wrap .i64 (c-b))+1))<|cond (decide ((Int.tmod a (IntKind.wrap .i64 ((IntKind.wrap .i64 (c-b))+1)))<0)) (Q (IntKind.wrap .i64 (b+(IntKind.wrap .i64 ((IntKind.wrap .i64 ((IntKind.wrap .i64 ((Int.tmod a (IntKind.wrap .i64 ((IntKind.wrap .i64 (c-b))+1)))+c))-b))+1)))) w) (Q (IntKind.wrap .i64 (b+(Int.tmod a (IntKind.wrap .i64 ((IntKind.wrap .i64 (c-b))+1))))) w)) (ok 24) [] [] Tryz.func10
def Uf:=λa w Q=>bB (vQ a w Q) (cond (!a.isNone) (cD P 180 none w λb w=>wA a λc=>St (c.add 1) (.slice none 0 0) w λw=>wA a λd=>St (d.add 2) (.map b) w λw=>wA a λe=>St (e.add 3) (ae (-1)) w λw=>wA a λf=>St (f.add 4) (ae (-1)) w λw=>Q w) (Q w)) (ok 17) [] [] Tryz.func108
def af6:=λa w Q=>bB (Jt a w Q) (cond (decide (a<1)) (Q none w) (Bx [ae a,.slice none 0 0,.map none,ae 0,ae 0] 182 w λb w=>vQ (some b) w λw=>Q (some b) w)) (ok 12) [] [] Tryz.func74
def aa3:=λa w Q=>bB (Gb a w Q) (cond (decide (a<1)) (Q none w) (Jt a w λb w=>Bx [.pointer b,.slice none 0 0,.int .u64 0,.int .u64 0,.int .u64 0,.int .u64 0,.int .u64 0,.int .u64 0] 135 w λc w=>Q (some c) w)) (ok 9) [] [] Tryz.func47
def af7:=λa w Q=>bB (Jq a w Q) (cond (decide (a<1)) (Q none w) (Gb a w λb w=>Bx [.pointer none,.pointer none,.pointer none,.pointer b,.int .u64 0,.int .u64 0,.int .u64 0,.int .u64 0,.int .u64 0,.int .u64 0] 106 w λc w=>Q (some c) w)) (ok 9) [] [] Tryz.func27
def af8:=λa b w Q=>bB (Ex a b w Q) (cond (decide (a<1)) (Q none w) (cond (decide (b<1)) (Q none w) (cond (decide (b>65536)) (Q none w) (Jq a w λc w=>Bx [ae b,.pointer c,.pointer none] 72 w λd w=>Q (some d) w)))) (ok 20) [] [] Tryz.func11
def PL:=λa w Q=>bB (Fq a w Q) (cond a.isNone (Q none w) (wA a λb=>bg (b.add 1) w λc=>Q c w)) (ok 9) [] [] Tryz.func39
def Vq:=λa b c d e f w Q=>bB (cY a b c d e f w Q) (Bx [.int .u64 a,.int .u64 b,.int .u64 c,.int .u64 d,.int .u64 e,.int .u64 f] 32 w λg w=>Al T 175 w λi w=>af .u64 g w λj=>af .u64 (g.add 1) w λl=>af .u64 (g.add 2) w λm=>af .u64 (g.add 3) w λn=>af .u64 (g.add 4) w λo=>af .u64 (g.add 5) w λp=>St (i.add 0) (.int .u64 j) w λw=>St (i.add 1) (.int .u64 l) w λw=>St (i.add 2) (.int .u64 m) w λw=>St (i.add 3) (.int .u64 n) w λw=>St (i.add 4) (.int .u64 o) w λw=>St (i.add 5) (.int .u64 p) w λw=>af .u64 (i.add 0) w λq=>af .u64 (i.add 1) w λr=>af .u64 (i.add 2) w λs=>af .u64 (i.add 3) w λt=>af .u64 (i.add 4) w λu=>af .u64 (i.add 5) w λv=>Q q r s t u v w) (ok 16) [] [] Tryz.func104
def aa4:=λa b w Q=>bB (sA a b w Q) (cond (decide (a>(IntKind.wrap .u64 (18446744073709551615-b)))) (Q 18446744073709551615 w) (Q (IntKind.wrap .u64 (a+b)) w)) (ok 12) [] [] Tryz.func105
def tq (Q:Int->Int->Int->Int->Int->Int->WP)(R3:Addr->Addr->Addr->Int->WP)(a b c:Addr)(d:Int)(w:World):Prop:=cond (decide (d<6)) (aH d 6<|af .u64 (b.add (d.toNat*1)) w.drew λe=>aH d 6<|af .u64 (c.add (d.toNat*1)) w.drew λf=>sA e f w.drew λg w=>aH d 6<|St (b.add (d.toNat*1)) (.int .u64 g) w λw=>R3 a b c (IntKind.wrap .i64 (d+1)) w) (aH 0 6<|af .u64 (b.add (((0:Int).toNat)*1)) w λi=>aH 1 6<|af .u64 (b.add (((1:Int).toNat)*1)) w λj=>aH 2 6<|af .u64 (b.add (((2:Int).toNat)*1)) w λl=>aH 3 6<|af .u64 (b.add (((3:Int).toNat)*1)) w λm=>aH 4 6<|af .u64 (b.add (((4:Int).toNat)*1)) w λn=>aH 5 6<|af .u64 (b.add (((5:Int).toNat)*1)) w λo=>St (a.add 0) (.int .u64 i) w λw=>St (a.add 1) (.int .u64 j) w λw=>St (a.add 2) (.int .u64 l) w λw=>St (a.add 3) (.int .u64 m) w λw=>St (a.add 4) (.int .u64 n) w λw=>St (a.add 5) (.int .u64 o) w λw=>af .u64 (a.add 0) w λp=>af .u64 (a.add 1) w λq=>af .u64 (a.add 2) w λr=>af .u64 (a.add 3) w λs=>af .u64 (a.add 4) w λt=>af .u64 (a.add 5) w λu=>Q p q r s t u w)
def qh (Q:Int->Int->Int->Int->Int->Int->WP):Nat->Addr->Addr->Addr->Int->WP
 |0,_,_,_,_,_=>False
 |k+1,a,b,c,d,w=>tq Q (qh Q k) a b c d w
def g7 (Q:Int->Int->Int->Int->Int->Int->WP)(a b c:Addr)(w:World):Prop:=∃k',qh Q k' a b c 0 w
noncomputable def HQ:cA:=[(1,.op 0 (.op 2 (.br (.op 1 (.br (.op 3 (.br (.op 4 (.op 5 (.op 6 (.op 7 .done)))) (.op 5 (.op 4 (.op 6 (.op 7 .done)))))) (.br (.op 4 (.br (.op 3 (.op 5 (.op 6 (.op 7 .done)))) (.op 5 (.op 3 (.op 6 (.op 7 .done)))))) (.op 5 (.br (.op 3 (.op 4 (.op 6 (.op 7 .done)))) (.op 4 (.op 3 (.op 6 (.op 7 .done))))))))) (.br (.op 4 (.br (.op 1 (.br (.op 3 (.op 5 (.op 6 (.op 7 .done)))) (.op 5 (.op 3 (.op 6 (.op 7 .done)))))) (.op 5 (.op 1 (.op 3 (.op 6 (.op 7 .done))))))) (.op 5 (.br (.op 1 (.br (.op 3 (.op 4 (.op 6 (.op 7 .done)))) (.op 4 (.op 3 (.op 6 (.op 7 .done)))))) (.op 4 (.op 1 (.op 3 (.op 6 (.op 7 .done))))))))))),(5,sp 0 7 (.op 7 (.op 8 (.op 9 .done))))]
def af9 (Q):∀k,Bk 38 Tryz.f70 (Js Q) 3 [(4,.a),(5,.a),(6,.a),(12,.i .i64)] (qh Q k):=bI λk h=>aU (ok 38) HQ [aL h]
def af_ (Q):Bk 38 Tryz.f70 (Js Q) 2 [(4,.a),(5,.a),(6,.a)] (g7 Q):=aU (ok 38) HQ [bY (af9 Q)]
def aa5:=λa b c d e f g i j l m n w Q=>bB (xe a b c d e f g i j l m n w Q) (Bx [.int .u64 a,.int .u64 b,.int .u64 c,.int .u64 d,.int .u64 e,.int .u64 f] 32 w λo w=>Bx [.int .u64 g,.int .u64 i,.int .u64 j,.int .u64 l,.int .u64 m,.int .u64 n] 32 w λp w=>Al T 32 w λq w=>af .u64 (o.add 0) w.drew λr=>af .u64 (o.add 1) w.drew λs=>af .u64 (o.add 2) w.drew λt=>af .u64 (o.add 3) w.drew λu=>af .u64 (o.add 4) w.drew λv=>af .u64 (o.add 5) w.drew λx=>af .u64 (p.add 0) w.drew λy=>af .u64 (p.add 1) w.drew λz=>af .u64 (p.add 2) w.drew λa1=>af .u64 (p.add 3) w.drew λb1=>af .u64 (p.add 4) w.drew λc1=>af .u64 (p.add 5) w.drew λd1=>(cY r s t u v x w.drew λe1 f1 g1 i1 j1 l1 w=>w.cell? (p.add 0)=some (.int .u64 y)/\w.cell? (p.add 1)=some (.int .u64 z)/\w.cell? (p.add 2)=some (.int .u64 a1)/\w.cell? (p.add 3)=some (.int .u64 b1)/\w.cell? (p.add 4)=some (.int .u64 c1)/\w.cell? (p.add 5)=some (.int .u64 d1)/\(cY y z a1 b1 c1 d1 w λm1 n1 o1 p1 q1 r1 w=>(Al T 175 w λs1 w=>w.cell? (p.add 0)=some (.int .u64 y)/\w.cell? (p.add 1)=some (.int .u64 z)/\w.cell? (p.add 2)=some (.int .u64 a1)/\w.cell? (p.add 3)=some (.int .u64 b1)/\w.cell? (p.add 4)=some (.int .u64 c1)/\w.cell? (p.add 5)=some (.int .u64 d1)/\w.cell? (o.add 0)=some (.int .u64 r)/\w.cell? (o.add 1)=some (.int .u64 s)/\w.cell? (o.add 2)=some (.int .u64 t)/\w.cell? (o.add 3)=some (.int .u64 u)/\w.cell? (o.add 4)=some (.int .u64 v)/\w.cell? (o.add 5)=some (.int .u64 x)/\Al T 175 w λt1 w=>w.cell? (p.add 0)=some (.int .u64 y)/\w.cell? (p.add 1)=some (.int .u64 z)/\w.cell? (p.add 2)=some (.int .u64 a1)/\w.cell? (p.add 3)=some (.int .u64 b1)/\w.cell? (p.add 4)=some (.int .u64 c1)/\w.cell? (p.add 5)=some (.int .u64 d1)/\w.cell? (o.add 0)=some (.int .u64 r)/\w.cell? (o.add 1)=some (.int .u64 s)/\w.cell? (o.add 2)=some (.int .u64 t)/\w.cell? (o.add 3)=some (.int .u64 u)/\w.cell? (o.add 4)=some (.int .u64 v)/\w.cell? (o.add 5)=some (.int .u64 x)/\St (s1.add 0) (.int .u64 e1) w λw=>St (s1.add 1) (.int .u64 f1) w λw=>St (s1.add 2) (.int .u64 g1) w λw=>St (s1.add 3) (.int .u64 i1) w λw=>St (s1.add 4) (.int .u64 j1) w λw=>St (s1.add 5) (.int .u64 l1) w λw=>St (t1.add 0) (.int .u64 m1) w λw=>St (t1.add 1) (.int .u64 n1) w λw=>St (t1.add 2) (.int .u64 o1) w λw=>St (t1.add 3) (.int .u64 p1) w λw=>St (t1.add 4) (.int .u64 q1) w λw=>St (t1.add 5) (.int .u64 r1) w λw=>g7 Q q s1 t1 w)/\(Al T 175 w λu1 w=>w.cell? (p.add 0)=some (.int .u64 y)/\w.cell? (p.add 1)=some (.int .u64 z)/\w.cell? (p.add 2)=some (.int .u64 a1)/\w.cell? (p.add 3)=some (.int .u64 b1)/\w.cell? (p.add 4)=some (.int .u64 c1)/\w.cell? (p.add 5)=some (.int .u64 d1)/\w.cell? (o.add 0)=some (.int .u64 r)/\w.cell? (o.add 1)=some (.int .u64 s)/\w.cell? (o.add 2)=some (.int .u64 t)/\w.cell? (o.add 3)=some (.int .u64 u)/\w.cell? (o.add 4)=some (.int .u64 v)/\w.cell? (o.add 5)=some (.int .u64 x)/\Al T 175 w λv1 w=>w.cell? (p.add 0)=some (.int .u64 y)/\w.cell? (p.add 1)=some (.int .u64 z)/\w.cell? (p.add 2)=some (.int .u64 a1)/\w.cell? (p.add 3)=some (.int .u64 b1)/\w.cell? (p.add 4)=some (.int .u64 c1)/\w.cell? (p.add 5)=some (.int .u64 d1)/\w.cell? (o.add 0)=some (.int .u64 r)/\w.cell? (o.add 1)=some (.int .u64 s)/\w.cell? (o.add 2)=some (.int .u64 t)/\w.cell? (o.add 3)=some (.int .u64 u)/\w.cell? (o.add 4)=some (.int .u64 v)/\w.cell? (o.add 5)=some (.int .u64 x)/\St (v1.add 0) (.int .u64 e1) w λw=>St (v1.add 1) (.int .u64 f1) w λw=>St (v1.add 2) (.int .u64 g1) w λw=>St (v1.add 3) (.int .u64 i1) w λw=>St (v1.add 4) (.int .u64 j1) w λw=>St (v1.add 5) (.int .u64 l1) w λw=>St (u1.add 0) (.int .u64 m1) w λw=>St (u1.add 1) (.int .u64 n1) w λw=>St (u1.add 2) (.int .u64 o1) w λw=>St (u1.add 3) (.int .u64 p1) w λw=>St (u1.add 4) (.int .u64 q1) w λw=>St (u1.add 5) (.int .u64 r1) w λw=>g7 Q q v1 u1 w))/\((Al T 175 w λx1 w=>w.cell? (p.add 0)=some (.int .u64 y)/\w.cell? (p.add 1)=some (.int .u64 z)/\w.cell? (p.add 2)=some (.int .u64 a1)/\w.cell? (p.add 3)=some (.int .u64 b1)/\w.cell? (p.add 4)=some (.int .u64 c1)/\w.cell? (p.add 5)=some (.int .u64 d1)/\w.cell? (o.add 0)=some (.int .u64 r)/\w.cell? (o.add 1)=some (.int .u64 s)/\w.cell? (o.add 2)=some (.int .u64 t)/\w.cell? (o.add 3)=some (.int .u64 u)/\w.cell? (o.add 4)=some (.int .u64 v)/\w.cell? (o.add 5)=some (.int .u64 x)/\(cY y z a1 b1 c1 d1 w λy1 z1 a2 b2 c2 d2 w=>Al T 175 w λe2 w=>w.cell? (p.add 0)=some (.int .u64 y)/\w.cell? (p.add 1)=some (.int .u64 z)/\w.cell? (p.add 2)=some (.int .u64 a1)/\w.cell? (p.add 3)=some (.int .u64 b1)/\w.cell? (p.add 4)=some (.int .u64 c1)/\w.cell? (p.add 5)=some (.int .u64 d1)/\w.cell? (o.add 0)=some (.int .u64 r)/\w.cell? (o.add 1)=some (.int .u64 s)/\w.cell? (o.add 2)=some (.int .u64 t)/\w.cell? (o.add 3)=some (.int .u64 u)/\w.cell? (o.add 4)=some (.int .u64 v)/\w.cell? (o.add 5)=some (.int .u64 x)/\St (x1.add 0) (.int .u64 e1) w λw=>St (x1.add 1) (.int .u64 f1) w λw=>St (x1.add 2) (.int .u64 g1) w λw=>St (x1.add 3) (.int .u64 i1) w λw=>St (x1.add 4) (.int .u64 j1) w λw=>St (x1.add 5) (.int .u64 l1) w λw=>St (e2.add 0) (.int .u64 y1) w λw=>St (e2.add 1) (.int .u64 z1) w λw=>St (e2.add 2) (.int .u64 a2) w λw=>St (e2.add 3) (.int .u64 b2) w λw=>St (e2.add 4) (.int .u64 c2) w λw=>St (e2.add 5) (.int .u64 d2) w λw=>g7 Q q x1 e2 w)/\(Al T 175 w λf2 w=>w.cell? (p.add 0)=some (.int .u64 y)/\w.cell? (p.add 1)=some (.int .u64 z)/\w.cell? (p.add 2)=some (.int .u64 a1)/\w.cell? (p.add 3)=some (.int .u64 b1)/\w.cell? (p.add 4)=some (.int .u64 c1)/\w.cell? (p.add 5)=some (.int .u64 d1)/\w.cell? (o.add 0)=some (.int .u64 r)/\w.cell? (o.add 1)=some (.int .u64 s)/\w.cell? (o.add 2)=some (.int .u64 t)/\w.cell? (o.add 3)=some (.int .u64 u)/\w.cell? (o.add 4)=some (.int .u64 v)/\w.cell? (o.add 5)=some (.int .u64 x)/\cY y z a1 b1 c1 d1 w λg2 i2 j2 l2 m2 n2 w=>St (x1.add 0) (.int .u64 e1) w λw=>St (x1.add 1) (.int .u64 f1) w λw=>St (x1.add 2) (.int .u64 g1) w λw=>St (x1.add 3) (.int .u64 i1) w λw=>St (x1.add 4) (.int .u64 j1) w λw=>St (x1.add 5) (.int .u64 l1) w λw=>St (f2.add 0) (.int .u64 g2) w λw=>St (f2.add 1) (.int .u64 i2) w λw=>St (f2.add 2) (.int .u64 j2) w λw=>St (f2.add 3) (.int .u64 l2) w λw=>St (f2.add 4) (.int .u64 m2) w λw=>St (f2.add 5) (.int .u64 n2) w λw=>g7 Q q x1 f2 w))/\(Al T 175 w λo2 w=>w.cell? (p.add 0)=some (.int .u64 y)/\w.cell? (p.add 1)=some (.int .u64 z)/\w.cell? (p.add 2)=some (.int .u64 a1)/\w.cell? (p.add 3)=some (.int .u64 b1)/\w.cell? (p.add 4)=some (.int .u64 c1)/\w.cell? (p.add 5)=some (.int .u64 d1)/\w.cell? (o.add 0)=some (.int .u64 r)/\w.cell? (o.add 1)=some (.int .u64 s)/\w.cell? (o.add 2)=some (.int .u64 t)/\w.cell? (o.add 3)=some (.int .u64 u)/\w.cell? (o.add 4)=some (.int .u64 v)/\w.cell? (o.add 5)=some (.int .u64 x)/\(cY y z a1 b1 c1 d1 w λp2 q2 r2 s2 t2 u2 w=>Al T 175 w λv2 w=>w.cell? (p.add 0)=some (.int .u64 y)/\w.cell? (p.add 1)=some (.int .u64 z)/\w.cell? (p.add 2)=some (.int .u64 a1)/\w.cell? (p.add 3)=some (.int .u64 b1)/\w.cell? (p.add 4)=some (.int .u64 c1)/\w.cell? (p.add 5)=some (.int .u64 d1)/\w.cell? (o.add 0)=some (.int .u64 r)/\w.cell? (o.add 1)=some (.int .u64 s)/\w.cell? (o.add 2)=some (.int .u64 t)/\w.cell? (o.add 3)=some (.int .u64 u)/\w.cell? (o.add 4)=some (.int .u64 v)/\w.cell? (o.add 5)=some (.int .u64 x)/\St (v2.add 0) (.int .u64 e1) w λw=>St (v2.add 1) (.int .u64 f1) w λw=>St (v2.add 2) (.int .u64 g1) w λw=>St (v2.add 3) (.int .u64 i1) w λw=>St (v2.add 4) (.int .u64 j1) w λw=>St (v2.add 5) (.int .u64 l1) w λw=>St (o2.add 0) (.int .u64 p2) w λw=>St (o2.add 1) (.int .u64 q2) w λw=>St (o2.add 2) (.int .u64 r2) w λw=>St (o2.add 3) (.int .u64 s2) w λw=>St (o2.add 4) (.int .u64 t2) w λw=>St (o2.add 5) (.int .u64 u2) w λw=>g7 Q q v2 o2 w)/\(Al T 175 w λx2 w=>w.cell? (p.add 0)=some (.int .u64 y)/\w.cell? (p.add 1)=some (.int .u64 z)/\w.cell? (p.add 2)=some (.int .u64 a1)/\w.cell? (p.add 3)=some (.int .u64 b1)/\w.cell? (p.add 4)=some (.int .u64 c1)/\w.cell? (p.add 5)=some (.int .u64 d1)/\w.cell? (o.add 0)=some (.int .u64 r)/\w.cell? (o.add 1)=some (.int .u64 s)/\w.cell? (o.add 2)=some (.int .u64 t)/\w.cell? (o.add 3)=some (.int .u64 u)/\w.cell? (o.add 4)=some (.int .u64 v)/\w.cell? (o.add 5)=some (.int .u64 x)/\cY y z a1 b1 c1 d1 w λy2 z2 a3 b3 c3 d3 w=>St (x2.add 0) (.int .u64 e1) w λw=>St (x2.add 1) (.int .u64 f1) w λw=>St (x2.add 2) (.int .u64 g1) w λw=>St (x2.add 3) (.int .u64 i1) w λw=>St (x2.add 4) (.int .u64 j1) w λw=>St (x2.add 5) (.int .u64 l1) w λw=>St (o2.add 0) (.int .u64 y2) w λw=>St (o2.add 1) (.int .u64 z2) w λw=>St (o2.add 2) (.int .u64 a3) w λw=>St (o2.add 3) (.int .u64 b3) w λw=>St (o2.add 4) (.int .u64 c3) w λw=>St (o2.add 5) (.int .u64 d3) w λw=>g7 Q q x2 o2 w))))/\((Al T 175 w.drew λe3 w=>w.cell? (p.add 0)=some (.int .u64 y)/\w.cell? (p.add 1)=some (.int .u64 z)/\w.cell? (p.add 2)=some (.int .u64 a1)/\w.cell? (p.add 3)=some (.int .u64 b1)/\w.cell? (p.add 4)=some (.int .u64 c1)/\w.cell? (p.add 5)=some (.int .u64 d1)/\w.cell? (o.add 0)=some (.int .u64 r)/\w.cell? (o.add 1)=some (.int .u64 s)/\w.cell? (o.add 2)=some (.int .u64 t)/\w.cell? (o.add 3)=some (.int .u64 u)/\w.cell? (o.add 4)=some (.int .u64 v)/\w.cell? (o.add 5)=some (.int .u64 x)/\(cY r s t u v x w λf3 g3 i3 j3 l3 m3 w=>w.cell? (p.add 0)=some (.int .u64 y)/\w.cell? (p.add 1)=some (.int .u64 z)/\w.cell? (p.add 2)=some (.int .u64 a1)/\w.cell? (p.add 3)=some (.int .u64 b1)/\w.cell? (p.add 4)=some (.int .u64 c1)/\w.cell? (p.add 5)=some (.int .u64 d1)/\(cY y z a1 b1 c1 d1 w λn3 o3 p3 q3 r3 s3 w=>Al T 175 w λt3 w=>w.cell? (p.add 0)=some (.int .u64 y)/\w.cell? (p.add 1)=some (.int .u64 z)/\w.cell? (p.add 2)=some (.int .u64 a1)/\w.cell? (p.add 3)=some (.int .u64 b1)/\w.cell? (p.add 4)=some (.int .u64 c1)/\w.cell? (p.add 5)=some (.int .u64 d1)/\w.cell? (o.add 0)=some (.int .u64 r)/\w.cell? (o.add 1)=some (.int .u64 s)/\w.cell? (o.add 2)=some (.int .u64 t)/\w.cell? (o.add 3)=some (.int .u64 u)/\w.cell? (o.add 4)=some (.int .u64 v)/\w.cell? (o.add 5)=some (.int .u64 x)/\St (e3.add 0) (.int .u64 f3) w λw=>St (e3.add 1) (.int .u64 g3) w λw=>St (e3.add 2) (.int .u64 i3) w λw=>St (e3.add 3) (.int .u64 j3) w λw=>St (e3.add 4) (.int .u64 l3) w λw=>St (e3.add 5) (.int .u64 m3) w λw=>St (t3.add 0) (.int .u64 n3) w λw=>St (t3.add 1) (.int .u64 o3) w λw=>St (t3.add 2) (.int .u64 p3) w λw=>St (t3.add 3) (.int .u64 q3) w λw=>St (t3.add 4) (.int .u64 r3) w λw=>St (t3.add 5) (.int .u64 s3) w λw=>g7 Q q e3 t3 w)/\(Al T 175 w λu3 w=>w.cell? (p.add 0)=some (.int .u64 y)/\w.cell? (p.add 1)=some (.int .u64 z)/\w.cell? (p.add 2)=some (.int .u64 a1)/\w.cell? (p.add 3)=some (.int .u64 b1)/\w.cell? (p.add 4)=some (.int .u64 c1)/\w.cell? (p.add 5)=some (.int .u64 d1)/\w.cell? (o.add 0)=some (.int .u64 r)/\w.cell? (o.add 1)=some (.int .u64 s)/\w.cell? (o.add 2)=some (.int .u64 t)/\w.cell? (o.add 3)=some (.int .u64 u)/\w.cell? (o.add 4)=some (.int .u64 v)/\w.cell? (o.add 5)=some (.int .u64 x)/\cY y z a1 b1 c1 d1 w λv3 x3 y3 z3 a4 b4 w=>St (e3.add 0) (.int .u64 f3) w λw=>St (e3.add 1) (.int .u64 g3) w λw=>St (e3.add 2) (.int .u64 i3) w λw=>St (e3.add 3) (.int .u64 j3) w λw=>St (e3.add 4) (.int .u64 l3) w λw=>St (e3.add 5) (.int .u64 m3) w λw=>St (u3.add 0) (.int .u64 v3) w λw=>St (u3.add 1) (.int .u64 x3) w λw=>St (u3.add 2) (.int .u64 y3) w λw=>St (u3.add 3) (.int .u64 z3) w λw=>St (u3.add 4) (.int .u64 a4) w λw=>St (u3.add 5) (.int .u64 b4) w λw=>g7 Q q e3 u3 w))/\(Al T 175 w λc4 w=>w.cell? (p.add 0)=some (.int .u64 y)/\w.cell? (p.add 1)=some (.int .u64 z)/\w.cell? (p.add 2)=some (.int .u64 a1)/\w.cell? (p.add 3)=some (.int .u64 b1)/\w.cell? (p.add 4)=some (.int .u64 c1)/\w.cell? (p.add 5)=some (.int .u64 d1)/\w.cell? (o.add 0)=some (.int .u64 r)/\w.cell? (o.add 1)=some (.int .u64 s)/\w.cell? (o.add 2)=some (.int .u64 t)/\w.cell? (o.add 3)=some (.int .u64 u)/\w.cell? (o.add 4)=some (.int .u64 v)/\w.cell? (o.add 5)=some (.int .u64 x)/\cY r s t u v x w λd4 e4 f4 g4 i4 j4 w=>w.cell? (p.add 0)=some (.int .u64 y)/\w.cell? (p.add 1)=some (.int .u64 z)/\w.cell? (p.add 2)=some (.int .u64 a1)/\w.cell? (p.add 3)=some (.int .u64 b1)/\w.cell? (p.add 4)=some (.int .u64 c1)/\w.cell? (p.add 5)=some (.int .u64 d1)/\cY y z a1 b1 c1 d1 w λl4 m4 n4 o4 p4 q4 w=>St (e3.add 0) (.int .u64 d4) w λw=>St (e3.add 1) (.int .u64 e4) w λw=>St (e3.add 2) (.int .u64 f4) w λw=>St (e3.add 3) (.int .u64 g4) w λw=>St (e3.add 4) (.int .u64 i4) w λw=>St (e3.add 5) (.int .u64 j4) w λw=>St (c4.add 0) (.int .u64 l4) w λw=>St (c4.add 1) (.int .u64 m4) w λw=>St (c4.add 2) (.int .u64 n4) w λw=>St (c4.add 3) (.int .u64 o4) w λw=>St (c4.add 4) (.int .u64 p4) w λw=>St (c4.add 5) (.int .u64 q4) w λw=>g7 Q q e3 c4 w))/\(Al T 175 w.drew λr4 w=>w.cell? (p.add 0)=some (.int .u64 y)/\w.cell? (p.add 1)=some (.int .u64 z)/\w.cell? (p.add 2)=some (.int .u64 a1)/\w.cell? (p.add 3)=some (.int .u64 b1)/\w.cell? (p.add 4)=some (.int .u64 c1)/\w.cell? (p.add 5)=some (.int .u64 d1)/\w.cell? (o.add 0)=some (.int .u64 r)/\w.cell? (o.add 1)=some (.int .u64 s)/\w.cell? (o.add 2)=some (.int .u64 t)/\w.cell? (o.add 3)=some (.int .u64 u)/\w.cell? (o.add 4)=some (.int .u64 v)/\w.cell? (o.add 5)=some (.int .u64 x)/\(cY r s t u v x w λs4 t4 u4 v4 x4 y4 w=>w.cell? (p.add 0)=some (.int .u64 y)/\w.cell? (p.add 1)=some (.int .u64 z)/\w.cell? (p.add 2)=some (.int .u64 a1)/\w.cell? (p.add 3)=some (.int .u64 b1)/\w.cell? (p.add 4)=some (.int .u64 c1)/\w.cell? (p.add 5)=some (.int .u64 d1)/\(cY y z a1 b1 c1 d1 w λz4 a5 b5 c5 d5 e5 w=>Al T 175 w λf5 w=>w.cell? (p.add 0)=some (.int .u64 y)/\w.cell? (p.add 1)=some (.int .u64 z)/\w.cell? (p.add 2)=some (.int .u64 a1)/\w.cell? (p.add 3)=some (.int .u64 b1)/\w.cell? (p.add 4)=some (.int .u64 c1)/\w.cell? (p.add 5)=some (.int .u64 d1)/\w.cell? (o.add 0)=some (.int .u64 r)/\w.cell? (o.add 1)=some (.int .u64 s)/\w.cell? (o.add 2)=some (.int .u64 t)/\w.cell? (o.add 3)=some (.int .u64 u)/\w.cell? (o.add 4)=some (.int .u64 v)/\w.cell? (o.add 5)=some (.int .u64 x)/\St (f5.add 0) (.int .u64 s4) w λw=>St (f5.add 1) (.int .u64 t4) w λw=>St (f5.add 2) (.int .u64 u4) w λw=>St (f5.add 3) (.int .u64 v4) w λw=>St (f5.add 4) (.int .u64 x4) w λw=>St (f5.add 5) (.int .u64 y4) w λw=>St (r4.add 0) (.int .u64 z4) w λw=>St (r4.add 1) (.int .u64 a5) w λw=>St (r4.add 2) (.int .u64 b5) w λw=>St (r4.add 3) (.int .u64 c5) w λw=>St (r4.add 4) (.int .u64 d5) w λw=>St (r4.add 5) (.int .u64 e5) w λw=>g7 Q q f5 r4 w)/\(Al T 175 w λg5 w=>w.cell? (p.add 0)=some (.int .u64 y)/\w.cell? (p.add 1)=some (.int .u64 z)/\w.cell? (p.add 2)=some (.int .u64 a1)/\w.cell? (p.add 3)=some (.int .u64 b1)/\w.cell? (p.add 4)=some (.int .u64 c1)/\w.cell? (p.add 5)=some (.int .u64 d1)/\w.cell? (o.add 0)=some (.int .u64 r)/\w.cell? (o.add 1)=some (.int .u64 s)/\w.cell? (o.add 2)=some (.int .u64 t)/\w.cell? (o.add 3)=some (.int .u64 u)/\w.cell? (o.add 4)=some (.int .u64 v)/\w.cell? (o.add 5)=some (.int .u64 x)/\cY y z a1 b1 c1 d1 w λi5 j5 l5 m5 n5 o5 w=>St (g5.add 0) (.int .u64 s4) w λw=>St (g5.add 1) (.int .u64 t4) w λw=>St (g5.add 2) (.int .u64 u4) w λw=>St (g5.add 3) (.int .u64 v4) w λw=>St (g5.add 4) (.int .u64 x4) w λw=>St (g5.add 5) (.int .u64 y4) w λw=>St (r4.add 0) (.int .u64 i5) w λw=>St (r4.add 1) (.int .u64 j5) w λw=>St (r4.add 2) (.int .u64 l5) w λw=>St (r4.add 3) (.int .u64 m5) w λw=>St (r4.add 4) (.int .u64 n5) w λw=>St (r4.add 5) (.int .u64 o5) w λw=>g7 Q q g5 r4 w))/\(Al T 175 w λp5 w=>w.cell? (p.add 0)=some (.int .u64 y)/\w.cell? (p.add 1)=some (.int .u64 z)/\w.cell? (p.add 2)=some (.int .u64 a1)/\w.cell? (p.add 3)=some (.int .u64 b1)/\w.cell? (p.add 4)=some (.int .u64 c1)/\w.cell? (p.add 5)=some (.int .u64 d1)/\w.cell? (o.add 0)=some (.int .u64 r)/\w.cell? (o.add 1)=some (.int .u64 s)/\w.cell? (o.add 2)=some (.int .u64 t)/\w.cell? (o.add 3)=some (.int .u64 u)/\w.cell? (o.add 4)=some (.int .u64 v)/\w.cell? (o.add 5)=some (.int .u64 x)/\cY r s t u v x w λq5 r5 s5 t5 u5 v5 w=>w.cell? (p.add 0)=some (.int .u64 y)/\w.cell? (p.add 1)=some (.int .u64 z)/\w.cell? (p.add 2)=some (.int .u64 a1)/\w.cell? (p.add 3)=some (.int .u64 b1)/\w.cell? (p.add 4)=some (.int .u64 c1)/\w.cell? (p.add 5)=some (.int .u64 d1)/\cY y z a1 b1 c1 d1 w λx5 y5 z5 a6 b6 c6 w=>St (p5.add 0) (.int .u64 q5) w λw=>St (p5.add 1) (.int .u64 r5) w λw=>St (p5.add 2) (.int .u64 s5) w λw=>St (p5.add 3) (.int .u64 t5) w λw=>St (p5.add 4) (.int .u64 u5) w λw=>St (p5.add 5) (.int .u64 v5) w λw=>St (r4.add 0) (.int .u64 x5) w λw=>St (r4.add 1) (.int .u64 y5) w λw=>St (r4.add 2) (.int .u64 z5) w λw=>St (r4.add 3) (.int .u64 a6) w λw=>St (r4.add 4) (.int .u64 b6) w λw=>St (r4.add 5) (.int .u64 c6) w λw=>g7 Q q p5 r4 w)))) (ok 38) HQ [aL (af_ Q)] Tryz.func70
def FA:=λa w Q=>bB (sB a w Q) (cond a.isNone (Q 0 w) (wA a λb=>af .u64 (b.add 3) w λc=>Q c w)) (ok 9) [] [] Tryz.func106
def Cc:=λa w Q=>bB (pH a w Q) (cond a.isNone (Q 0 w) (wA a λb=>af .u64 (b.add 3) w λc=>Q c w)) (ok 9) [] [] Tryz.func107
noncomputable def Ug:cA:=[(1,sp 0 4 (sp 5 4 (.op 4 (.op 9 (.op 10 (.op 11 .done))))))]
def RQ:=λa w Q=>bB (uk a w Q) (Al T 32 w λb w=>wA a λc=>bg (c.add 1) w.drew λd=>wA a λe=>bg (e.add 2) w.drew λf=>sB d w.drew λg w=>w.cell? (e.add 2)=some (.pointer f)/\pH f w λi w=>St (b.add 0) (.int .u64 g) w λw=>St (b.add 1) (.int .u64 i) w λw=>St (b.add 2) (.int .u64 0) w λw=>St (b.add 3) (.int .u64 0) w λw=>St (b.add 4) (.int .u64 0) w λw=>St (b.add 5) (.int .u64 0) w λw=>af .u64 (b.add 0) w λj=>af .u64 (b.add 1) w λl=>af .u64 (b.add 2) w λm=>af .u64 (b.add 3) w λn=>af .u64 (b.add 4) w λo=>af .u64 (b.add 5) w λp=>Q j l m n o p w) (ok 14) Ug [] Tryz.func71
def Mx:=λa w Q=>bB (wH a w Q) (Al T 32 w λb w=>cond a.isNone (St (b.add 0) (.int .u64 0) w λw=>St (b.add 1) (.int .u64 0) w λw=>St (b.add 2) (.int .u64 0) w λw=>St (b.add 3) (.int .u64 0) w λw=>St (b.add 4) (.int .u64 0) w λw=>St (b.add 5) (.int .u64 0) w λw=>af .u64 (b.add 0) w λc=>af .u64 (b.add 1) w λd=>af .u64 (b.add 2) w λe=>af .u64 (b.add 3) w λf=>af .u64 (b.add 4) w λg=>af .u64 (b.add 5) w λi=>Q c d e f g i w) (wA a λj=>af .u64 ((j.add 2).add 0) w λl=>af .u64 ((j.add 2).add 1) w λm=>af .u64 ((j.add 2).add 2) w λn=>af .u64 ((j.add 2).add 3) w λo=>af .u64 ((j.add 2).add 4) w λp=>af .u64 ((j.add 2).add 5) w λq=>St (b.add 0) (.int .u64 l) w λw=>St (b.add 1) (.int .u64 m) w λw=>St (b.add 2) (.int .u64 n) w λw=>St (b.add 3) (.int .u64 o) w λw=>St (b.add 4) (.int .u64 p) w λw=>St (b.add 5) (.int .u64 q) w λw=>af .u64 (b.add 0) w λr=>af .u64 (b.add 1) w λs=>af .u64 (b.add 2) w λt=>af .u64 (b.add 3) w λu=>af .u64 (b.add 4) w λv=>af .u64 (b.add 5) w λx=>Q r s t u v x w)) (ok 10) [] [] Tryz.func72
noncomputable def Vr:cA:=[(3,sp 0 5 (sp 7 4 (.op 5 (.op 6 (.op 11 (.op 12 (.op 13 .done)))))))]
def Uh:=λa w Q=>bB (A8 a w Q) (Al T 32 w λb w=>cond a.isNone (St (b.add 0) (.int .u64 0) w λw=>St (b.add 1) (.int .u64 0) w λw=>St (b.add 2) (.int .u64 0) w λw=>St (b.add 3) (.int .u64 0) w λw=>St (b.add 4) (.int .u64 0) w λw=>St (b.add 5) (.int .u64 0) w λw=>af .u64 (b.add 0) w λc=>af .u64 (b.add 1) w λd=>af .u64 (b.add 2) w λe=>af .u64 (b.add 3) w λf=>af .u64 (b.add 4) w λg=>af .u64 (b.add 5) w λi=>Q c d e f g i w) (wA a λj=>af .u64 ((j.add 4).add 0) w.drew λl=>af .u64 ((j.add 4).add 1) w.drew λm=>af .u64 ((j.add 4).add 2) w.drew λn=>af .u64 ((j.add 4).add 3) w.drew λo=>af .u64 ((j.add 4).add 4) w.drew λp=>af .u64 ((j.add 4).add 5) w.drew λq=>wA a λr=>bg (r.add 3) w.drew λs=>uk a w.drew λt u v x y z w=>w.cell? (r.add 3)=some (.pointer s)/\w.cell? ((j.add 4).add 0)=some (.int .u64 l)/\w.cell? ((j.add 4).add 1)=some (.int .u64 m)/\w.cell? ((j.add 4).add 2)=some (.int .u64 n)/\w.cell? ((j.add 4).add 3)=some (.int .u64 o)/\w.cell? ((j.add 4).add 4)=some (.int .u64 p)/\w.cell? ((j.add 4).add 5)=some (.int .u64 q)/\xe l m n o p q t u v x y z w λa1 b1 c1 d1 e1 f1 w=>w.cell? (r.add 3)=some (.pointer s)/\wH s w λg1 i1 j1 l1 m1 n1 w=>xe a1 b1 c1 d1 e1 f1 g1 i1 j1 l1 m1 n1 w λo1 p1 q1 r1 s1 t1 w=>St (b.add 0) (.int .u64 o1) w λw=>St (b.add 1) (.int .u64 p1) w λw=>St (b.add 2) (.int .u64 q1) w λw=>St (b.add 3) (.int .u64 r1) w λw=>St (b.add 4) (.int .u64 s1) w λw=>St (b.add 5) (.int .u64 t1) w λw=>af .u64 (b.add 0) w λu1=>af .u64 (b.add 1) w λv1=>af .u64 (b.add 2) w λx1=>af .u64 (b.add 3) w λy1=>af .u64 (b.add 4) w λz1=>af .u64 (b.add 5) w λa2=>Q u1 v1 x1 y1 z1 a2 w)) (ok 19) Vr [] Tryz.func43
def My:=λa w Q=>bB (wB a w Q) (Al T 32 w λb w=>Fq a w λc w=>A8 c w λd e f g i j w=>St (b.add 0) (.int .u64 d) w λw=>St (b.add 1) (.int .u64 e) w λw=>St (b.add 2) (.int .u64 f) w λw=>St (b.add 3) (.int .u64 g) w λw=>St (b.add 4) (.int .u64 i) w λw=>St (b.add 5) (.int .u64 j) w λw=>af .u64 (b.add 0) w λl=>af .u64 (b.add 1) w λm=>af .u64 (b.add 2) w λn=>af .u64 (b.add 3) w λo=>af .u64 (b.add 4) w λp=>af .u64 (b.add 5) w λq=>Q l m n o p q w) (ok 6) [] [] Tryz.func22
def mU (Q:Int->Int->Bool->Bool->WP)(a b:Addr)(w:World):Prop:=af .i64 (b.add 0) w λc=>af .i64 (b.add 1) w λd=>cv (b.add 2) w λe=>St (a.add 0) (ae c) w λw=>St (a.add 1) (ae d) w λw=>St (a.add 2) (.bool e) w λw=>af .i64 (a.add 0) w λf=>af .i64 (a.add 1) w λg=>cv (a.add 2) w λi=>Q f g i true w
def uY (Q:Int->Int->Bool->Bool->WP)(a b:Addr)(w:World):Prop:=St (b.add 1) (ae 4) w λw=>St b (ae 4) w λw=>mU Q a b w
def PM (Q):Bk 26 Tryz.f76 (Ju Q) 16 [(2,.a),(4,.a)] (mU Q):=aU (ok 26) [] []
def adf (Q):Bk 26 Tryz.f76 (Ju Q) 13 [(2,.a),(4,.a)] (uY Q):=aU (ok 26) [] [aL (PM Q)]
def aa7:=λa w Q=>bB (xg a w Q) (Al T 137 w λb w=>Al T 137 w λc w=>cond (a==1) (St (c.add 2) (.bool true) w λw=>mU Q b c w) (cond (a==2) (St c (ae 4) w λw=>St (c.add 1) (ae 1) w λw=>mU Q b c w) (cond (a==3) (uY Q b c w) (cond (a==4) (uY Q b c w) (cond (a==6) (uY Q b c w) (cond (a==5) (St c (ae 4) w λw=>mU Q b c w) (cond (a==7) (mU Q b c w) (cond (a==8) (mU Q b c w) (St (b.add 0) (ae 0) w λw=>St (b.add 1) (ae 0) w λw=>St (b.add 2) (.bool false) w λw=>af .i64 (b.add 0) w λd=>af .i64 (b.add 1) w λe=>cv (b.add 2) w λf=>Q d e f false w))))))))) (ok 26) [] [aL (adf Q),aL (PM Q)] Tryz.func76
def AS (Q:Int->WP)(R3:Int->L3 (Int->Int->WP))(a:Int)(b:OA)(c d:Nat)(e f:Int)(w:World):Prop:=cond (decide (f<e)) (aH f c<|wA b λg=>af .u8 (g.add (f.toNat*1)) w λi=>D3 (IntKind.wrap .i64 (8*f))<|R3 (ior .i64 a (BO .i64 (IntKind.wrap .i64 i) (IntKind.wrap .i64 (8*f)))) b c d e (IntKind.wrap .i64 (f+1)) w) (Q a w)
def wU (Q:Int->WP):Nat->Int->L3 (Int->Int->WP)
 |0,_,_,_,_,_,_,_=>False
 |k+1,a,b,c,d,e,f,w=>AS Q (wU Q k) a b c d e f w
def agb (Q):∀k,Bk 22 Tryz.f140 (Tq Q) 3 [(3,.i .i64),(6,.l),(7,.i .i64),(8,.i .i64)] (wU Q k):=bI λk h=>aU (ok 22) [] [aL h]
def aa8:=λa b c w Q=>bB (xk a b c w Q) (∃k',wU Q k' 0 a b c (b:Int) 0 w) (ok 22) [] [bY (agb Q)] Tryz.func140
noncomputable def ahS:cA:=[(1,sp 0 6 (.op 6 (.op 7 .done))),(14,sp 0 5 (sp 6 9 (sp 17 6 (.op 5 (.op 15 (.op 16 (.op 23 (.op 24 .done))))))))]
def agc:=λa b c w Q=>bB (Jw a b c w Q) (Al T 38 w λd w=>aH 0 b<|wA a λe=>af .u8 (e.add (((0:Int).toNat)*1)) w.drew λf=>bS a b c 1 (some 1) none λg i j=>xg (IntKind.wrap .i64 f) w.drew λl m n o w=>Al T 137 w λp w=>St (p.add 0) (ae l) w λw=>St (p.add 1) (ae m) w λw=>St (p.add 2) (.bool n) w λw=>cond (!o) (St (d.add 0) (ae 0) w λw=>St (d.add 1) (ae (IntKind.wrap .i64 f)) w λw=>St (d.add 2) (ae 0) w λw=>St (d.add 3) (.slice none 0 0) w λw=>af .i64 (d.add 0) w λq=>af .i64 (d.add 1) w λr=>af .i64 (d.add 2) w λs=>aA (d.add 3) w λt u v=>Q q r s t u v 1 w) (cv (p.add 2) w λx=>cond x (cond (decide ((i:Int)<4)) (St (d.add 0) (ae 0) w λw=>St (d.add 1) (ae 0) w λw=>St (d.add 2) (ae 0) w λw=>St (d.add 3) (.slice none 0 0) w λw=>af .i64 (d.add 0) w λy=>af .i64 (d.add 1) w λz=>af .i64 (d.add 2) w λa1=>aA (d.add 3) w λb1 c1 d1=>Q y z a1 b1 c1 d1 0 w) (bS g i j 1 none (some 4) λe1 f1 g1=>xk e1 f1 g1 w λi1 w=>cond (decide ((IntKind.wrap .i64 ((i:Int)-4))<i1)) (St (d.add 0) (ae 0) w λw=>St (d.add 1) (ae 0) w λw=>St (d.add 2) (ae 0) w λw=>St (d.add 3) (.slice none 0 0) w λw=>af .i64 (d.add 0) w λj1=>af .i64 (d.add 1) w λl1=>af .i64 (d.add 2) w λm1=>aA (d.add 3) w λn1 o1 p1=>Q j1 l1 m1 n1 o1 p1 0 w) (bS g i j 1 (some 4) (some (IntKind.wrap .i64 (4+i1))) λq1 r1 s1=>App P #[22,22] 22 (.slice none 0 0) (.slice q1 r1 s1) w λt1 u1 v1 w=>St (d.add 0) (ae (IntKind.wrap .i64 f)) w λw=>St (d.add 1) (ae 0) w λw=>St (d.add 2) (ae 0) w λw=>St (d.add 3) (.slice t1 u1 v1) w λw=>af .i64 (d.add 0) w λx1=>af .i64 (d.add 1) w λy1=>af .i64 (d.add 2) w λz1=>aA (d.add 3) w λa2 b2 c2=>Q x1 y1 z1 a2 b2 c2 (IntKind.wrap .i64 (5+i1)) w))) (af .i64 p w λd2=>af .i64 (p.add 1) w λe2=>cond (decide ((i:Int)<(IntKind.wrap .i64 (d2+e2)))) (St (d.add 0) (ae 0) w λw=>St (d.add 1) (ae 0) w λw=>St (d.add 2) (ae 0) w λw=>St (d.add 3) (.slice none 0 0) w λw=>af .i64 (d.add 0) w λf2=>af .i64 (d.add 1) w λg2=>af .i64 (d.add 2) w λi2=>aA (d.add 3) w λj2 l2 m2=>Q f2 g2 i2 j2 l2 m2 0 w) (af .i64 p w.drew λn2=>bS g i j 1 none (some n2) λo2 p2 q2=>af .i64 p w.drew λr2=>af .i64 p w.drew λs2=>af .i64 (p.add 1) w.drew λt2=>bS g i j 1 (some r2) (some (IntKind.wrap .i64 (s2+t2))) λu2 v2 x2=>af .i64 p w.drew λy2=>af .i64 (p.add 1) w.drew λz2=>xk o2 p2 q2 w.drew λa3 w=>w.cell? (p.add 1)=some (ae z2)/\w.cell? p=some (ae y2)/\w.cell? (p.add 1)=some (ae t2)/\w.cell? p=some (ae s2)/\w.cell? p=some (ae r2)/\xk u2 v2 x2 w λb3 w=>w.cell? (p.add 1)=some (ae z2)/\w.cell? p=some (ae y2)/\St (d.add 0) (ae (IntKind.wrap .i64 f)) w λw=>St (d.add 1) (ae a3) w λw=>St (d.add 2) (ae b3) w λw=>St (d.add 3) (.slice none 0 0) w λw=>w.cell? (p.add 1)=some (ae z2)/\w.cell? p=some (ae y2)/\af .i64 (d.add 0) w λc3=>af .i64 (d.add 1) w λd3=>af .i64 (d.add 2) w λe3=>aA (d.add 3) w λf3 g3 i3=>Q c3 d3 e3 f3 g3 i3 (IntKind.wrap .i64 ((IntKind.wrap .i64 (1+y2))+z2)) w)))) (ok 80) ahS [] Tryz.func109
def ahT:=λa b c w Q=>bB (K7 a b c w Q) (cond ((b:Int)==0) (Q false w) (Jw a b c w λd e f g i j l w=>Al T 38 w λm w=>St (m.add 0) (ae d) w λw=>St (m.add 1) (ae e) w λw=>St (m.add 2) (ae f) w λw=>St (m.add 3) (.slice g i j) w λw=>Q (l==0) w)) (ok 15) [] [] Tryz.func75
def agd:=λa b w Q=>bB (AQ a b w Q) (cond (decide (a≥0)) (D3 (IntKind.wrap .i64 (8*b))<|Q (decide (a<(BO .i64 1 (IntKind.wrap .i64 (8*b))))) w) (Q false w)) (ok 14) [] [] Tryz.func77
def ahU:=λa b c d e f w Q=>bB (K5 a b c d e f w Q) (Bx [ae a,ae b,ae c,.slice d e f] 38 w λg w=>af .i64 g w λi=>cond (i==0) (af .i64 (g.add 1) w λj=>cond (j==(-1)) (af .i64 (g.add 2) w λl=>cond (l==0) (aA (g.add 3) w λm n o=>K7 m n o w λp w=>Q p w) (Q false w)) (af .i64 (g.add 1) w λq=>xg q w λr s t u w=>Al T 137 w λv w=>St (v.add 0) (ae r) w λw=>St (v.add 1) (ae s) w λw=>St (v.add 2) (.bool t) w λw=>af .i64 (g.add 1) w λx=>AQ x 1 w λy w=>cond y (cond (!u) (af .i64 (g.add 2) w λz=>cond (z==0) (aA (g.add 3) w λa1 b1 c1=>Q ((b1:Int)==0) w) (Q false w)) (Q false w)) (Q false w))) (af .i64 g w λd1=>xg d1 w λe1 f1 g1 i1 w=>Al T 137 w λj1 w=>St (j1.add 0) (ae e1) w λw=>St (j1.add 1) (ae f1) w λw=>St (j1.add 2) (.bool g1) w λw=>cond i1 (af .i64 (g.add 1) w λl1=>af .i64 j1 w λm1=>AQ l1 m1 w λn1 w=>cond n1 (af .i64 (g.add 2) w λo1=>af .i64 (j1.add 1) w λp1=>AQ o1 p1 w λq1 w=>cond q1 (aA (g.add 3) w λr1 s1 t1=>cond ((s1:Int)==0) (Q true w) (cv (j1.add 2) w λu1=>cond u1 (aA (g.add 3) w λv1 x1 y1=>Q (decide ((x1:Int)<=4294967295)) w) (Q false w))) (Q false w)) (Q false w)) (Q false w))) (ok 82) [] [] Tryz.func48
def RR:=λa b w Q=>bB (fg a b w Q) (cond a.isNone (Q 0 w) (cond (decide (b<0)) (Q 0 w) (wA a λc=>aA (c.add 2) w λd e f=>cond (decide (b≥(e:Int))) (Q 0 w) (wA a λg=>aA (g.add 2) w λi j l=>aH b j<|wA i λm=>af .u8 (m.add (b.toNat*1)) w λn=>Q (IntKind.wrap .i64 n) w)))) (ok 30) [] [] Tryz.func110
def Vs:=λa b w Q=>bB (rU a b w Q) (cond a.isNone (Q 0 w) (wA a λc=>bg c w λd=>fg d b w λe w=>Q e w)) (ok 13) [] [] Tryz.func78
def sG (Q:Value->WP)(a:OA)(b:Addr)(w:World):Prop:=wA a λc=>bg (c.add 1) w.drew λd=>af .i64 (b.add 1) w.drew λe=>rU d e w.drew λf w=>cond (f==0) (Q (.iface 108 (ae 7)) w) (Q (.nilIface) w)
noncomputable def Ea:cA:=[(4,sp 0 6 (.op 6 (.op 7 .done))),(6,sp 0 6 (.op 6 (.op 7 .done)))]
def PN (Q):Bk 29 Tryz.f49 (Fs Q) 6 [(0,.p),(3,.a)] (sG Q):=aU (ok 29) Ea []
def Mz:=λa b c d e f g w Q=>bB (wD a b c d e f g w Q) (Bx [ae b,ae c,ae d,.slice e f g] 38 w λi w=>af .i64 i w λj=>cond (j==3) (wA a λl=>bg (l.add 1) w.drew λm=>af .i64 (i.add 2) w.drew λn=>rU m n w.drew λo w=>cond (o==0) (Q (.iface 108 (ae 7)) w) (sG Q a i w)) (cond (j==2) (sG Q a i w) (Q (.nilIface) w))) (ok 29) Ea [aL (PN Q)] Tryz.func49
def E3:=λa w Q=>bB (gx a w Q) (cond (a==0) (Q (.nilIface) w) (Q (.iface 108 (ae a)) w)) (ok 7) [] [] Tryz.func54
def adg (P1:Value->Value->Value->Addr->WP)(Q:Bool->WP)(R18:Value->Value->Addr->L3 (Int->Int->WP))(a b:Value)(c:Addr)(d:OA)(e f:Nat)(g i:Int)(w:World):Prop:=cond (decide (i<g)) (aH i e<|wA d λj=>bZ (j.add (i.toNat*1)) w λl=>BP l λm=>cond m (R18 a b c d e f g (IntKind.wrap .i64 (i+1)) w) (bg (c.add 0) w λn=>bg (c.add 1) w λo=>af .u64 (c.add 2) w λp=>Gf l a n o p b w λq w=>cond q (Q true w) (R18 a b c d e f g (IntKind.wrap .i64 (i+1)) w))) (Q false w)
def HR (P1:Value->Value->Value->Addr->WP)(Q:Bool->WP):Nat->Value->Value->Addr->L3 (Int->Int->WP)
 |0,_,_,_,_,_,_,_,_,_=>False
 |k+1,a,b,c,d,e,f,g,i,w=>adg P1 Q (HR P1 Q k) a b c d e f g i w
def Jz (P1:Value->Value->Value->Addr->WP)(Q:Bool->WP)(a b c:Value)(d:Addr)(w:World):Prop:=aM P (Instr.typeAssert a 74 224 true) w λe w=>dT e λf=>dH f λg i=>dV g λj=>dH i λl m=>dB l λn=>kT m<|cond n (yQ (cx 62) j "Unwrap" [] w λo w=>dV o λp=>BP p λq=>cond q (Q false w) (P1 p b c d w)) (aM P (Instr.typeAssert a 74 226 true) w λr w=>dT r λs=>dH s λt u=>dV t λv=>dH u λx y=>dB x λz=>kT y<|cond z (yQ (cx 62) v "Unwrap" [] w λa1 w=>dS a1 λb1 c1 d1=>∃k',HR P1 Q k' b c d b1 c1 d1 (c1:Int) 0 w) (Q false w))
def wV (Q:Bool->WP)(R1:Value->Value->Value->Addr->WP)(a b c:Value)(d:Addr)(w:World):Prop:=tT P 95 #[a] w λe w=>dV e λf=>yQ (cx 62) f "AssignableTo" [c] w λg w=>dB g λi=>cond i (bg (d.add 0) w λj=>bg (d.add 1) w λl=>af .u64 (d.add 2) w λm=>tT P 138 #[.agg #[.pointer j,.pointer l,.int .u64 m]] w λn w=>dL n λo=>dH o λp q=>dP p λr=>dH q λs t=>dP s λu=>dH t λv x=>dI .u64 v λy=>kT x<|tT P 97 #[a] w λz w=>dL z λa1=>dH a1 λb1 c1=>dP b1 λd1=>dH c1 λe1 f1=>dP e1 λg1=>dH f1 λi1 j1=>dI .u64 i1 λl1=>kT j1<|tT P 139 #[.agg #[.pointer r,.pointer u,.int .u64 y],.agg #[.pointer d1,.pointer g1,.int .u64 l1]] w λm1 w=>dT m1 λn1=>kT n1<|Q true w) (aM P (Instr.typeAssert a 74 231 true) w λo1 w=>dT o1 λp1=>dH p1 λq1 r1=>dV q1 λs1=>dH r1 λt1 u1=>dB t1 λv1=>kT u1<|cond v1 (yQ (cx 62) s1 "As" [b] w λx1 w=>dB x1 λy1=>cond y1 (Q true w) (Jz R1 Q a b c d w)) (Jz R1 Q a b c d w))
def ji (Q:Bool->WP):Nat->Value->Value->Value->Addr->WP
 |0,_,_,_,_,_=>False
 |k+1,a,b,c,d,w=>wV Q (ji Q k) a b c d w
def adh {P1}(Q)(H1:Bk 62 Tryz.f100 (wT Q) 1 [(0,.v),(1,.v),(3,.v),(6,.a)] P1):∀k,Bk 62 Tryz.f100 (wT Q) 18 [(1,.v),(3,.v),(6,.a),(48,.l),(49,.i .i64),(50,.i .i64)] (HR P1 Q k):=bI λk h=>aU (ok 62) [] [aL h]
def age {P1}(Q)(H1:Bk 62 Tryz.f100 (wT Q) 1 [(0,.v),(1,.v),(3,.v),(6,.a)] P1):Bk 62 Tryz.f100 (wT Q) 7 [(0,.v),(1,.v),(3,.v),(6,.a)] (Jz P1 Q):=aU (ok 62) [] [aL H1,bY (adh Q H1)]
def agf (Q):∀k,Bk 62 Tryz.f100 (wT Q) 1 [(0,.v),(1,.v),(3,.v),(6,.a)] (ji Q k):=bI λk h=>aU (ok 62) [] [aL (age Q h)]
def Gp:=λa b c d e f w Q=>bB (Gf a b c d e f w Q) (Bx [.pointer c,.pointer d,.int .u64 e] 161 w λg w=>∃k',ji Q k' a b f g w) (ok 62) [] [bY (agf Q)] Tryz.func100
def HS (Q:Bool->WP)(a b:Value)(c:Addr)(d:Value)(w:World):Prop:=bg (c.add 0) w λe=>bg (c.add 1) w λf=>af .u64 (c.add 2) w λg=>Gf a b e f g d w λi w=>Q i w
def JA (Q:Bool->WP)(a b:Value)(c:Addr)(d:Value)(w:World):Prop:=False
def PO (Q):Bk 42 Tryz.f60 (Jr Q) 12 [(0,.v),(1,.v),(5,.a),(7,.v)] (HS Q):=aU (ok 42) [] []
def agh (Q):Bk 42 Tryz.f60 (Jr Q) 8 [(0,.v),(1,.v),(5,.a),(6,.v)] (JA Q):=aU (ok 42) [] [aL (PO Q)]
def Bs:=λa b w Q=>bB (nG a b w Q) (BP a λc=>cond c (Q false w) (BP b λd=>cond d (False) (tT P 97 #[b] w λe w=>dL e λf=>dH f λg i=>dP g λj=>dH i λl m=>dP l λn=>dH m λo p=>dI .u64 o λq=>kT p<|Al T 161 w λr w=>St (r.add 0) (.pointer j) w λw=>St (r.add 1) (.pointer n) w λw=>St (r.add 2) (.int .u64 q) w λw=>bg (r.add 0) w λs=>bg (r.add 1) w λt=>af .u64 (r.add 2) w λu=>tT P 98 #[.agg #[.pointer s,.pointer t,.int .u64 u]] w λv w=>dV v λx=>yQ (cx 42) x "Kind" [] w λy w=>dI .u8 y λz=>cond (z !=22) (JA Q a b r x w) (bg (r.add 0) w λa1=>bg (r.add 1) w λb1=>af .u64 (r.add 2) w λc1=>tT P 99 #[.agg #[.pointer a1,.pointer b1,.int .u64 c1]] w λd1 w=>dB d1 λe1=>cond e1 (JA Q a b r x w) (yQ (cx 42) x "Elem" [] w λf1 w=>dV f1 λg1=>yQ (cx 42) g1 "Kind" [] w λi1 w=>dI .u8 i1 λj1=>cond (j1 !=20) (bZ (aZ 1) w λl1=>yQ (cx 42) g1 "Implements" [l1] w λm1 w=>dB m1 λn1=>cond (!n1) (False) (HS Q a b r g1 w)) (HS Q a b r g1 w)))))) (ok 42) [] [aL (agh Q),aL (PO Q)] Tryz.func60
def aa9:=λa b w Q=>bB (lN a b w Q) (cond (decide (a≥1)) (cond (decide (a<=1024)) (cond (decide (b≥1)) (Q (decide (b<=1024)) w) (Q false w)) (Q false w)) (Q false w)) (ok 19) [] [] Tryz.func69
def Uj:=λa b w Q=>bB (lC a b w Q) (lN a b w λc w=>cond (!c) (Q 0 0 w) (NZ 16<|NZ 16<|Q (IntKind.wrap .i64 (Int.tdiv (IntKind.wrap .i64 ((IntKind.wrap .i64 (a+16))-1)) 16)) (IntKind.wrap .i64 (Int.tdiv (IntKind.wrap .i64 ((IntKind.wrap .i64 (b+16))-1)) 16)) w)) (ok 18) [] [] Tryz.func146
def Zl:=λa b w Q=>bB (EV a b w Q) (lC a b w λc d w=>Q (IntKind.wrap .i64 (c*d)) w) (ok 16) [] [] Tryz.func141
noncomputable def XM:cA:=[(4,sp 0 8 (.op 8 (.op 9 (.op 10 .done))))]
def Vt:=λa b c w Q=>bB (xl a b c w Q) (lC a b w λd e w=>cond (decide (c<0)) (Q 0 0 false w) (cond (decide (c≥(IntKind.wrap .i64 (d*e)))) (Q 0 0 false w) (NZ d<|NZ d<|Q (IntKind.wrap .i64 ((Int.tmod c d)*16)) (IntKind.wrap .i64 ((IntKind.wrap .i64 (Int.tdiv c d))*16)) true w.drew))) (ok 34) XM [] Tryz.func157
def Zm:=λa b c w Q=>bB (om a b c w Q) (xl a b c w λd e f w=>cond (!f) (Q 0 0 w) (Q (DG 16 (IntKind.wrap .i64 (a-d))) (DG 16 (IntKind.wrap .i64 (b-e))) w)) (ok 29) [] [] Tryz.func142
def adi (P1:Value->Value->Bool->WP)(Q:Bool->WP)(R17:Value->Bool->L3 (Int->Int->WP))(a:Value)(b:Bool)(c:OA)(d e:Nat)(f g:Int)(w:World):Prop:=cond (decide (g<f)) (aH g d<|wA c λi=>bZ (i.add (g.toNat*1)) w λj=>xh j a b w λl w=>cond l (Q true w) (R17 a b c d e f (IntKind.wrap .i64 (g+1)) w)) (Q false w)
def HT (P1:Value->Value->Bool->WP)(Q:Bool->WP):Nat->Value->Bool->L3 (Int->Int->WP)
 |0,_,_,_,_,_,_,_,_=>False
 |k+1,a,b,c,d,e,f,g,w=>adi P1 Q (HT P1 Q k) a b c d e f g w
def JB (P1:Value->Value->Bool->WP)(Q:Bool->WP)(a b:Value)(c:Bool)(w:World):Prop:=aM P (Instr.typeAssert a 74 224 true) w λd w=>dT d λe=>dH e λf g=>dV f λi=>dH g λj l=>dB j λm=>kT l<|cond m (yQ (cx 54) i "Unwrap" [] w λn w=>dV n λo=>BP o λp=>cond p (Q false w) (P1 o b c w)) (aM P (Instr.typeAssert a 74 226 true) w λq w=>dT q λr=>dH r λs t=>dV s λu=>dH t λv x=>dB v λy=>kT x<|cond y (yQ (cx 54) u "Unwrap" [] w λz w=>dS z λa1 b1 c1=>∃k',HT P1 Q k' b c a1 b1 c1 (b1:Int) 0 w) (Q false w))
def JC (P1:Value->Value->Bool->WP)(Q:Bool->WP)(a b:Value)(c:Bool)(w:World):Prop:=aM P (Instr.typeAssert a 74 221 true) w λd w=>dT d λe=>dH e λf g=>dV f λi=>dH g λj l=>dB j λm=>kT l<|cond m (yQ (cx 54) i "Is" [b] w λn w=>dB n λo=>cond o (Q true w) (JB P1 Q a b c w)) (JB P1 Q a b c w)
def AT (Q:Bool->WP)(R1:Value->Value->Bool->WP)(a b:Value)(c:Bool)(w:World):Prop:=cond c (bU P .eql 74 (.tmp 16) (.tmp 17) a b w λd w=>cond d (Q true w) (JC R1 Q a b c w)) (JC R1 Q a b c w)
def qi (Q:Bool->WP):Nat->Value->Value->Bool->WP
 |0,_,_,_,_=>False
 |k+1,a,b,c,w=>AT Q (qi Q k) a b c w
def adj {P1}(Q)(H1:Bk 54 Tryz.f96 (qf Q) 1 [(0,.v),(1,.v),(2,.b)] P1):∀k,Bk 54 Tryz.f96 (qf Q) 17 [(1,.v),(2,.b),(43,.l),(44,.i .i64),(45,.i .i64)] (HT P1 Q k):=bI λk h=>aU (ok 54) [] [aL h]
def agi {P1}(Q)(H1:Bk 54 Tryz.f96 (qf Q) 1 [(0,.v),(1,.v),(2,.b)] P1):Bk 54 Tryz.f96 (qf Q) 6 [(0,.v),(1,.v),(2,.b)] (JB P1 Q):=aU (ok 54) [] [aL H1,bY (adj Q H1)]
def agj {P1}(Q)(H1:Bk 54 Tryz.f96 (qf Q) 1 [(0,.v),(1,.v),(2,.b)] P1):Bk 54 Tryz.f96 (qf Q) 3 [(0,.v),(1,.v),(2,.b)] (JC P1 Q):=aU (ok 54) [] [aL (agi Q H1)]
def agk (Q):∀k,Bk 54 Tryz.f96 (qf Q) 1 [(0,.v),(1,.v),(2,.b)] (qi Q k):=bI λk h=>aU (ok 54) [] [aL (agj Q h)]
def Nr:=λa b c w Q=>bB (xh a b c w Q) (∃k',qi Q k' a b c w) (ok 54) [] [bY (agk Q)] Tryz.func96
def Ns:=λa b w Q=>bB (pF a b w Q) (BP a λc=>cond c (bU P .eql 74 (.tmp 12) (.tmp 13) a b w λd w=>Q d w) (BP b λe=>cond e (bU P .eql 74 (.tmp 12) (.tmp 13) a b w λf w=>Q f w) (tT P 95 #[b] w λg w=>dV g λi=>yQ (cx 22) i "Comparable" [] w λj w=>dB j λl=>xh a b l w λm w=>Q m w))) (ok 22) [] [] Tryz.func59
def HU:=λa b c w Q=>bB (mQ a b c w Q) (cond a.isNone (Q none 0 0 w) (Bx [] 5 w λd w=>App P #[22,22] 22 (.slice (some d) 0 0) (.slice a b c) w λe f g w=>Q e f g w)) (ok 8) [] [] Tryz.func103
noncomputable def PR:cA:=[(1,sp 0 12 .done),(2,.op 0 (.op 1 (.op 2 .done))),(4,sp 0 15 (.op 15 (.op 16 .done)))]
def Oj:=λa b w Q=>bB (nR a b w Q) (wA a λc=>aA c w.drew λd e f=>wA a λg=>af .i64 (g.add 1) w.drew λi=>cond (decide ((IntKind.wrap .i64 ((e:Int)-i))<b)) (bZ (aZ 6) w.drew.drew λj=>w.drew.drew.cell? (aZ 6)=some j/\dV j λl=>Q none 0 0 l w.drew.drew) (wA a λm=>af .i64 (m.add 1) w.drew λn=>wA a λo=>St (o.add 1) (ae (IntKind.wrap .i64 (n+b))) w.drew λw=>wA a λp=>aA p w.drew λq r s=>wA a λt=>af .i64 (t.add 1) w.drew λu=>wA a λv=>af .i64 (v.add 1) w.drew λx=>bS q r s 1 (some (IntKind.wrap .i64 (u-b))) (some x) λy z a1=>Q y z a1 (.nilIface) w.drew)) (ok 42) PR [] Tryz.func186
def kX (Q:Int->WP)(R2:L3 (Int->Int->Int->WP))(a:OA)(b c:Nat)(d e f:Int)(w:World):Prop:=cond (decide (f<e)) (aH f b<|wA a λg=>af .u8 (g.add (f.toNat*1)) w λi=>cond (d==i) (Q f w) (R2 a b c d e (IntKind.wrap .i64 (f+1)) w)) (Q (-1) w)
def jj (Q:Int->WP):Nat->L3 (Int->Int->Int->WP)
 |0,_,_,_,_,_,_,_=>False
 |k+1,a,b,c,d,e,f,w=>kX Q (jj Q k) a b c d e f w
def JD (Q):∀k,Bk 19 Tryz.f160 (AR Q) 2 [(0,.l),(1,.i .u8),(7,.i .i64),(8,.i .i64)] (jj Q k):=bI λk h=>aU (ok 19) [] [aL h]
def HV:=λa b c d w Q=>bB (y_ a b c d w Q) (∃k',jj Q k' a b c d (b:Int) 0 w) (ok 19) [] [bY (JD Q)] Tryz.func160
def FX:=λa b c d w Q=>bB (iY a b c d w Q) (y_ a b c d w λe w=>Q (decide (e≥0)) w) (ok 9) [] [] Tryz.func145
def MA:=λa b w Q=>bB (qC a b w Q) (nR a b w λc d e f w=>BP f λg=>cond g (iY c d e 0 w λi w=>cond i (bZ (aZ 5) w λj=>dV j λl=>Q c d e l w) (dV f λm=>Q c d e m w)) (dV f λn=>Q c d e n w)) (ok 23) [] [] Tryz.func187
def PT:=λa b w Q=>bB (Fw a b w Q) (D3 32<|D3 32<|D3 32<|D3 32<|D3 32<|Q (IntKind.wrap .u64 ((IntKind.wrap .u64 ((IntKind.wrap .u64 ((pA .u64 a 32)*(pA .u64 b 32)))+(pA .u64 (IntKind.wrap .u64 ((IntKind.wrap .u64 ((pA .u64 a 32)*(BN .u64 b 4294967295)))+(pA .u64 (IntKind.wrap .u64 ((BN .u64 a 4294967295)*(BN .u64 b 4294967295))) 32))) 32)))+(pA .u64 (IntKind.wrap .u64 ((BN .u64 (IntKind.wrap .u64 ((IntKind.wrap .u64 ((pA .u64 a 32)*(BN .u64 b 4294967295)))+(pA .u64 (IntKind.wrap .u64 ((BN .u64 a 4294967295)*(BN .u64 b 4294967295))) 32))) 4294967295)+(IntKind.wrap .u64 ((BN .u64 a 4294967295)*(pA .u64 b 32))))) 32))) (IntKind.wrap .u64 (a*b)) w) (ok 51) [] [] Tryz.func240
def Uk:=λa b w Q=>bB (qL a b w Q) (Fw a b w λc d w=>Q c d w) (ok 30) [] [] Tryz.func218
def tH (Q:L3 WP)(R18:Int->Int->L3 (Int->WP))(a b:Int)(c:OA)(d e:Nat)(f:Int)(w:World):Prop:=cond (decide (f<a)) (bS c d e 1 (some f) none λg i j=>bS c d e 1 none (some (DG f b)) λl m n=>cH P #[22,22] 3 (.slice g i j) (.slice l m n) w.drew λo w=>R18 a b c d e (IntKind.wrap .i64 (f+o)) w) (Q c d e w)
def tI (Q:L3 WP):Nat->Int->Int->L3 (Int->WP)
 |0,_,_,_,_,_,_,_=>False
 |k+1,a,b,c,d,e,f,w=>tH Q (tI Q k) a b c d e f w
def yG (Q:L3 WP)(a:OA)(b c:Nat)(d e:Int)(w:World):Prop:=tT P 219 #[ae d] w λf w=>dS f λg i j=>aM P (Instr.sliceAt 22 (.slice g i j) none (some (ae d)) (some (ae d))) w λo w=>dS o λl m n=>cH P #[22,22] 3 (.slice l m n) (.slice a b c) w λp w=>∃k',tI Q k' d e l m n p w
def E4 (Q:L3 WP)(a:OA)(b c:Nat)(d:Int)(w:World):Prop:=False
noncomputable def yH:cA:=[(20,sp 0 7 (.op 7 (.op 8 (.op 9 .done))))]
def XN (Q):∀k,Bk 77 Tryz.f188 (Ah Q) 18 [(7,.i .i64),(8,.i .i64),(9,.l),(10,.i .i64)] (tI Q k):=bI λk h=>aU (ok 77) yH [aL h]
def JW (Q):Bk 77 Tryz.f188 (Ah Q) 16 [(0,.l),(7,.i .i64),(8,.i .i64)] (yG Q):=aU (ok 77) yH [bY (XN Q)]
def Zn (Q):Bk 77 Tryz.f188 (Ah Q) 7 [(0,.l),(6,.i .u64)] (E4 Q):=aU (ok 77) yH [aL (JW Q)]
def IY:=λa b c d w Q=>bB (rV a b c d w Q) (cond (d==0) (Bx [] 5 w λe w=>Q (some e) 0 0 w) (cond (decide (d<0)) (False) (qL (IntKind.wrap .u64 (b:Int)) (IntKind.wrap .u64 d) w λf g w=>cond (decide (f>0)) (E4 Q a b c g w) (cond (decide (g>9223372036854775807)) (E4 Q a b c g w) (cond ((b:Int)==0) (Bx [] 5 w λi w=>Q (some i) 0 0 w) (cond (decide ((IntKind.wrap .i64 g)>8192)) (NZ (b:Int)<|cond ((IntKind.wrap .i64 ((IntKind.wrap .i64 (Int.tdiv 8192 (b:Int)))*(b:Int)))==0) (yG Q a b c (IntKind.wrap .i64 g) (b:Int) w) (yG Q a b c (IntKind.wrap .i64 g) (IntKind.wrap .i64 ((IntKind.wrap .i64 (Int.tdiv 8192 (b:Int)))*(b:Int))) w)) (yG Q a b c (IntKind.wrap .i64 g) (IntKind.wrap .i64 g) w))))))) (ok 77) yH [aL (Zn Q),aL (JW Q)] Tryz.func188
def uE (P2:OA->Int->L3 WP)(Q:L3 (Value->WP))(a:OA)(b:Int)(c:OA)(d e:Nat)(f g:Int)(w:World):Prop:=Bx [.int .u8 g] 5 w λi w=>rV (some i) 1 1 f w λj l m w=>App P #[22,22] 22 (.slice c d e) (.slice j l m) w λn o p w=>P2 a b n o p w
def pK (Q:L3 (Value->WP))(R2:OA->Int->L3 WP)(a:OA)(b:Int)(c:OA)(d e:Nat)(w:World):Prop:=cond (decide ((d:Int)<b)) (nR a 2 w λf g i j w=>BP j λl=>cond (!l) (dV j λm=>Q none 0 0 m w) (aH 0 g<|wA f λn=>af .u8 (n.add (((0:Int).toNat)*1)) w.drew λo=>aH 1 g<|wA f λp=>af .u8 (p.add (((1:Int).toNat)*1)) w.drew λq=>w.drew.cell? (p.add (((1:Int).toNat)*1))=some (.int .u8 q)/\cond (q==0) (bZ (aZ 5) w.drew.drew λr=>w.drew.drew.cell? (aZ 5)=some r/\dV r λs=>Q none 0 0 s w.drew.drew) (cond (decide ((IntKind.wrap .i64 ((IntKind.wrap .i64 o)+1))>(IntKind.wrap .i64 (b-(d:Int))))) (bZ (aZ 5) w.drew.drew λt=>w.drew.drew.cell? (aZ 5)=some t/\dV t λu=>Q none 0 0 u w.drew.drew) (cond (decide ((d:Int)>0)) (aH (IntKind.wrap .i64 ((d:Int)-1)) d<|wA c λv=>af .u8 (v.add (((IntKind.wrap .i64 ((d:Int)-1))).toNat*1)) w.drew λx=>cond (x==q) (bZ (aZ 5) w.drew.drew λy=>w.drew.drew.cell? (aZ 5)=some y/\dV y λz=>Q none 0 0 z w.drew.drew) (uE R2 Q a b c d e (IntKind.wrap .i64 ((IntKind.wrap .i64 o)+1)) q w.drew)) (uE R2 Q a b c d e (IntKind.wrap .i64 ((IntKind.wrap .i64 o)+1)) q w.drew))))) (Q c d e (.nilIface) w)
def pL (Q:L3 (Value->WP)):Nat->OA->Int->L3 WP
 |0,_,_,_,_,_,_=>False
 |k+1,a,b,c,d,e,w=>pK Q (pL Q k) a b c d e w
noncomputable def zl:cA:=[(6,sp 0 8 (.op 8 (.op 9 .done))),(8,.op 0 (.op 1 (.op 2 .done)))]
def RS {P2}(Q)(H2:Bk 64 Tryz.f189 (ux Q) 2 [(0,.p),(1,.i .i64),(6,.l)] P2):Bk 64 Tryz.f189 (ux Q) 9 [(0,.p),(1,.i .i64),(6,.l),(9,.i .i64),(10,.i .u8)] (uE P2 Q):=aU (ok 64) zl [aL H2]
def RT (Q):∀k,Bk 64 Tryz.f189 (ux Q) 2 [(0,.p),(1,.i .i64),(6,.l)] (pL Q k):=bI λk h=>aU (ok 64) zl [aL (RS Q h)]
def Ol:=λa b w Q=>bB (ye a b w Q) (∃k',pL Q k' a b none 0 0 w) (ok 64) zl [bY (RT Q)] Tryz.func189
noncomputable def PU:cA:=[(12,.op 0 (.op 1 (.op 2 .done)))]
def Om:=λa b w Q=>bB (yc a b w Q) (nR a 1 w λc d e f w=>BP f λg=>cond (!g) (dV f λi=>Q none 0 0 i w) (aH 0 d<|wA c λj=>af .u8 (j.add (((0:Int).toNat)*1)) w λl=>cond (l==0) (qC a 1 w λm n o p w=>rV m n o b w λq r s w=>dV p λt=>Q q r s t w) (cond (l==1) (qC a b w λu v x y w=>dV y λz=>Q u v x z w) (cond (l==2) (ye a b w λa1 b1 c1 d1 w=>dV d1 λe1=>Q a1 b1 c1 e1 w) (bZ (aZ 5) w.drew λf1=>w.drew.cell? (aZ 5)=some f1/\dV f1 λg1=>Q none 0 0 g1 w.drew))))) (ok 47) PU [] Tryz.func167
def Zo:=λa w Q=>bB (Am a w Q) (cond (decide (a≥1)) (Q (decide (a<=16)) w) (Q false w)) (ok 9) [] [] Tryz.func220
def adk:=λa b c d e w Q=>bB (uX a b c d e w Q) (Bx [ae a,ae b,.slice c d e] 84 w λf w=>af .i64 f w λg=>Am g w λi w=>cond i (af .i64 (f.add 1) w λj=>Am j w λl w=>cond l (aA (f.add 2) w λm n o=>af .i64 f w λp=>af .i64 (f.add 1) w λq=>cond ((n:Int)==(IntKind.wrap .i64 (p*q))) (aA (f.add 2) w λr s t=>iY r s t 0 w λu w=>Q (!u) w) (Q false w)) (Q false w)) (Q false w)) (ok 28) [] [] Tryz.func190
def jq (Q:Int->WP)(R2:L3 (Value->Int->Int->WP))(a:OA)(b c:Nat)(d:Value)(e f:Int)(w:World):Prop:=cond (decide (f<e)) (aH f b<|wA a λg=>af .u8 (g.add (f.toNat*1)) w λi=>iv (cx 19) d [.int .u8 i] w λj w=>dB j λl=>cond l (Q f w) (R2 a b c d e (IntKind.wrap .i64 (f+1)) w)) (Q (-1) w)
def jr (Q:Int->WP):Nat->L3 (Value->Int->Int->WP)
 |0,_,_,_,_,_,_,_=>False
 |k+1,a,b,c,d,e,f,w=>jq Q (jr Q k) a b c d e f w
def Gq (Q):∀k,Bk 19 Tryz.f264 (xw Q) 2 [(0,.l),(1,.v),(7,.i .i64),(8,.i .i64)] (jr Q k):=bI λk h=>aU (ok 19) [] [aL h]
def E5:=λa b c d w Q=>bB (vk a b c d w Q) (∃k',jr Q k' a b c d (b:Int) 0 w) (ok 19) [] [bY (Gq Q)] Tryz.func264
def C2:=λa b c d w Q=>bB (mS a b c d w Q) (vk a b c d w λe w=>Q (decide (e≥0)) w) (ok 9) [] [] Tryz.func241
def Zp:=λa b w Q=>bB (Lg a b w Q) (wA b λc=>aA (c.add 2) w λd e f=>aH 0 e<|wA d λg=>af .u8 (g.add (((0:Int).toNat)*1)) w λi=>Q (a !=i) w) (ok 10) [] [] Tryz.func242
def Ey (vl:Addr->L3 (Int->WP))(Q:L3 WP)(a:Addr)(b:OA)(c d:Nat)(e f:Int)(w:World):Prop:=aA (a.add 2) w λg i j=>aH e i<|wA g λl=>af .u8 (l.add (e.toNat*1)) w λm=>Bx [.int .u8 (IntKind.wrap .u8 (IntKind.wrap .i64 (f-1))),.int .u8 m] 5 w λn w=>App P #[22,22] 22 (.slice b c d) (.slice (some n) 2 2) w λo p q w=>vl a o p q (IntKind.wrap .i64 (e+f)) w
def JE (vl:Addr->L3 (Int->WP))(Q:L3 WP)(R12:Addr->L3 (Int->Int->WP))(a:Addr)(b:OA)(c d:Nat)(e f:Int)(w:World):Prop:=aA (a.add 2) w.drew λg i j=>cond (decide ((IntKind.wrap .i64 (e+f))<(i:Int))) (aA (a.add 2) w.drew λl m n=>aH (IntKind.wrap .i64 (e+f)) m<|wA l λo=>af .u8 (o.add (((IntKind.wrap .i64 (e+f))).toNat*1)) w.drew λp=>aA (a.add 2) w.drew λq r s=>aH e r<|wA q λt=>af .u8 (t.add (e.toNat*1)) w.drew λu=>cond (p==u) (R12 a b c d e (IntKind.wrap .i64 (f+1)) w.drew) (Ey vl Q a b c d e f w.drew)) (Ey vl Q a b c d e f w.drew)
def wW (vl:Addr->L3 (Int->WP))(Q:L3 WP):Nat->Addr->L3 (Int->Int->WP)
 |0,_,_,_,_,_,_,_=>False
 |k+1,a,b,c,d,e,f,w=>JE vl Q (wW vl Q k) a b c d e f w
def JF (Q:L3 WP)(R10:Addr->L3 (Int->WP))(a:Addr)(b:OA)(c d:Nat)(e:Int)(w:World):Prop:=aA (a.add 2) w λf g i=>cond (decide (e<(g:Int))) (∃k',wW R10 Q k' a b c d e 1 w) (Q b c d w)
def wX (Q:L3 WP):Nat->Addr->L3 (Int->WP)
 |0,_,_,_,_,_,_=>False
 |k+1,a,b,c,d,e,w=>JF Q (wX Q k) a b c d e w
noncomputable def Ez:cA:=[(12,sp 0 22 .done)]
def agl {vl}(Q)(H10:Bk 75 Tryz.f221 (zh Q) 10 [(2,.a),(5,.l),(6,.i .i64)] vl):Bk 75 Tryz.f221 (zh Q) 14 [(2,.a),(5,.l),(6,.i .i64),(7,.i .i64)] (Ey vl Q):=aU (ok 75) Ez [aL H10]
def agm {vl}(Q)(H10:Bk 75 Tryz.f221 (zh Q) 10 [(2,.a),(5,.l),(6,.i .i64)] vl):∀k,Bk 75 Tryz.f221 (zh Q) 12 [(2,.a),(5,.l),(6,.i .i64),(7,.i .i64)] (wW vl Q k):=bI λk h=>aU (ok 75) Ez [aL h,aL (agl Q H10)]
def agn (Q):∀k,Bk 75 Tryz.f221 (zh Q) 10 [(2,.a),(5,.l),(6,.i .i64)] (wX Q k):=bI λk h=>aU (ok 75) Ez [bY (agm Q h)]
def adl:=λa b c d e f w Q=>bB (HO a b c d e f w Q) (Bx [ae a,ae b,.slice c d e] 84 w λg w=>Bx [.int .u8 (IntKind.wrap .u8 f)] 5 w λi w=>cond (f==0) (aA (g.add 2) w λj l m=>mS j l m (.func (.func 242) #[] #[.pointer (some g)]) w λn w=>cond n (Q none 0 0 w) (aA (g.add 2) w λo p q=>aH 0 p<|wA o λr=>af .u8 (r.add (((0:Int).toNat)*1)) w λs=>Bx [.int .u8 s] 5 w λt w=>App P #[22,22] 22 (.slice (some i) 1 1) (.slice (some t) 1 1) w λu v x w=>Q u v x w)) (cond (f==1) (aA (g.add 2) w λy z a1=>App P #[22,22] 22 (.slice (some i) 1 1) (.slice y z a1) w λb1 c1 d1 w=>Q b1 c1 d1 w) (∃k',wX Q k' g (some i) 1 1 0 w))) (ok 75) Ez [bY (agn Q)] Tryz.func221
def zm (P3:Addr->Int->L3 (Int->WP))(Q:Int->L3 WP)(a:Addr)(b:Int)(c:OA)(d e:Nat)(f:Int)(w:World):Prop:=P3 a b c d e (IntKind.wrap .i64 (f+1)) w
def jS (Q:Int->L3 WP)(R3:Addr->Int->L3 (Int->WP))(a:Addr)(b:Int)(c:OA)(d e:Nat)(f:Int)(w:World):Prop:=cond (decide (f<3)) (af .i64 (a.add 0) w λg=>af .i64 (a.add 1) w λi=>aA (a.add 2) w λj l m=>HO g i j l m f w λn o p w=>cond (!n.isNone) (cond c.isNone (zm R3 Q a f n o p f w) (cond (decide ((o:Int)<(d:Int))) (zm R3 Q a f n o p f w) (R3 a b c d e (IntKind.wrap .i64 (f+1)) w))) (R3 a b c d e (IntKind.wrap .i64 (f+1)) w)) (Q b c d e w)
def oB (Q:Int->L3 WP):Nat->Addr->Int->L3 (Int->WP)
 |0,_,_,_,_,_,_,_=>False
 |k+1,a,b,c,d,e,f,w=>jS Q (oB Q k) a b c d e f w
def adm {P3}(Q)(H3:Bk 32 Tryz.f191 (CX Q) 3 [(1,.a),(4,.i .i64),(5,.l),(8,.i .i64)] P3):Bk 32 Tryz.f191 (CX Q) 7 [(1,.a),(6,.i .i64),(7,.l),(8,.i .i64)] (zm P3 Q):=aU (ok 32) [] [aL H3]
def adn (Q):∀k,Bk 32 Tryz.f191 (CX Q) 3 [(1,.a),(4,.i .i64),(5,.l),(8,.i .i64)] (oB Q k):=bI λk h=>aU (ok 32) [] [aL h,aL (adm Q h)]
def Zq:=λa b c d e w Q=>bB (EZ a b c d e w Q) (Bx [ae a,ae b,.slice c d e] 84 w λf w=>∃k',oB Q k' f (-1) none 0 0 0 w) (ok 32) [] [bY (adn Q)] Tryz.func191
def ado:=λa b c d e w Q=>bB (HN a b c d e w Q) (Bx [ae a,ae b,.slice c d e] 84 w λf w=>af .i64 (f.add 0) w λg=>af .i64 (f.add 1) w λi=>aA (f.add 2) w λj l m=>uX g i j l m w λn w=>cond (!n) (Q none 0 0 1 w) (af .i64 (f.add 0) w λo=>af .i64 (f.add 1) w λp=>aA (f.add 2) w λq r s=>EZ o p q r s w λt u v x w=>Q u v x 0 w)) (ok 15) [] [] Tryz.func168
def XO:=λa b c d e f w Q=>bB (DI a b c d e f w Q) (aM P (convert 22 9 (.slice a b c)) w λg w=>YT g λi=>aM P (convert 22 9 (.slice d e f)) w λj w=>YT j λl=>Q (i.toList==l.toList) w) (ok 10) [] [] Tryz.func169
def zn (Q:Int->Int->L3 (Value->WP))(a b:Addr)(w:World):Prop:=St (a.add 0) (ae 0) w λw=>St (a.add 1) (ae 0) w λw=>St (a.add 2) (.slice none 0 0) w λw=>af .i64 (a.add 0) w λc=>af .i64 (a.add 1) w λd=>aA (a.add 2) w λe f g=>Q c d e f g (.iface 268 (.pointer (some b))) w
def mV (Q:Int->Int->L3 (Value->WP))(a:OA)(b:Addr)(c:Value)(d:Addr)(w:World):Prop:=BP c λe=>cond e (af .i64 (d.add 0) w λf=>af .i64 (d.add 1) w λg=>aA (d.add 2) w λi j l=>St (b.add 0) (ae f) w λw=>St (b.add 1) (ae g) w λw=>St (b.add 2) (.slice i j l) w λw=>af .i64 (b.add 0) w λm=>af .i64 (b.add 1) w λn=>aA (b.add 2) w λo p q=>Q m n o p q (.nilIface) w) (wA a λr=>af .i64 (r.add 1) w λs=>dV c λt=>Bx [ae s,ae 3,t] 271 w λu w=>bZ (aZ 6) w λv=>pF c v w λx w=>cond x (St (u.add 1) (ae 2) w λw=>zn Q b u w) (zn Q b u w))
noncomputable def zo:cA:=[(5,sp 0 10 (.op 10 (.op 11 .done)))]
def PV (Q):Bk 66 Tryz.f158 (Ae Q) 12 [(6,.a),(13,.a)] (zn Q):=aU (ok 66) zo []
def RU (Q):Bk 66 Tryz.f158 (Ae Q) 7 [(0,.p),(6,.a),(9,.v),(10,.a)] (mV Q):=aU (ok 66) zo [aL (PV Q)]
def On:=λa b c w Q=>bB (x_ a b c w Q) (Al T 84 w λd w=>yc a (IntKind.wrap .i64 (b*c)) w λe f g i w=>mQ e f g w λj l m w=>Al T 84 w λn w=>St (n.add 0) (ae b) w λw=>St (n.add 1) (ae c) w λw=>St (n.add 2) (.slice j l m) w λw=>BP i λo=>cond o (af .i64 (n.add 0) w λp=>af .i64 (n.add 1) w λq=>aA (n.add 2) w λr s t=>HN p q r s t w λu v x y w=>wA a λz=>aA z w.drew λa1 b1 c1=>wA a λd1=>af .i64 (d1.add 1) w.drew λe1=>bS a1 b1 c1 1 none (some e1) λf1 g1 i1=>DI u v x f1 g1 i1 w.drew λj1 w=>cond (!j1) (bZ (aZ 5) w λl1=>mV Q a d l1 n w) (mV Q a d i n w)) (mV Q a d i n w)) (ok 66) zo [aL (RU Q)] Tryz.func158
def Cd (Q:Int->Int->L3 (Int->Int->WP))(a:Addr)(w:World):Prop:=St (a.add 0) (ae 0) w λw=>St (a.add 1) (ae 0) w λw=>St (a.add 2) (.slice none 0 0) w λw=>af .i64 (a.add 0) w λb=>af .i64 (a.add 1) w λc=>aA (a.add 2) w λd e f=>Q b c d e f 0 1 w
noncomputable def Tt:cA:=[(7,sp 0 5 (.op 5 (.op 6 (.op 7 .done)))),(8,sp 0 5 (.op 5 (.op 6 (.op 7 .done))))]
def ahW (Q):Bk 50 Tryz.f143 (Vg Q) 2 [(6,.a)] (Cd Q):=aU (ok 50) Tt []
def adp:=λa b c d e w Q=>bB (HM a b c d e w Q) (Al T 84 w λf w=>cond (decide (d<1)) (Cd Q f w) (cond (decide (d>16)) (Cd Q f w) (cond (decide (e<1)) (Cd Q f w) (cond (decide (e>16)) (Cd Q f w) (Bx [.slice a b c,ae 0] 265 w λg w=>x_ (some g) d e w λi j l m n o w=>St (f.add 0) (ae i) w λw=>St (f.add 1) (ae j) w λw=>St (f.add 2) (.slice l m n) w λw=>Al T 268 w λp w=>St p (.pointer none) w λw=>nG o (.iface 269 (.pointer (some p))) w λq w=>cond q (bg p w.drew λr=>wA r λs=>af .i64 (s.add 1) w.drew λt=>St (f.add 0) (ae 0) w.drew λw=>St (f.add 1) (ae 0) w λw=>St (f.add 2) (.slice none 0 0) w λw=>w.cell? (s.add 1)=some (ae t)/\w.cell? p=some (.pointer r)/\w.cell? (s.add 1)=some (ae t)/\w.cell? p=some (.pointer r)/\af .i64 (f.add 0) w λu=>af .i64 (f.add 1) w λv=>aA (f.add 2) w λx y z=>Q u v x y z 0 t w) (af .i64 (f.add 0) w.drew λa1=>af .i64 (f.add 1) w.drew λb1=>aA (f.add 2) w.drew λc1 d1 e1=>af .i64 (g.add 1) w.drew λf1=>St (f.add 0) (ae a1) w.drew λw=>St (f.add 1) (ae b1) w λw=>St (f.add 2) (.slice c1 d1 e1) w λw=>w.cell? (g.add 1)=some (ae f1)/\af .i64 (f.add 0) w λg1=>af .i64 (f.add 1) w λi1=>aA (f.add 2) w λj1 l1 m1=>Q g1 i1 j1 l1 m1 f1 0 w)))))) (ok 50) Tt [aL (ahW Q)] Tryz.func143
def Zr:=λa b c d w Q=>bB (Ac a b c d w Q) (lN a b w λe w=>cond (!e) (Q (-1) w) (cond (decide (c<0)) (Q (-1) w) (cond (decide (c≥a)) (Q (-1) w) (cond (decide (d<0)) (Q (-1) w) (cond (decide (d≥b)) (Q (-1) w) (Q (IntKind.wrap .i64 ((IntKind.wrap .i64 (d*a))+c)) w)))))) (ok 36) [] [] Tryz.func42
noncomputable def XP:cA:=[(5,sp 0 12 (.op 12 (.op 13 .done)))]
def Vu:=λa b c d w Q=>bB (ow a b c d w Q) (xl a b c w λe f g w=>om a b c w λi j w=>cond (!g) (Q (-1) w) (cond (decide (d<0)) (Q (-1) w) (cond (decide (d≥(IntKind.wrap .i64 (i*j)))) (Q (-1) w) (NZ i<|NZ i<|Ac a b (IntKind.wrap .i64 (e+(Int.tmod d i))) (IntKind.wrap .i64 (f+(IntKind.wrap .i64 (Int.tdiv d i)))) w.drew λl w=>Q l w)))) (ok 55) XP [] Tryz.func159
def AU (Q:WP)(R3:Addr->Addr->Int->Int->Int->WP)(a b:Addr)(c d e:Int)(w:World):Prop:=cond (decide (e<d)) (aA (a.add 2) w.drew λf g i=>af .i64 a w.drew λj=>bS f g i 1 (some (IntKind.wrap .i64 (c+(IntKind.wrap .i64 (e*j))))) none λl m n=>aA (b.add 2) w.drew λo p q=>af .i64 b w.drew λr=>af .i64 b w.drew λs=>bS o p q 1 (some (IntKind.wrap .i64 (e*r))) (some (IntKind.wrap .i64 ((IntKind.wrap .i64 (e+1))*s))) λt u v=>cH P #[22,22] 3 (.slice l m n) (.slice t u v) w.drew λx w=>R3 a b c d (IntKind.wrap .i64 (e+1)) w) (Q w)
def EA (Q:WP):Nat->Addr->Addr->Int->Int->Int->WP
 |0,_,_,_,_,_,_=>False
 |k+1,a,b,c,d,e,w=>AU Q (EA Q k) a b c d e w
noncomputable def PW:cA:=[(5,sp 0 21 (.op 21 .done))]
def ago (Q):∀k,Bk 42 Tryz.f144 (Tr Q) 3 [(3,.a),(5,.a),(6,.i .i64),(15,.i .i64),(16,.i .i64)] (EA Q k):=bI λk h=>aU (ok 42) PW [aL h]
def aa_:=λa b c d e f g i j l m w Q=>bB (Gj a b c d e f g i j l m w Q) (Bx [ae a,ae b,.slice c d e] 25 w λn w=>Bx [ae g,ae i,.slice j l m] 84 w λo w=>af .i64 n w λp=>af .i64 (n.add 1) w λq=>ow p q f 0 w λr w=>af .i64 (o.add 1) w λs=>∃k',EA Q k' n o r s 0 w) (ok 42) PW [bY (ago Q)] Tryz.func144
def zp (Q:Int->Int->L3 (Value->WP))(R9:L3 (Addr->Addr->Int->Int->WP))(a:OA)(b c:Nat)(d e:Addr)(f g:Int)(w:World):Prop:=cond (decide (g<f)) (af .i64 e w λi=>af .i64 (e.add 1) w λj=>om i j g w λl m w=>HM a b c l m w λn o p q r s t w=>Al T 84 w λu w=>St (u.add 0) (ae n) w λw=>St (u.add 1) (ae o) w λw=>St (u.add 2) (.slice p q r) w λw=>cond (t !=0) (Bx [ae g,.iface 187 (ae t)] 242 w λv w=>St (d.add 0) (ae 0) w λw=>St (d.add 1) (ae 0) w λw=>St (d.add 2) (.slice none 0 0) w λw=>af .i64 (d.add 0) w λx=>af .i64 (d.add 1) w λy=>aA (d.add 2) w λz a1 b1=>Q x y z a1 b1 (.iface 240 (.pointer (some v))) w) (af .i64 (e.add 0) w λc1=>af .i64 (e.add 1) w λd1=>aA (e.add 2) w λe1 f1 g1=>af .i64 (u.add 0) w λi1=>af .i64 (u.add 1) w λj1=>aA (u.add 2) w λl1 m1 n1=>Gj c1 d1 e1 f1 g1 g i1 j1 l1 m1 n1 w λw=>bS a b c 1 (some s) none λo1 p1 q1=>R9 o1 p1 q1 d e f (IntKind.wrap .i64 (g+1)) w)) (cond (decide ((b:Int)>0)) (St (d.add 0) (ae 0) w λw=>St (d.add 1) (ae 0) w λw=>St (d.add 2) (.slice none 0 0) w λw=>af .i64 (d.add 0) w λr1=>af .i64 (d.add 1) w λs1=>aA (d.add 2) w λt1 u1 v1=>Q r1 s1 t1 u1 v1 (.iface 187 (ae 3)) w) (af .i64 (e.add 0) w λx1=>af .i64 (e.add 1) w λy1=>aA (e.add 2) w λz1 a2 b2=>St (d.add 0) (ae x1) w λw=>St (d.add 1) (ae y1) w λw=>St (d.add 2) (.slice z1 a2 b2) w λw=>af .i64 (d.add 0) w λc2=>af .i64 (d.add 1) w λd2=>aA (d.add 2) w λe2 f2 g2=>Q c2 d2 e2 f2 g2 (.nilIface) w))
def C3 (Q:Int->Int->L3 (Value->WP)):Nat->L3 (Addr->Addr->Int->Int->WP)
 |0,_,_,_,_,_,_,_,_=>False
 |k+1,a,b,c,d,e,f,g,w=>zp Q (C3 Q k) a b c d e f g w
noncomputable def Nt:cA:=[(3,sp 0 21 (.op 21 (.op 22 .done)))]
def adq (Q):∀k,Bk 102 Tryz.f111 (Py Q) 9 [(0,.l),(2,.a),(4,.a),(58,.i .i64),(59,.i .i64)] (C3 Q k):=bI λk h=>aU (ok 102) Nt [aL h]
def Zs:=λa b c w Q=>bB (ET a b c w Q) (Al T 25 w λd w=>cond (decide ((b:Int)<4)) (St (d.add 0) (ae 0) w λw=>St (d.add 1) (ae 0) w λw=>St (d.add 2) (.slice none 0 0) w λw=>af .i64 (d.add 0) w λe=>af .i64 (d.add 1) w λf=>aA (d.add 2) w λg i j=>Q e f g i j (.iface 187 (ae 2)) w) (aH 0 b<|wA a λl=>af .u8 (l.add (((0:Int).toNat)*1)) w.drew λm=>aH 1 b<|wA a λn=>af .u8 (n.add (((1:Int).toNat)*1)) w.drew λo=>D3 8<|aH 2 b<|wA a λp=>af .u8 (p.add (((2:Int).toNat)*1)) w.drew λq=>aH 3 b<|wA a λr=>af .u8 (r.add (((3:Int).toNat)*1)) w.drew λs=>D3 8<|Al T 25 w.drew λt w=>w.cell? (r.add (((3:Int).toNat)*1))=some (.int .u8 s)/\w.cell? (p.add (((2:Int).toNat)*1))=some (.int .u8 q)/\w.cell? (n.add (((1:Int).toNat)*1))=some (.int .u8 o)/\w.cell? (l.add (((0:Int).toNat)*1))=some (.int .u8 m)/\St (t.add 0) (ae (ior .i64 (IntKind.wrap .i64 m) (BO .i64 (IntKind.wrap .i64 o) 8))) w λw=>St (t.add 1) (ae (ior .i64 (IntKind.wrap .i64 q) (BO .i64 (IntKind.wrap .i64 s) 8))) w λw=>St (t.add 2) (.slice none 0 0) w λw=>af .i64 t w λu=>af .i64 (t.add 1) w λv=>lN u v w λx w=>cond (!x) (St (d.add 0) (ae 0) w λw=>St (d.add 1) (ae 0) w λw=>St (d.add 2) (.slice none 0 0) w λw=>af .i64 (d.add 0) w λy=>af .i64 (d.add 1) w λz=>aA (d.add 2) w λa1 b1 c1=>Q y z a1 b1 c1 (.iface 187 (ae 3)) w) (bS a b c 1 (some 4) none λd1 e1 f1=>af .i64 t w λg1=>af .i64 (t.add 1) w λi1=>cy P 22 (ae (IntKind.wrap .i64 (g1*i1))) (ae (IntKind.wrap .i64 (g1*i1))) w λj1 l1 m1 w=>St (t.add 2) (.slice j1 l1 m1) w λw=>af .i64 t w λn1=>af .i64 (t.add 1) w λo1=>EV n1 o1 w λp1 w=>∃k',C3 Q k' d1 e1 f1 d t p1 0 w))) (ok 102) Nt [bY (adq Q)] Tryz.func111
noncomputable def adr:cA:=[(4,sp 0 2 (.op 2 (.op 3 .done)))]
def aba:=λa b c w Q=>bB (Gd a b c w Q) (Al T 25 w λd w=>ET a b c w λe f g i j l w=>Al T 25 w λm w=>St (m.add 0) (ae e) w λw=>St (m.add 1) (ae f) w λw=>St (m.add 2) (.slice g i j) w λw=>Al T 187 w λn w=>St n (ae 0) w λw=>nG l (.iface 188 (.pointer (some n))) w λo w=>cond o (af .i64 n w.drew λp=>St (d.add 0) (ae 0) w.drew λw=>St (d.add 1) (ae 0) w λw=>St (d.add 2) (.slice none 0 0) w λw=>w.cell? n=some (ae p)/\af .i64 (d.add 0) w λq=>af .i64 (d.add 1) w λr=>aA (d.add 2) w λs t u=>Q q r s t u p w) (af .i64 (m.add 0) w λv=>af .i64 (m.add 1) w λx=>aA (m.add 2) w λy z a1=>St (d.add 0) (ae v) w λw=>St (d.add 1) (ae x) w λw=>St (d.add 2) (.slice y z a1) w λw=>af .i64 (d.add 0) w λb1=>af .i64 (d.add 1) w λc1=>aA (d.add 2) w λd1 e1 f1=>Q b1 c1 d1 e1 f1 0 w)) (ok 18) adr [] Tryz.func79
def MB:=λa w Q=>bB (qz a w Q) (cond (!a.isNone) (wA a λb=>bg b w λc=>vQ c w λw=>wA a λd=>St (d.add 1) (.slice none 0 0) w λw=>Q w) (Q w)) (ok 12) [] [] Tryz.func82
def abb:=λa b c d e w Q=>bB (Bp a b c d e w Q) (Bx [ae a,ae b,.slice c d e] 25 w λf w=>af .i64 f w λg=>af .i64 (f.add 1) w λi=>lN g i w λj w=>cond j (aA (f.add 2) w λl m n=>af .i64 f w λo=>af .i64 (f.add 1) w λp=>cond ((m:Int)==(IntKind.wrap .i64 (o*p))) (aA (f.add 2) w λq r s=>iY q r s 0 w λt w=>Q (!t) w) (Q false w)) (Q false w)) (ok 25) [] [] Tryz.func112
def Ce (Q:OA->WP)(R7:Addr->Int->Int->WP)(a:Addr)(b c:Int)(w:World):Prop:=cond (decide (c<b)) (aA (a.add 4) w.drew λd e f=>af .i64 (a.add 3) w.drew λg=>aH c e<|wA d λi=>St (i.add (c.toNat*1)) (ae g) w.drew λw=>R7 a b (IntKind.wrap .i64 (c+1)) w) (Q (some a) w)
def zq (Q:OA->WP):Nat->Addr->Int->Int->WP
 |0,_,_,_,_=>False
 |k+1,a,b,c,w=>Ce Q (zq Q k) a b c w
noncomputable def Tu:cA:=[(5,sp 0 6 (.op 6 (.op 7 (.op 8 (.op 9 .done))))),(9,sp 0 10 (.op 10 .done))]
def ahX (Q):∀k,Bk 61 Tryz.f113 (Ve Q) 7 [(7,.a),(45,.i .i64),(46,.i .i64)] (zq Q k):=bI λk h=>aU (ok 61) Tu [aL h]
def ads:=λa b c d e f w Q=>bB (HJ a b c d e f w Q) (Bx [ae a,ae b,.slice c d e] 25 w λg w=>af .i64 (g.add 0) w λi=>af .i64 (g.add 1) w λj=>aA (g.add 2) w λl m n=>Bp i j l m n w λo w=>cond (!o) (Q none w) (cond (decide (f<0)) (Q none w) (cond (decide (f>4611686018427387904)) (Q none w) (aA (g.add 2) w λp q r=>mQ p q r w λs t u w=>St (g.add 2) (.slice s t u) w λw=>af .i64 g w λv=>af .i64 (g.add 1) w λx=>lC v x w λy z w=>af .i64 (g.add 0) w.drew λa1=>af .i64 (g.add 1) w.drew λb1=>aA (g.add 2) w.drew λc1 d1 e1=>cy P 172 (ae (IntKind.wrap .i64 (y*z))) (ae (IntKind.wrap .i64 (y*z))) w.drew λf1 g1 i1 w=>w.cell? (g.add 0)=some (ae a1)/\w.cell? (g.add 1)=some (ae b1)/\w.cell? (g.add 2)=some (.slice c1 d1 e1)/\Bx [ae a1,ae b1,.slice c1 d1 e1,ae (IntKind.wrap .i64 (f+1)),.slice f1 g1 i1] 174 w λj1 w=>aA (j1.add 4) w λl1 m1 n1=>∃k',zq Q k' j1 (m1:Int) 0 w)))) (ok 61) Tu [bY (ahX Q)] Tryz.func113
def FB:=λa w Q=>bB (gf a w Q) (cond a.isNone (Q 0 w) (wA a λb=>af .i64 (b.add 3) w λc=>Q c w)) (ok 9) [] [] Tryz.func114
noncomputable def Ul:cA:=[(3,sp 0 10 (.op 10 (.op 11 .done)))]
def RV:=λa w Q=>bB (eS a w Q) (cond a.isNone (Q 0 0 w) (wA a λb=>af .i64 b w.drew λc=>wA a λd=>af .i64 (d.add 1) w.drew λe=>w.drew.cell? (d.add 1)=some (ae e)/\Q c e w.drew)) (ok 16) Ul [] Tryz.func147
def adt:=λa w Q=>bB (HK a w Q) (cond a.isNone (Q none w) (eS a w λb c w=>lC b c w λd e w=>cy P 234 (ae (IntKind.wrap .i64 (d*e))) (ae (IntKind.wrap .i64 (d*e))) w λf g i w=>Bx [.pointer a,.slice f g i,ae 0,.int .u64 0] 236 w λj w=>Q (some j) w)) (ok 22) [] [] Tryz.func115
def abc:=λa b w Q=>bB (Gg a b w Q) (cond a.isNone (Q none w) (cond b.isNone (Q none w) (Bx [.pointer a,.pointer b,.pointer none,.int .u64 0] 197 w λc w=>Q (some c) w))) (ok 15) [] [] Tryz.func116
noncomputable def XQ:cA:=[(5,sp 0 6 (.op 6 (.op 7 (sp 8 2 (.op 10 .done))))),(6,sp 0 6 (.op 6 (.op 7 (sp 8 2 (.op 10 .done))))),(8,sp 0 9 (.op 9 (sp 10 2 (.op 12 .done))))]
def Vv:=λa b c d e f w Q=>bB (B2 a b c d e f w Q) (Bx [ae b,ae c,.slice d e f] 25 w λg w=>cond a.isNone (Q 4 w) (af .i64 (g.add 0) w λi=>af .i64 (g.add 1) w λj=>aA (g.add 2) w λl m n=>Bp i j l m n w λo w=>cond (!o) (Q 6 w) (wA a λp=>af .u64 ((p.add 4).add 0) w.drew λq=>af .u64 ((p.add 4).add 1) w.drew λr=>af .u64 ((p.add 4).add 2) w.drew λs=>af .u64 ((p.add 4).add 3) w.drew λt=>af .u64 ((p.add 4).add 4) w.drew λu=>af .u64 ((p.add 4).add 5) w.drew λv=>uk a w.drew λx y z a1 b1 c1 w=>w.cell? ((p.add 4).add 0)=some (.int .u64 q)/\w.cell? ((p.add 4).add 1)=some (.int .u64 r)/\w.cell? ((p.add 4).add 2)=some (.int .u64 s)/\w.cell? ((p.add 4).add 3)=some (.int .u64 t)/\w.cell? ((p.add 4).add 4)=some (.int .u64 u)/\w.cell? ((p.add 4).add 5)=some (.int .u64 v)/\xe q r s t u v x y z a1 b1 c1 w λd1 e1 f1 g1 i1 j1 w=>wA a λl1=>St ((l1.add 4).add 0) (.int .u64 d1) w λw=>St ((l1.add 4).add 1) (.int .u64 e1) w λw=>St ((l1.add 4).add 2) (.int .u64 f1) w λw=>St ((l1.add 4).add 3) (.int .u64 g1) w λw=>St ((l1.add 4).add 4) (.int .u64 i1) w λw=>St ((l1.add 4).add 5) (.int .u64 j1) w λw=>af .i64 (g.add 0) w.drew λm1=>af .i64 (g.add 1) w.drew λn1=>aA (g.add 2) w.drew λo1 p1 q1=>wA a λr1=>bg r1 w.drew λs1=>gf s1 w.drew λt1 w=>w.cell? (g.add 0)=some (ae m1)/\w.cell? (g.add 1)=some (ae n1)/\w.cell? (g.add 2)=some (.slice o1 p1 q1)/\HJ m1 n1 o1 p1 q1 t1 w λu1 w=>wA a λv1=>St v1 (.pointer u1) w λw=>wA a λx1=>bg x1 w λy1=>HK y1 w λz1 w=>wA a λa2=>St (a2.add 1) (.pointer z1) w λw=>wA a λb2=>bg (b2.add 1) w.drew λc2=>wA a λd2=>bg d2 w.drew λe2=>Gg c2 e2 w.drew λf2 w=>wA a λg2=>St (g2.add 2) (.pointer f2) w λw=>wA a λi2=>bg (i2.add 3) w λj2=>qz j2 w λw=>Q 0 w))) (ok 57) XQ [] Tryz.func80
def abd:=λa w Q=>bB (Gh a w Q) (cond (decide (a<1)) (Q none w) (cond (decide (a>65536)) (Q none w) (cD P 169 none w λb w=>Bx [ae a,ae 0,.map b,.slice none 0 0] 171 w λc w=>Q (some c) w))) (ok 13) [] [] Tryz.func117
def abe:=λa w Q=>bB (Gi a w Q) (cond (decide (a<1)) (Q none w) (cond (decide (a>1048576)) (Q none w) (cy P 245 (ae a) (ae a) w λb c d w=>Bx [.slice b c d,ae 0] 247 w λe w=>Q (some e) w))) (ok 13) [] [] Tryz.func118
def abf:=λa b c w Q=>bB (Ge a b c w Q) (lN a b w λd w=>cond (!d) (Q none w) (cond (decide (c<1)) (Q none w) (cond (decide (c>65536)) (Q none w) (Gh c w λe w=>Gi (IntKind.wrap .i64 (a*b)) w λf w=>Bx [ae a,ae b,ae c,.pointer e,.pointer f] 125 w λg w=>Q (some g) w)))) (ok 30) [] [] Tryz.func81
noncomputable def PX:cA:=[(4,sp 0 5 (.op 5 (.op 6 .done))),(6,sp 0 9 (.op 9 (sp 10 2 (.op 12 .done))))]
def Oo:=λa b c d w Q=>bB (xV a b c d w Q) (Gd b c d w λe f g i j l w=>Al T 25 w λm w=>St (m.add 0) (ae e) w λw=>St (m.add 1) (ae f) w λw=>St (m.add 2) (.slice g i j) w λw=>cond (l !=0) (Q (.iface 108 (ae 6)) w) (wA a λn=>bg (n.add 1) w.drew λo=>af .i64 (m.add 0) w.drew λp=>af .i64 (m.add 1) w.drew λq=>aA (m.add 2) w.drew λr s t=>B2 o p q r s t w.drew λu w=>cond (u==0) (af .i64 m w.drew λv=>af .i64 (m.add 1) w.drew λx=>wA a λy=>af .i64 y w.drew λz=>Ge v x z w.drew λa1 w=>wA a λb1=>St (b1.add 2) (.pointer a1) w λw=>gx u w λc1 w=>dV c1 λd1=>Q d1 w) (gx u w λe1 w=>dV e1 λf1=>Q f1 w))) (ok 37) PX [] Tryz.func50
def Dx:=λa w Q=>bB (qA a w Q) (cond (!a.isNone) (wA a λb=>St (b.add 2) (.pointer none) w λw=>Q w) (Q w)) (ok 7) [] [] Tryz.func83
def Hr:=λa w Q=>bB (vO a w Q) (cond (!a.isNone) (wA a λb=>bg (b.add 3) w λc=>qz c w λw=>wA a λd=>bg (d.add 2) w λe=>qA e w λw=>Q w) (Q w)) (ok 14) [] [] Tryz.func51
def RW:=λa b w Q=>bB (uo a b w Q) (cond (!a.isNone) (cond (decide (b≥0)) (wA a λc=>aA c w λd e f=>Q (decide (b<(e:Int))) w) (Q false w)) (Q false w)) (ok 20) [] [] Tryz.func148
def PY:=λa b w Q=>bB (lY a b w Q) (uo a b w λc w=>cond (!c) (Q (-1) w) (wA a λd=>aA d w λe f g=>aH b f<|wA e λi=>af .u32 (i.add (b.toNat*1)) w λj=>Q (IntKind.wrap .i64 ((IntKind.wrap .i64 j)-1)) w)) (ok 18) [] [] Tryz.func119
def PZ:=λa b w Q=>bB (yY a b w Q) (cond a.isNone (Q (-1) w) (wA a λc=>bg (c.add 4) w λd=>lY d b w λe w=>Q e w)) (ok 13) [] [] Tryz.func84
def adu:=λa b c w Q=>bB (yX a b c w Q) (lN a b w λd w=>cond d (cond (decide (c≥0)) (Q (decide (c<(IntKind.wrap .i64 (a*b)))) w) (Q false w)) (Q false w)) (ok 21) [] [] Tryz.func68
noncomputable def Zt:cA:=[(3,sp 0 6 (.op 6 (.op 7 .done)))]
def XR:=λa b c w Q=>bB (tE a b c w Q) (yX a b c w λd w=>cond (!d) (Q (-1) (-1) w) (NZ a<|NZ a<|Q (Int.tmod c a) (IntKind.wrap .i64 (Int.tdiv c a)) w.drew)) (ok 19) Zt [] Tryz.func41
def Vw:=λa b c w Q=>bB (ee a b c w Q) (tE a b c w λd e w=>cond (decide (d<0)) (Q (-1) w) (lC a b w λf g w=>NZ 16<|NZ 16<|Q (IntKind.wrap .i64 ((IntKind.wrap .i64 ((IntKind.wrap .i64 (Int.tdiv e 16))*f))+(IntKind.wrap .i64 (Int.tdiv d 16)))) w)) (ok 33) [] [] Tryz.func123
noncomputable def Um:cA:=[(9,sp 0 15 (sp 16 4 (.op 15 (.op 20 (.op 21 .done)))))]
def RX:=λa b c w Q=>bB (Ad a b c w Q) (cond a.isNone (Q 4 w) (cond (decide (b<0)) (Q 7 w) (wA a λd=>aA (d.add 2) w λe f g=>cond (decide (b≥(f:Int))) (Q 7 w) (cond (decide (c<1)) (Q 8 w) (cond (decide (c>255)) (Q 8 w) (wA a λi=>aA (i.add 2) w λj l m=>aH b l<|wA j λn=>St (n.add (b.toNat*1)) (.int .u8 (IntKind.wrap .u8 c)) w λw=>wA a λo=>af .i64 (o.add 3) w λp=>wA a λq=>St (q.add 3) (ae (IntKind.wrap .i64 (p+1))) w λw=>wA a λr=>aA (r.add 4) w.drew λs t u=>wA a λv=>af .i64 v w.drew λx=>wA a λy=>af .i64 (y.add 1) w.drew λz=>wA a λa1=>af .i64 (a1.add 3) w.drew λb1=>ee x z b w.drew λc1 w=>w.cell? (a1.add 3)=some (ae b1)/\w.cell? (r.add 4)=some (.slice s t u)/\(aH c1 t<|wA s λd1=>St (d1.add (c1.toNat*1)) (ae b1) w λw=>Q 0 w))))))) (ok 67) Um [] Tryz.func120
def Vx:=λa b c w Q=>bB (B3 a b c w Q) (cond a.isNone (Q 4 w) (wA a λd=>bg d w λe=>Ad e b c w λf w=>Q f w)) (ok 16) [] [] Tryz.func85
def uF (Q:Value->WP)(a:OA)(b c:Int)(w:World):Prop:=wA a λd=>bg (d.add 1) w λe=>B3 e b c w λf w=>gx f w λg w=>dV g λi=>Q i w
def RY (Q):Bk 36 Tryz.f52 (Gc Q) 5 [(0,.p),(1,.i .i64),(2,.i .i64)] (uF Q):=aU (ok 36) [] []
def Oq:=λa b c w Q=>bB (xW a b c w Q) (cond (decide (c<1)) (Q (.iface 108 (ae 8)) w) (cond (decide (c>255)) (Q (.iface 108 (ae 8)) w) (cond (c==255) (wA a λd=>bg (d.add 2) w λe=>yY e b w λf w=>cond (decide (f≥0)) (Q (.iface 108 (ae 10)) w) (uF Q a b c w)) (uF Q a b c w)))) (ok 36) [] [aL (RY Q)] Tryz.func52
noncomputable def Un:cA:=[(1,sp 0 9 (.op 9 (.op 10 (.op 11 .done))))]
def RZ:=λa b w Q=>bB (pG a b w Q) (wA a λc=>af .i64 c w.drew λd=>wA a λe=>af .i64 (e.add 1) w.drew λf=>ee d f b w.drew λg w=>Q (decide (g≥0)) w) (ok 16) Un [] Tryz.func88
def P0:=λa w Q=>bB (y7 a w Q) (cond a.isNone (Q 0 w) (wA a λb=>cw (b.add 2) w λc=>aM P (Builtin.len_ #[169] 3 [.map c].toArray) w λd w=>dI .i64 d λe=>Q e w)) (ok 10) [] [] Tryz.func124
def nU (Q:Int->WP)(a b:Int)(w:World):Prop:=cond (a==b) (Q 13 w) (Q 0 w)
def yf (Q:Int->WP)(a:OA)(b c:Int)(w:World):Prop:=wA a λd=>bg (d.add 3) w.drew λe=>wA a λf=>af .i64 (f.add 2) w.drew λg=>y7 e w.drew λi w=>w.cell? (f.add 2)=some (ae g)/\cond (decide (i≥g)) (Q 11 w) (nU Q b c w)
def zu (Q:Int->WP)(a:OA)(b c:Int)(w:World):Prop:=wA a λd=>bg (d.add 4) w λe=>lY e b w λf w=>cond (f !=(-1)) (Q 10 w) (yf Q a b c w)
noncomputable def rK:cA:=[(10,sp 0 4 (sp 5 4 (.op 4 (.op 9 .done))))]
def Eb (Q):Bk 48 Tryz.f89 (sy Q) 12 [(2,.i .i64),(3,.i .i64)] (nU Q):=aU (ok 48) rK []
def Ec (Q):Bk 48 Tryz.f89 (sy Q) 10 [(0,.p),(2,.i .i64),(3,.i .i64)] (yf Q):=aU (ok 48) rK [aL (Eb Q)]
def P9 (Q):Bk 48 Tryz.f89 (sy Q) 8 [(0,.p),(2,.i .i64),(3,.i .i64)] (zu Q):=aU (ok 48) rK [aL (Ec Q)]
def Dy:=λa b c d w Q=>bB (m7 a b c d w Q) (cond (b==0) (pG a c w λe w=>cond (!e) (Q 7 w) (pG a d w λf w=>cond (!f) (Q 7 w) (zu Q a c d w))) (cond (b==1) (zu Q a c d w) (cond (b==2) (yf Q a c d w) (cond (b==3) (nU Q c d w) (Q 0 w))))) (ok 48) rK [aL (P9 Q),aL (Ec Q),aL (Eb Q)] Tryz.func89
noncomputable def R0:cA:=[(1,sp 0 7 (sp 8 4 (.op 7 (sp 12 2 .done))))]
def P_:=λa b c w Q=>bB (y6 a b c w Q) (cond a.isNone (Q 0 false w.drew) (wA a λd=>cw (d.add 2) w.drew λe=>wA a λf=>af .i64 f w.drew λg=>aM P (Builtin.len_ #[169] 3 [.map e].toArray) w.drew λi w=>dI .i64 i λj=>w.cell? f=some (ae g)/\cond (decide (j≥g)) (Q 0 false w) (wA a λl=>af .i64 (l.add 1) w λm=>wA a λn=>af .i64 (n.add 1) w λo=>wA a λp=>St (p.add 1) (ae (IntKind.wrap .i64 (o+1))) w λw=>wA a λq=>cw (q.add 2) w λr=>bF P (Instr.mapUpdate 169 (.map r) (ae m) (.agg #[ae m,ae b,ae c])) w λw=>wA a λs=>aA (s.add 3) w λt u v=>Bx [ae m] 3 w λx w=>App P #[29,29] 29 (.slice t u v) (.slice (some x) 1 1) w λy z a1 w=>wA a λb1=>St (b1.add 3) (.slice y z a1) w λw=>Q m true w))) (ok 54) R0 [] Tryz.func121
def Ot:=λa b w Q=>bB (rI a b w Q) (uo a b w λc w=>cond c (wA a λd=>aA d w λe f g=>aH b f<|wA e λi=>af .u32 (i.add (b.toNat*1)) w λj=>Q (j==0) w) (Q false w)) (ok 18) [] [] Tryz.func149
def Qa:=λa b c w Q=>bB (sC a b c w Q) (rI a b w λd w=>cond (!d) (Q false w) (cond (decide (c<0)) (Q false w) (cond (decide (c≥4294967295)) (Q false w) (wA a λe=>aA e w λf g i=>aH b g<|wA f λj=>St (j.add (b.toNat*1)) (.int .u32 (IntKind.wrap .u32 (IntKind.wrap .i64 (c+1)))) w λw=>wA a λl=>af .i64 (l.add 1) w λm=>wA a λn=>St (n.add 1) (ae (IntKind.wrap .i64 (m+1))) w λw=>Q true w)))) (ok 35) [] [] Tryz.func122
def MC:=λa b c w Q=>bB (wI a b c w Q) (cond a.isNone (Q (-1) 1 w) (m7 a 0 b c w λd w=>cond (d !=0) (Q (-1) d w) (wA a λe=>bg (e.add 3) w λf=>y6 f b c w λg i w=>wA a λj=>bg (j.add 4) w λl=>sC l b g w λm w=>Q g 0 w))) (ok 35) [] [] Tryz.func86
def MD:=λa b c w Q=>bB (wE a b c w Q) (wA a λd=>bg (d.add 1) w λe=>rU e b w λf w=>cond (f==255) (Q (-1) (.iface 108 (ae 9)) w) (wA a λg=>bg (g.add 2) w λi=>wI i b c w λj l w=>gx l w λm w=>dV m λn=>Q j n w)) (ok 31) [] [] Tryz.func53
def Qb:=λa b w Q=>bB (iS a b w Q) (Al T 43 w λc w=>cond a.isNone (St (c.add 0) (ae 0) w λw=>St (c.add 1) (ae 0) w λw=>St (c.add 2) (ae 0) w λw=>af .i64 (c.add 0) w λd=>af .i64 (c.add 1) w λe=>af .i64 (c.add 2) w λf=>Q d e f false w) (wA a λg=>cw (g.add 2) w λi=>aM P (Instr.lookup 169 (.map i) (ae b) true) w λj w=>dT j λl=>dH l λm n=>dL m λo=>dH o λp q=>dI .i64 p λr=>dH q λs t=>dI .i64 s λu=>dH t λv x=>dI .i64 v λy=>kT x<|dH n λz a1=>dB z λb1=>kT a1<|Al T 43 w λc1 w=>St (c1.add 0) (ae r) w λw=>St (c1.add 1) (ae u) w λw=>St (c1.add 2) (ae y) w λw=>af .i64 (c1.add 0) w λd1=>af .i64 (c1.add 1) w λe1=>af .i64 (c1.add 2) w λf1=>St (c.add 0) (ae d1) w λw=>St (c.add 1) (ae e1) w λw=>St (c.add 2) (ae f1) w λw=>af .i64 (c.add 0) w λg1=>af .i64 (c.add 1) w λi1=>af .i64 (c.add 2) w λj1=>Q g1 i1 j1 b1 w)) (ok 22) [] [] Tryz.func87
def oC (Q:L3 WP)(R3:OA->L3 (L3 (Int->Int->WP)))(a b:OA)(c d:Nat)(e:OA)(f g:Nat)(i j:Int)(w:World):Prop:=cond (decide (j<i)) (aH j f<|wA e λl=>af .i64 (l.add (j.toNat*1)) w λm=>wA a λn=>cw (n.add 2) w λo=>aM P (Instr.lookup 169 (.map o) (ae m) true) w λp w=>dT p λq=>dH q λr s=>dL r λt=>dH t λu v=>dI .i64 u λx=>dH v λy z=>dI .i64 y λa1=>dH z λb1 c1=>dI .i64 b1 λd1=>kT c1<|dH s λe1 f1=>dB e1 λg1=>kT f1<|Al T 43 w λi1 w=>St (i1.add 0) (ae x) w λw=>St (i1.add 1) (ae a1) w λw=>St (i1.add 2) (ae d1) w λw=>cond g1 (Bx [ae m] 3 w λj1 w=>App P #[29,29] 29 (.slice b c d) (.slice (some j1) 1 1) w λl1 m1 n1 w=>R3 a l1 m1 n1 e f g i (IntKind.wrap .i64 (j+1)) w) (R3 a b c d e f g i (IntKind.wrap .i64 (j+1)) w)) (Q b c d w)
def lZ (Q:L3 WP):Nat->OA->L3 (L3 (Int->Int->WP))
 |0,_,_,_,_,_,_,_,_,_,_=>False
 |k+1,a,b,c,d,e,f,g,i,j,w=>oC Q (lZ Q k) a b c d e f g i j w
def Qc (Q):∀k,Bk 33 Tryz.f102 (Ft Q) 3 [(0,.p),(3,.l),(11,.l),(12,.i .i64),(13,.i .i64)] (lZ Q k):=bI λk h=>aU (ok 33) [] [aL h]
def ME:=λa w Q=>bB (qB a w Q) (wA a λb=>aA (b.add 3) w λc d e=>∃k',lZ Q k' a none 0 0 c d e (d:Int) 0 w) (ok 33) [] [bY (Qc Q)] Tryz.func102
noncomputable def Qd:cA:=[(5,sp 0 9 (.op 9 (sp 10 2 .done)))]
def Ou:=λa b w Q=>bB (x7 a b w Q) (iS a b w λc d e f w=>Al T 43 w λg w=>St (g.add 0) (ae c) w λw=>St (g.add 1) (ae d) w λw=>St (g.add 2) (ae e) w λw=>cond (!f) (Q false w) (wA a λi=>cw (i.add 2) w λj=>aM P (Builtin.delete_ #[169,3] 0 [.map j,ae b].toArray) w λl w=>wA a λm=>aA (m.add 3) w.drew λn o p=>wA a λq=>cw (q.add 2) w.drew λr=>aM P (Builtin.len_ #[169] 3 [.map r].toArray) w.drew λs w=>dI .i64 s λt=>w.cell? (m.add 3)=some (.slice n o p)/\cond (decide ((o:Int)>(IntKind.wrap .i64 (2*t)))) (qB a w λu v x w=>wA a λy=>St (y.add 3) (.slice u v x) w λw=>Q true w) (Q true w))) (ok 37) Qd [] Tryz.func125
def Ov:=λa b w Q=>bB (rH a b w Q) (lY a b w λc w=>cond (c !=(-1)) (wA a λd=>aA d w λe f g=>aH b f<|wA e λi=>St (i.add (b.toNat*1)) (.int .u32 0) w λw=>wA a λj=>af .i64 (j.add 1) w λl=>wA a λm=>St (m.add 1) (ae (IntKind.wrap .i64 (l-1))) w λw=>Q c w) (Q c w)) (ok 25) [] [] Tryz.func126
noncomputable def Qe:cA:=[(1,sp 0 6 (.op 6 .done)),(2,sp 0 6 (.op 6 .done))]
def Ow:=λa b c d w Q=>bB (nP a b c d w Q) (Bx [ae b,ae c,ae d] 43 w λe w=>wA a λf=>bg (f.add 3) w.drew λg=>af .i64 e w.drew λi=>x7 g i w.drew λj w=>wA a λl=>bg (l.add 4) w.drew λm=>af .i64 (e.add 1) w.drew λn=>rH m n w.drew λo w=>Q w) (ok 18) Qe [] Tryz.func90
noncomputable def R_:cA:=[(4,sp 0 6 (.op 6 .done))]
def Qf:=λa b c w Q=>bB (sD a b c w Q) (iS a b w λd e f g w=>Al T 43 w λi w=>St (i.add 0) (ae d) w λw=>St (i.add 1) (ae e) w λw=>St (i.add 2) (ae f) w λw=>cond g (iv (cx 25) c [.pointer (some i)] w λj w=>dT j λl=>kT l<|wA a λm=>cw (m.add 2) w.drew λn=>af .i64 (i.add 0) w.drew λo=>af .i64 (i.add 1) w.drew λp=>af .i64 (i.add 2) w.drew λq=>bF P (Instr.mapUpdate 169 (.map n) (ae b) (.agg #[ae o,ae p,ae q])) w.drew λw=>Q g w) (Q g w)) (ok 25) R_ [] Tryz.func127
def MF:=λa b w Q=>bB (Du a b w Q) (wA b λc=>af .i64 c w λd=>wA a λe=>St (e.add 2) (ae d) w λw=>Q w) (ok 7) [] [] Tryz.func128
def Qg:=λa b c w Q=>bB (yZ a b c w Q) (Bx [ae c] 3 w λd w=>sD a b (.func (.func 128) #[] #[.pointer (some d)]) w λe w=>Q e w) (ok 11) [] [] Tryz.func91
def JG:=λa b c w Q=>bB (tf a b c w Q) (cond a.isNone (Q 1 w) (wA a λd=>bg (d.add 3) w λe=>iS e b w λf g i j w=>Al T 43 w λl w=>St (l.add 0) (ae f) w λw=>St (l.add 1) (ae g) w λw=>St (l.add 2) (ae i) w λw=>cond (!j) (Q 12 w) (pG a c w λm w=>cond (!m) (Q 7 w) (af .i64 (l.add 1) w λn=>m7 a 3 n c w λo w=>cond (o !=0) (af .i64 (l.add 0) w λp=>af .i64 (l.add 1) w λq=>af .i64 (l.add 2) w λr=>nP a p q r w λw=>Q o w) (wA a λs=>bg (s.add 3) w λt=>yZ t b c w λu w=>Q 0 w))))) (ok 47) [] [] Tryz.func55
def Kg:=λa b w Q=>bB (uh a b w Q) (cond a.isNone (Q 1 w) (wA a λc=>bg (c.add 3) w λd=>iS d b w λe f g i w=>Al T 43 w λj w=>St (j.add 0) (ae e) w λw=>St (j.add 1) (ae f) w λw=>St (j.add 2) (ae g) w λw=>cond (!i) (Q 12 w) (af .i64 (j.add 0) w λl=>af .i64 (j.add 1) w λm=>af .i64 (j.add 2) w λn=>nP a l m n w λw=>Q 0 w))) (ok 23) [] [] Tryz.func56
def Vy:=λa w Q=>bB (xj a w Q) (cond a.isNone (Q 0 0 w) (wA a λb=>bg b w λc=>eS c w λd e w=>Q d e w)) (ok 13) [] [] Tryz.func131
def XS:=λa b c w Q=>bB (nC a b c w Q) (tE a b c w λd e w=>cond (decide (d<0)) (Q (-1) w) (ee a b c w λf w=>om a b f w λg i w=>NZ 16<|NZ 16<|Q (IntKind.wrap .i64 ((IntKind.wrap .i64 ((Int.tmod e 16)*g))+(Int.tmod d 16))) w)) (ok 37) [] [] Tryz.func132
def rX (Q:Int->Int->L3 (Bool->WP))(R7:OA->Int->Addr->Int->Int->Int->Addr->Int->Int->WP)(a:OA)(b:Int)(c:Addr)(d e f:Int)(g:Addr)(i j:Int)(w:World):Prop:=cond (decide (j<i)) (ow d e b (IntKind.wrap .i64 (j*f)) w λl w=>aA (g.add 2) w.drew λm n o=>wA a λp=>aA (p.add 2) w.drew λq r s=>bS q r s 1 (some l) (some (IntKind.wrap .i64 (l+f))) λt u v=>App P #[22,22] 22 (.slice m n o) (.slice t u v) w.drew λx y z w=>St (g.add 2) (.slice x y z) w λw=>R7 a b c d e f g i (IntKind.wrap .i64 (j+1)) w) (af .i64 (g.add 0) w λa1=>af .i64 (g.add 1) w λb1=>aA (g.add 2) w λc1 d1 e1=>St (c.add 0) (ae a1) w λw=>St (c.add 1) (ae b1) w λw=>St (c.add 2) (.slice c1 d1 e1) w λw=>af .i64 (c.add 0) w λf1=>af .i64 (c.add 1) w λg1=>aA (c.add 2) w λi1 j1 l1=>Q f1 g1 i1 j1 l1 true w)
def oD (Q:Int->Int->L3 (Bool->WP)):Nat->OA->Int->Addr->Int->Int->Int->Addr->Int->Int->WP
 |0,_,_,_,_,_,_,_,_,_,_=>False
 |k+1,a,b,c,d,e,f,g,i,j,w=>rX Q (oD Q k) a b c d e f g i j w
noncomputable def Hs:cA:=[(10,sp 0 12 (.op 12 (.op 13 (.op 14 .done))))]
def Vz (Q):∀k,Bk 58 Tryz.f161 (IU Q) 7 [(0,.p),(1,.i .i64),(4,.a),(6,.i .i64),(7,.i .i64),(8,.i .i64),(10,.a),(31,.i .i64),(32,.i .i64)] (oD Q k):=bI λk h=>aU (ok 58) Hs [aL h]
def Sa:=λa b w Q=>bB (uu a b w Q) (Al T 84 w λc w=>eS a w λd e w=>om d e b w λf g w=>cond (f==0) (St (c.add 0) (ae 0) w λw=>St (c.add 1) (ae 0) w λw=>St (c.add 2) (.slice none 0 0) w λw=>af .i64 (c.add 0) w λi=>af .i64 (c.add 1) w λj=>aA (c.add 2) w λl m n=>Q i j l m n false w) (Al T 84 w λo w=>St (o.add 0) (ae f) w λw=>St (o.add 1) (ae g) w λw=>St (o.add 2) (.slice none 0 0) w λw=>∃k',oD Q k' a b c d e f o g 0 w)) (ok 58) Hs [bY (Vz Q)] Tryz.func161
def MG:=λa w Q=>bB (wL a w Q) (cond a.isNone (Q 0 w) (wA a λb=>af .i64 (b.add 1) w λc=>Q c w)) (ok 9) [] [] Tryz.func170
def VA:=λw Q=>bB (xo w Q) (Al T 314 w λa w=>St (a.add 0) (ae 0) w λw=>St (a.add 1) (ae 1) w λw=>St (a.add 2) (ae 2) w λw=>St (a.add 3) (ae 3) w λw=>af .i64 (a.add 0) w λb=>af .i64 (a.add 1) w λc=>af .i64 (a.add 2) w λd=>af .i64 (a.add 3) w λe=>Q b c d e w) (ok 2) [] [] Tryz.func194
def nH (Q:Int->WP)(a b c d:Int)(w:World):Prop:=Ac a b c d w λe w=>Q e w
def xy (Q:Int->WP)(a b c d e:Int)(w:World):Prop:=nH Q a b c (IntKind.wrap .i64 (d+e)) w
def xz (Q:Int->WP)(a b c d e:Int)(w:World):Prop:=nH Q a b (IntKind.wrap .i64 (c+e)) d w
def Gs (Q):Bk 43 Tryz.f21 (CU Q) 16 [(0,.i .i64),(1,.i .i64),(9,.i .i64),(10,.i .i64)] (nH Q):=aU (ok 43) [] []
def abg (Q):Bk 43 Tryz.f21 (CU Q) 12 [(0,.i .i64),(1,.i .i64),(9,.i .i64),(10,.i .i64),(11,.i .i64)] (xy Q):=aU (ok 43) [] [aL (Gs Q)]
def abh (Q):Bk 43 Tryz.f21 (CU Q) 14 [(0,.i .i64),(1,.i .i64),(9,.i .i64),(10,.i .i64),(11,.i .i64)] (xz Q):=aU (ok 43) [] [aL (Gs Q)]
def Zu:=λa b c d w Q=>bB (oh a b c d w Q) (tE a b c w λe f w=>cond (decide (e<0)) (Q (-1) w) (cond (d==0) (xy Q a b e f (-1) w) (cond (d==2) (xy Q a b e f 1 w) (cond (d==3) (xz Q a b e f (-1) w) (cond (d==1) (xz Q a b e f 1 w) (cond (d==4) (nH Q a b e f w) (Q (-1) w))))))) (ok 43) [] [aL (abg Q),aL (abh Q),aL (Gs Q)] Tryz.func21
def XT:=λa b c d w Q=>bB (yF a b c d w Q) (oh a b c d w λe w=>cond (decide (e<0)) (Q (-1) w) (ee a b e w λf w=>ee a b c w λg w=>cond (f==g) (Q (-1) w) (Q e w))) (ok 29) [] [] Tryz.func195
def tJ (Q:L3 WP)(R10:L3 (Int->Int->Int->WP))(a:OA)(b c:Nat)(d e f:Int)(w:World):Prop:=cond (decide (f<e)) (Bx [ae (IntKind.wrap .i64 (d+f))] 3 w λg w=>App P #[29,29] 29 (.slice a b c) (.slice (some g) 1 1) w λi j l w=>R10 i j l d e (IntKind.wrap .i64 (f+1)) w) (Q a b c w)
def nD (Q:L3 WP):Nat->L3 (Int->Int->Int->WP)
 |0,_,_,_,_,_,_,_=>False
 |k+1,a,b,c,d,e,f,w=>tJ Q (nD Q k) a b c d e f w
def tK (Q:L3 WP)(R16:Int->L3 (Int->Int->Int->WP))(a:Int)(b:OA)(c d:Nat)(e f g:Int)(w:World):Prop:=cond (decide (g<f)) (Bx [ae (IntKind.wrap .i64 (e+(IntKind.wrap .i64 (g*a))))] 3 w λi w=>App P #[29,29] 29 (.slice b c d) (.slice (some i) 1 1) w λj l m w=>R16 a j l m e f (IntKind.wrap .i64 (g+1)) w) (Q b c d w)
def nE (Q:L3 WP):Nat->Int->L3 (Int->Int->Int->WP)
 |0,_,_,_,_,_,_,_,_=>False
 |k+1,a,b,c,d,e,f,g,w=>tK Q (nE Q k) a b c d e f g w
def XU (Q):∀k,Bk 51 Tryz.f222 (E0 Q) 10 [(7,.l),(8,.i .i64),(24,.i .i64),(25,.i .i64)] (nD Q k):=bI λk h=>aU (ok 51) [] [aL h]
def XV (Q):∀k,Bk 51 Tryz.f222 (E0 Q) 16 [(0,.i .i64),(7,.l),(8,.i .i64),(37,.i .i64),(38,.i .i64)] (nE Q k):=bI λk h=>aU (ok 51) [] [aL h]
def VB:=λa b c w Q=>bB (Ca a b c w Q) (cond (c==2) (∃k',nD Q k' none 0 0 (IntKind.wrap .i64 ((IntKind.wrap .i64 (b-1))*a)) a 0 w) (cond (c==0) (∃k',nD Q k' none 0 0 0 a 0 w) (cond (c==1) (∃k',nE Q k' a none 0 0 (IntKind.wrap .i64 (a-1)) b 0 w) (cond (c==3) (∃k',nE Q k' a none 0 0 0 b 0 w) (Q none 0 0 w))))) (ok 51) [] [bY (XU Q),bY (XV Q)] Tryz.func222
def vm (P4:Int->Int->Int->Int->Int->L3 (Int->Int->Int->Int->Int->WP))(Q:L3 WP)(R9:Int->Int->Int->Int->Int->L3 (Int->Int->Int->Int->Int->L3 (Int->Int->WP)))(a b c d e:Int)(f:OA)(g i:Nat)(j l m n o:Int)(p:OA)(q r:Nat)(s t:Int)(w:World):Prop:=cond (decide (t<s)) (aH t q<|wA p λu=>af .i64 (u.add (t.toNat*1)) w λv=>aH v g<|wA f λx=>St (x.add (v.toNat*1)) (.bool true) w λw=>R9 a b c d e f g i j l m n o p q r s (IntKind.wrap .i64 (t+1)) w) (P4 a b c d e f g i j l m n (IntKind.wrap .i64 (o+1)) w)
def q9 (P4:Int->Int->Int->Int->Int->L3 (Int->Int->Int->Int->Int->WP))(Q:L3 WP):Nat->Int->Int->Int->Int->Int->L3 (Int->Int->Int->Int->Int->L3 (Int->Int->WP))
 |0,_,_,_,_,_,_,_,_,_,_,_,_,_,_,_,_,_,_,_=>False
 |k+1,a,b,c,d,e,f,g,i,j,l,m,n,o,p,q,r,s,t,w=>vm P4 Q (q9 P4 Q k) a b c d e f g i j l m n o p q r s t w
def tL (Q:L3 WP)(R16:Int->Int->Int->L3 (L3 (Int->Int->WP)))(a b c:Int)(d:OA)(e f:Nat)(g:OA)(i j:Nat)(l m:Int)(w:World):Prop:=cond (decide (m<l)) (aH m i<|wA g λn=>cv (n.add (m.toNat*1)) w λo=>cond o (ow a b c m w λp w=>Bx [ae p] 3 w λq w=>App P #[29,29] 29 (.slice d e f) (.slice (some q) 1 1) w λr s t w=>R16 a b c r s t g i j l (IntKind.wrap .i64 (m+1)) w) (R16 a b c d e f g i j l (IntKind.wrap .i64 (m+1)) w)) (Q d e f w)
def pZ (Q:L3 WP):Nat->Int->Int->Int->L3 (L3 (Int->Int->WP))
 |0,_,_,_,_,_,_,_,_,_,_,_,_=>False
 |k+1,a,b,c,d,e,f,g,i,j,l,m,w=>tL Q (pZ Q k) a b c d e f g i j l m w
def vo (Q:L3 WP)(R4:Int->Int->Int->Int->Int->L3 (Int->Int->Int->Int->Int->WP))(a b c d e:Int)(f:OA)(g i:Nat)(j l m n o:Int)(w:World):Prop:=cond (decide (o<4)) (aH o 4<|IxV [ae j,ae l,ae m,ae n] o.toNat λp=>dI .i64 p λq=>Ca d e q w λr s t w=>cond ((s:Int)==0) (R4 a b c d e f g i j l m n (IntKind.wrap .i64 (o+1)) w) (aH 0 s<|wA r λu=>af .i64 (u.add (((0:Int).toNat)*1)) w λv=>ow a b c v w λx w=>yF a b x q w λy w=>cond (decide (y<0)) (R4 a b c d e f g i j l m n (IntKind.wrap .i64 (o+1)) w) (∃k',q9 R4 Q k' a b c d e f g i j l m n o r s t (s:Int) 0 w))) (∃k',pZ Q k' a b c none 0 0 f g i (g:Int) 0 w)
def q_ (Q:L3 WP):Nat->Int->Int->Int->Int->Int->L3 (Int->Int->Int->Int->Int->WP)
 |0,_,_,_,_,_,_,_,_,_,_,_,_,_,_=>False
 |k+1,a,b,c,d,e,f,g,i,j,l,m,n,o,w=>vo Q (q_ Q k) a b c d e f g i j l m n o w
def Zv {P4}(Q)(H4:Bk 83 Tryz.f192 (vi Q) 4 [(0,.i .i64),(1,.i .i64),(2,.i .i64),(7,.i .i64),(8,.i .i64),(9,.l),(29,.g [.i64,.i64,.i64,.i64]),(30,.i .i64)] P4):∀k,Bk 83 Tryz.f192 (vi Q) 9 [(0,.i .i64),(1,.i .i64),(2,.i .i64),(7,.i .i64),(8,.i .i64),(9,.l),(29,.g [.i64,.i64,.i64,.i64]),(30,.i .i64),(54,.l),(55,.i .i64),(56,.i .i64)] (q9 P4 Q k):=bI λk h=>aU (ok 83) [] [aL H4,aL h]
def XW (Q):∀k,Bk 83 Tryz.f192 (vi Q) 16 [(0,.i .i64),(1,.i .i64),(2,.i .i64),(15,.l),(65,.l),(66,.i .i64),(67,.i .i64)] (pZ Q k):=bI λk h=>aU (ok 83) [] [aL h]
def Zw (Q):∀k,Bk 83 Tryz.f192 (vi Q) 4 [(0,.i .i64),(1,.i .i64),(2,.i .i64),(7,.i .i64),(8,.i .i64),(9,.l),(29,.g [.i64,.i64,.i64,.i64]),(30,.i .i64)] (q_ Q k):=bI λk h=>aU (ok 83) [] [aL h,bY (Zv Q h),bY (XW Q)]
def VC:=λa b c w Q=>bB (B9 a b c w Q) (om a b c w λd e w=>cy P 49 (ae (IntKind.wrap .i64 (d*e))) (ae (IntKind.wrap .i64 (d*e))) w λf g i w=>xo w λj l m n w=>∃k',q_ Q k' a b c d e f g i j l m n 0 w) (ok 83) [] [bY (Zw Q)] Tryz.func192
def XX:=λa b w Q=>bB (tF a b w Q) (fg a b w λc w=>cond (decide (c>0)) (Q (decide (c<255)) w) (Q false w)) (ok 15) [] [] Tryz.func193
def vp (Q:L3 WP)(R4:OA->L3 (L3 (Int->Int->WP)))(a b:OA)(c d:Nat)(e:OA)(f g:Nat)(i j:Int)(w:World):Prop:=cond (decide (j<i)) (aH j f<|wA e λl=>af .i64 (l.add (j.toNat*1)) w λm=>tF a m w λn w=>cond n (Bx [ae m] 3 w λo w=>App P #[29,29] 29 (.slice b c d) (.slice (some o) 1 1) w λp q r w=>R4 a p q r e f g i (IntKind.wrap .i64 (j+1)) w) (R4 a b c d e f g i (IntKind.wrap .i64 (j+1)) w)) (Q b c d w)
def rf (Q:L3 WP):Nat->OA->L3 (L3 (Int->Int->WP))
 |0,_,_,_,_,_,_,_,_,_,_=>False
 |k+1,a,b,c,d,e,f,g,i,j,w=>vp Q (rf Q k) a b c d e f g i j w
def Zx (Q):∀k,Bk 33 Tryz.f171 (K_ Q) 4 [(0,.p),(7,.l),(18,.l),(19,.i .i64),(20,.i .i64)] (rf Q k):=bI λk h=>aU (ok 33) [] [aL h]
def VD:=λa b w Q=>bB (oy a b w Q) (eS a w λc d w=>B9 c d b w λe f g w=>∃k',rf Q k' a none 0 0 e f g (f:Int) 0 w) (ok 33) [] [bY (Zx Q)] Tryz.func171
def vq (Q:L3 WP)(R6:OA->Int->Int->Int->L3 (Int->Int->Int->Int->Int->WP))(a:OA)(b c d:Int)(e:OA)(f g:Nat)(i j l m n:Int)(w:World):Prop:=cond (decide (n<4)) (aH n 4<|IxV [ae i,ae j,ae l,ae m] n.toNat λo=>dI .i64 o λp=>yF c d b p w λq w=>cond (decide (q≥0)) (tF a q w λr w=>cond r (fg a q w λs w=>Bx [ae q,ae s] 292 w λt w=>App P #[289,289] 289 (.slice e f g) (.slice (some t) 1 1) w λu v x w=>R6 a b c d u v x i j l m (IntKind.wrap .i64 (n+1)) w) (R6 a b c d e f g i j l m (IntKind.wrap .i64 (n+1)) w)) (R6 a b c d e f g i j l m (IntKind.wrap .i64 (n+1)) w)) (Q e f g w)
def oo (Q:L3 WP):Nat->OA->Int->Int->Int->L3 (Int->Int->Int->Int->Int->WP)
 |0,_,_,_,_,_,_,_,_,_,_,_,_,_=>False
 |k+1,a,b,c,d,e,f,g,i,j,l,m,n,w=>vq Q (oo Q k) a b c d e f g i j l m n w
def Zy (Q):∀k,Bk 46 Tryz.f172 (La Q) 6 [(0,.p),(1,.i .i64),(5,.i .i64),(6,.i .i64),(7,.l),(20,.g [.i64,.i64,.i64,.i64]),(21,.i .i64)] (oo Q k):=bI λk h=>aU (ok 46) [] [aL h]
def VE:=λa b w Q=>bB (B8 a b w Q) (eS a w λc d w=>tF a b w λe w=>cond (!e) (Q none 0 0 w) (xo w λf g i j w=>∃k',oo Q k' a b c d none 0 0 f g i j 0 w)) (ok 46) [] [bY (Zy Q)] Tryz.func172
def Sb:=λa b w Q=>bB (Ag a b w Q) (cond a.isNone (Q 1099511627776 w) (cond (decide (b<0)) (Q 1099511627776 w) (wA a λc=>aA (c.add 2) w λd e f=>cond (decide (b≥(e:Int))) (Q 1099511627776 w) (wA a λg=>aA (g.add 2) w λi j l=>aH b j<|wA i λm=>af .i32 (m.add (b.toNat*1)) w λn=>cond (n==2147483647) (Q 1099511627776 w) (wA a λo=>aA (o.add 2) w λp q r=>aH b q<|wA p λs=>af .i32 (s.add (b.toNat*1)) w λt=>Q (IntKind.wrap .i64 t) w))))) (ok 38) [] [] Tryz.func173
def iH (Q:Int->WP)(R4:Int->Int->Int->Int->Int->WP)(a b c d e:Int)(w:World):Prop:=cond (decide (e<=4)) (oh a b c e w λf w=>cond (f==d) (Q e w) (R4 a b c d (IntKind.wrap .i64 (e+1)) w)) (Q 5 w)
def mW (Q:Int->WP):Nat->Int->Int->Int->Int->Int->WP
 |0,_,_,_,_,_,_=>False
 |k+1,a,b,c,d,e,w=>iH Q (mW Q k) a b c d e w
def adv (Q):∀k,Bk 34 Tryz.f174 (PE Q) 4 [(0,.i .i64),(1,.i .i64),(2,.i .i64),(3,.i .i64),(9,.i .i64)] (mW Q k):=bI λk h=>aU (ok 34) [] [aL h]
def Zz:=λa b c d w Q=>bB (EX a b c d w Q) (yX a b c w λe w=>cond (!e) (Q 5 w) (yX a b d w λf w=>cond (!f) (Q 5 w) (∃k',mW Q k' a b c d 0 w))) (ok 34) [] [bY (adv Q)] Tryz.func174
def Oy:=λa w Q=>bB (yd a w Q) (cond a.isNone (Q (-1) w) (wA a λb=>af .i64 b w λc=>Q c w)) (ok 9) [] [] Tryz.func175
def Cf:=λa b c w Q=>bB (jn a b c w Q) (cond a.isNone (Q none 0 0 w) (Bx [] 294 w λd w=>App P #[278,278] 278 (.slice (some d) 0 0) (.slice a b c) w λe f g w=>Q e f g w)) (ok 8) [] [] Tryz.func185
def fQ (P1:L3 (Int->Int->Value->Int->WP))(Q:WP)(R4:L3 (Int->Int->Value->Int->Int->WP))(a:OA)(b c:Nat)(d e:Int)(f:Value)(g i:Int)(w:World):Prop:=cond (decide (i>d)) (aH i b<|wA a λj=>af .i64 ((j.add (i.toNat*3)).add 0) w.drew λl=>af .i64 ((j.add (i.toNat*3)).add 1) w.drew λm=>af .i64 ((j.add (i.toNat*3)).add 2) w.drew λn=>aH (IntKind.wrap .i64 (i-1)) b<|wA a λo=>af .i64 ((o.add (((IntKind.wrap .i64 (i-1))).toNat*3)).add 0) w.drew λp=>af .i64 ((o.add (((IntKind.wrap .i64 (i-1))).toNat*3)).add 1) w.drew λq=>af .i64 ((o.add (((IntKind.wrap .i64 (i-1))).toNat*3)).add 2) w.drew λr=>iv (cx 53) f [.agg #[ae l,ae m,ae n],.agg #[ae p,ae q,ae r]] w.drew λs w=>dI .i64 s λt=>cond (decide (t<0)) (aH (IntKind.wrap .i64 (i-1)) b<|wA a λu=>af .i64 ((u.add (((IntKind.wrap .i64 (i-1))).toNat*3)).add 0) w.drew λv=>af .i64 ((u.add (((IntKind.wrap .i64 (i-1))).toNat*3)).add 1) w.drew λx=>af .i64 ((u.add (((IntKind.wrap .i64 (i-1))).toNat*3)).add 2) w.drew λy=>aH i b<|wA a λz=>af .i64 ((z.add (i.toNat*3)).add 0) w.drew λa1=>af .i64 ((z.add (i.toNat*3)).add 1) w.drew λb1=>af .i64 ((z.add (i.toNat*3)).add 2) w.drew λc1=>aH i b<|wA a λd1=>St ((d1.add (i.toNat*3)).add 0) (ae v) w.drew λw=>St ((d1.add (i.toNat*3)).add 1) (ae x) w λw=>St ((d1.add (i.toNat*3)).add 2) (ae y) w λw=>aH (IntKind.wrap .i64 (i-1)) b<|wA a λe1=>St ((e1.add (((IntKind.wrap .i64 (i-1))).toNat*3)).add 0) (ae a1) w λw=>St ((e1.add (((IntKind.wrap .i64 (i-1))).toNat*3)).add 1) (ae b1) w λw=>St ((e1.add (((IntKind.wrap .i64 (i-1))).toNat*3)).add 2) (ae c1) w λw=>R4 a b c d e f g (IntKind.wrap .i64 (i-1)) w) (P1 a b c d e f (IntKind.wrap .i64 (g+1)) w)) (P1 a b c d e f (IntKind.wrap .i64 (g+1)) w.drew)
def eU (P1:L3 (Int->Int->Value->Int->WP))(Q:WP):Nat->L3 (Int->Int->Value->Int->Int->WP)
 |0,_,_,_,_,_,_,_,_,_=>False
 |k+1,a,b,c,d,e,f,g,i,w=>fQ P1 Q (eU P1 Q k) a b c d e f g i w
def fR (Q:WP)(R1:L3 (Int->Int->Value->Int->WP))(a:OA)(b c:Nat)(d e:Int)(f:Value)(g:Int)(w:World):Prop:=cond (decide (g<e)) (∃k',eU R1 Q k' a b c d e f g g w) (Q w)
def eV (Q:WP):Nat->L3 (Int->Int->Value->Int->WP)
 |0,_,_,_,_,_,_,_,_=>False
 |k+1,a,b,c,d,e,f,g,w=>fR Q (eV Q k) a b c d e f g w
noncomputable def ke:cA:=[(4,sp 0 14 (.op 14 (sp 15 2 .done))),(6,sp 0 15 (.op 15 (.op 16 (.op 17 .done))))]
def Aq {P1}(Q)(H1:Bk 53 Tryz.f243 (iy Q) 1 [(0,.l),(1,.i .i64),(2,.i .i64),(3,.v),(8,.i .i64)] P1):∀k,Bk 53 Tryz.f243 (iy Q) 4 [(0,.l),(1,.i .i64),(2,.i .i64),(3,.v),(8,.i .i64),(9,.i .i64)] (eU P1 Q k):=bI λk h=>aU (ok 53) ke [aL H1,aL h]
def Ar (Q):∀k,Bk 53 Tryz.f243 (iy Q) 1 [(0,.l),(1,.i .i64),(2,.i .i64),(3,.v),(8,.i .i64)] (eV Q k):=bI λk h=>aU (ok 53) ke [bY (Aq Q h)]
def zv:=λa b c d e f w Q=>bB (jP a b c d e f w Q) (∃k',eV Q k' a b c d e f (IntKind.wrap .i64 (d+1)) w) (ok 53) ke [bY (Ar Q)] Tryz.func243
def fJ (P1:L3 (Int->Int->Value->Int->WP))(Q:WP)(a:OA)(b c:Nat)(d e:Int)(f:Value)(g i:Int)(w:World):Prop:=aH (IntKind.wrap .i64 (e+g)) b<|wA a λj=>af .i64 ((j.add (((IntKind.wrap .i64 (e+g))).toNat*3)).add 0) w.drew λl=>af .i64 ((j.add (((IntKind.wrap .i64 (e+g))).toNat*3)).add 1) w.drew λm=>af .i64 ((j.add (((IntKind.wrap .i64 (e+g))).toNat*3)).add 2) w.drew λn=>aH (IntKind.wrap .i64 (e+i)) b<|wA a λo=>af .i64 ((o.add (((IntKind.wrap .i64 (e+i))).toNat*3)).add 0) w.drew λp=>af .i64 ((o.add (((IntKind.wrap .i64 (e+i))).toNat*3)).add 1) w.drew λq=>af .i64 ((o.add (((IntKind.wrap .i64 (e+i))).toNat*3)).add 2) w.drew λr=>iv (cx 82) f [.agg #[ae l,ae m,ae n],.agg #[ae p,ae q,ae r]] w.drew λs w=>dI .i64 s λt=>cond (!(decide (t<0))) (Q w) (aH (IntKind.wrap .i64 (e+i)) b<|wA a λu=>af .i64 ((u.add (((IntKind.wrap .i64 (e+i))).toNat*3)).add 0) w.drew λv=>af .i64 ((u.add (((IntKind.wrap .i64 (e+i))).toNat*3)).add 1) w.drew λx=>af .i64 ((u.add (((IntKind.wrap .i64 (e+i))).toNat*3)).add 2) w.drew λy=>aH (IntKind.wrap .i64 (e+g)) b<|wA a λz=>af .i64 ((z.add (((IntKind.wrap .i64 (e+g))).toNat*3)).add 0) w.drew λa1=>af .i64 ((z.add (((IntKind.wrap .i64 (e+g))).toNat*3)).add 1) w.drew λb1=>af .i64 ((z.add (((IntKind.wrap .i64 (e+g))).toNat*3)).add 2) w.drew λc1=>aH (IntKind.wrap .i64 (e+g)) b<|wA a λd1=>St ((d1.add (((IntKind.wrap .i64 (e+g))).toNat*3)).add 0) (ae v) w.drew λw=>St ((d1.add (((IntKind.wrap .i64 (e+g))).toNat*3)).add 1) (ae x) w λw=>St ((d1.add (((IntKind.wrap .i64 (e+g))).toNat*3)).add 2) (ae y) w λw=>aH (IntKind.wrap .i64 (e+i)) b<|wA a λe1=>St ((e1.add (((IntKind.wrap .i64 (e+i))).toNat*3)).add 0) (ae a1) w λw=>St ((e1.add (((IntKind.wrap .i64 (e+i))).toNat*3)).add 1) (ae b1) w λw=>St ((e1.add (((IntKind.wrap .i64 (e+i))).toNat*3)).add 2) (ae c1) w λw=>P1 a b c d e f i w)
def gU (Q:WP)(R1:L3 (Int->Int->Value->Int->WP))(a:OA)(b c:Nat)(d e:Int)(f:Value)(g:Int)(w:World):Prop:=cond (decide ((IntKind.wrap .i64 ((IntKind.wrap .i64 (2*g))+1))≥d)) (Q w) (cond (decide ((IntKind.wrap .i64 ((IntKind.wrap .i64 ((IntKind.wrap .i64 (2*g))+1))+1))<d)) (aH (IntKind.wrap .i64 (e+(IntKind.wrap .i64 ((IntKind.wrap .i64 (2*g))+1)))) b<|wA a λi=>af .i64 ((i.add (((IntKind.wrap .i64 (e+(IntKind.wrap .i64 ((IntKind.wrap .i64 (2*g))+1))))).toNat*3)).add 0) w.drew λj=>af .i64 ((i.add (((IntKind.wrap .i64 (e+(IntKind.wrap .i64 ((IntKind.wrap .i64 (2*g))+1))))).toNat*3)).add 1) w.drew λl=>af .i64 ((i.add (((IntKind.wrap .i64 (e+(IntKind.wrap .i64 ((IntKind.wrap .i64 (2*g))+1))))).toNat*3)).add 2) w.drew λm=>aH (IntKind.wrap .i64 ((IntKind.wrap .i64 (e+(IntKind.wrap .i64 ((IntKind.wrap .i64 (2*g))+1))))+1)) b<|wA a λn=>af .i64 ((n.add (((IntKind.wrap .i64 ((IntKind.wrap .i64 (e+(IntKind.wrap .i64 ((IntKind.wrap .i64 (2*g))+1))))+1))).toNat*3)).add 0) w.drew λo=>af .i64 ((n.add (((IntKind.wrap .i64 ((IntKind.wrap .i64 (e+(IntKind.wrap .i64 ((IntKind.wrap .i64 (2*g))+1))))+1))).toNat*3)).add 1) w.drew λp=>af .i64 ((n.add (((IntKind.wrap .i64 ((IntKind.wrap .i64 (e+(IntKind.wrap .i64 ((IntKind.wrap .i64 (2*g))+1))))+1))).toNat*3)).add 2) w.drew λq=>iv (cx 82) f [.agg #[ae j,ae l,ae m],.agg #[ae o,ae p,ae q]] w.drew λr w=>dI .i64 r λs=>cond (decide (s<0)) (fJ R1 Q a b c d e f g (IntKind.wrap .i64 ((IntKind.wrap .i64 ((IntKind.wrap .i64 (2*g))+1))+1)) w) (fJ R1 Q a b c d e f g (IntKind.wrap .i64 ((IntKind.wrap .i64 (2*g))+1)) w)) (fJ R1 Q a b c d e f g (IntKind.wrap .i64 ((IntKind.wrap .i64 (2*g))+1)) w.drew))
def eX (Q:WP):Nat->L3 (Int->Int->Value->Int->WP)
 |0,_,_,_,_,_,_,_,_=>False
 |k+1,a,b,c,d,e,f,g,w=>gU Q (eX Q k) a b c d e f g w
noncomputable def mg:cA:=[(3,sp 0 19 (.op 19 (sp 20 2 .done))),(5,sp 0 13 (.op 13 (sp 14 2 .done))),(6,sp 0 21 (.op 21 (.op 22 (.op 23 .done))))]
def C4 {P1}(Q)(H1:Bk 82 Tryz.f265 (jC Q) 1 [(0,.l),(2,.i .i64),(3,.i .i64),(4,.v),(10,.i .i64)] P1):Bk 82 Tryz.f265 (jC Q) 5 [(0,.l),(2,.i .i64),(3,.i .i64),(4,.v),(10,.i .i64),(11,.i .i64)] (fJ P1 Q):=aU (ok 82) mg [aL H1]
def C5 (Q):∀k,Bk 82 Tryz.f265 (jC Q) 1 [(0,.l),(2,.i .i64),(3,.i .i64),(4,.v),(10,.i .i64)] (eX Q k):=bI λk h=>aU (ok 82) mg [aL (C4 Q h)]
def BI:=λa b c d e f g w Q=>bB (jb a b c d e f g w Q) (∃k',eX Q k' a b c e f g d w) (ok 82) mg [bY (C5 Q)] Tryz.func265
def gV (Q:WP)(R8:L3 (Value->Int->Int->Int->WP))(a:OA)(b c:Nat)(d:Value)(e f g:Int)(w:World):Prop:=cond (decide (g≥0)) (aH (IntKind.wrap .i64 (e+g)) b<|wA a λi=>af .i64 ((i.add (((IntKind.wrap .i64 (e+g))).toNat*3)).add 0) w.drew λj=>af .i64 ((i.add (((IntKind.wrap .i64 (e+g))).toNat*3)).add 1) w.drew λl=>af .i64 ((i.add (((IntKind.wrap .i64 (e+g))).toNat*3)).add 2) w.drew λm=>aH e b<|wA a λn=>af .i64 ((n.add (e.toNat*3)).add 0) w.drew λo=>af .i64 ((n.add (e.toNat*3)).add 1) w.drew λp=>af .i64 ((n.add (e.toNat*3)).add 2) w.drew λq=>aH e b<|wA a λr=>St ((r.add (e.toNat*3)).add 0) (ae j) w.drew λw=>St ((r.add (e.toNat*3)).add 1) (ae l) w λw=>St ((r.add (e.toNat*3)).add 2) (ae m) w λw=>aH (IntKind.wrap .i64 (e+g)) b<|wA a λs=>St ((s.add (((IntKind.wrap .i64 (e+g))).toNat*3)).add 0) (ae o) w λw=>St ((s.add (((IntKind.wrap .i64 (e+g))).toNat*3)).add 1) (ae p) w λw=>St ((s.add (((IntKind.wrap .i64 (e+g))).toNat*3)).add 2) (ae q) w λw=>jb a b c f g e d w λw=>R8 a b c d e f (IntKind.wrap .i64 (g-1)) w) (Q w)
def fK (Q:WP):Nat->L3 (Value->Int->Int->Int->WP)
 |0,_,_,_,_,_,_,_,_=>False
 |k+1,a,b,c,d,e,f,g,w=>gV Q (fK Q k) a b c d e f g w
def gW (Q:WP)(R4:L3 (Value->Int->Int->Int->Int->WP))(a:OA)(b c:Nat)(d:Value)(e f g i:Int)(w:World):Prop:=cond (decide (i≥0)) (jb a b c i g e d w λw=>R4 a b c d e f g (IntKind.wrap .i64 (i-1)) w) (∃k',fK Q k' a b c d e f (IntKind.wrap .i64 (g-1)) w)
def fL (Q:WP):Nat->L3 (Value->Int->Int->Int->Int->WP)
 |0,_,_,_,_,_,_,_,_,_=>False
 |k+1,a,b,c,d,e,f,g,i,w=>gW Q (fL Q k) a b c d e f g i w
noncomputable def mj:cA:=[(10,sp 0 17 (.op 17 (.op 18 (.op 19 .done))))]
def C6 (Q):∀k,Bk 60 Tryz.f244 (mT Q) 8 [(0,.l),(3,.v),(8,.i .i64),(9,.i .i64),(12,.i .i64)] (fK Q k):=bI λk h=>aU (ok 60) mj [aL h]
def C7 (Q):∀k,Bk 60 Tryz.f244 (mT Q) 4 [(0,.l),(3,.v),(8,.i .i64),(9,.i .i64),(10,.i .i64),(11,.i .i64)] (fL Q k):=bI λk h=>aU (ok 60) mj [aL h,bY (C6 Q)]
def BJ:=λa b c d e f w Q=>bB (lU a b c d e f w Q) (NZ 2<|∃k',fL Q k' a b c f d 0 (IntKind.wrap .i64 (e-d)) (IntKind.wrap .i64 (Int.tdiv (IntKind.wrap .i64 ((IntKind.wrap .i64 (e-d))-1)) 2)) w) (ok 60) mj [bY (C7 Q)] Tryz.func244
def uG (Q:Int->WP)(a b:Int)(w:World):Prop:=aH (IntKind.wrap .u8 a) (ByteArray.mk ((#[0,1,2,2,3,3,3,3,4,4,4,4,4,4,4,4,5,5,5,5,5,5,5,5,5,5,5,5,5,5,5,5,6,6,6,6,6,6,6,6,6,6,6,6,6,6,6,6,6,6,6,6,6,6,6,6,6,6,6,6,6,6,6,6]++#[7,7,7,7,7,7,7,7,7,7,7,7,7,7,7,7,7,7,7,7,7,7,7,7,7,7,7,7,7,7,7,7,7,7,7,7,7,7,7,7,7,7,7,7,7,7,7,7,7,7,7,7,7,7,7,7,7,7,7,7,7,7,7,7])++(#[8,8,8,8,8,8,8,8,8,8,8,8,8,8,8,8,8,8,8,8,8,8,8,8,8,8,8,8,8,8,8,8,8,8,8,8,8,8,8,8,8,8,8,8,8,8,8,8,8,8,8,8,8,8,8,8,8,8,8,8,8,8,8,8]++#[8,8,8,8,8,8,8,8,8,8,8,8,8,8,8,8,8,8,8,8,8,8,8,8,8,8,8,8,8,8,8,8,8,8,8,8,8,8,8,8,8,8,8,8,8,8,8,8,8,8,8,8,8,8,8,8,8,8,8,8,8,8,8,8]))).size<|Q (IntKind.wrap .i64 (b+(IntKind.wrap .i64 (sb (ByteArray.mk ((#[0,1,2,2,3,3,3,3,4,4,4,4,4,4,4,4,5,5,5,5,5,5,5,5,5,5,5,5,5,5,5,5,6,6,6,6,6,6,6,6,6,6,6,6,6,6,6,6,6,6,6,6,6,6,6,6,6,6,6,6,6,6,6,6]++#[7,7,7,7,7,7,7,7,7,7,7,7,7,7,7,7,7,7,7,7,7,7,7,7,7,7,7,7,7,7,7,7,7,7,7,7,7,7,7,7,7,7,7,7,7,7,7,7,7,7,7,7,7,7,7,7,7,7,7,7,7,7,7,7])++(#[8,8,8,8,8,8,8,8,8,8,8,8,8,8,8,8,8,8,8,8,8,8,8,8,8,8,8,8,8,8,8,8,8,8,8,8,8,8,8,8,8,8,8,8,8,8,8,8,8,8,8,8,8,8,8,8,8,8,8,8,8,8,8,8]++#[8,8,8,8,8,8,8,8,8,8,8,8,8,8,8,8,8,8,8,8,8,8,8,8,8,8,8,8,8,8,8,8,8,8,8,8,8,8,8,8,8,8,8,8,8,8,8,8,8,8,8,8,8,8,8,8,8,8,8,8,8,8,8,8]))) (((IntKind.wrap .u8 a)).toNat))))) w
def vY (Q:Int->WP)(a b:Int)(w:World):Prop:=cond (decide (a≥256)) (D3 8<|uG Q (pA .u64 a 8) (IntKind.wrap .i64 (b+8)) w) (uG Q a b w)
def vZ (Q:Int->WP)(a b:Int)(w:World):Prop:=cond (decide (a≥65536)) (D3 16<|vY Q (pA .u64 a 16) (IntKind.wrap .i64 (b+16)) w) (vY Q a b w)
def Sc (Q):Bk 25 Tryz.f252 (vV Q) 10 [(0,.i .u64),(2,.i .i64)] (uG Q):=aU (ok 25) [] []
def Uo (Q):Bk 25 Tryz.f252 (vV Q) 7 [(0,.i .u64),(2,.i .i64)] (vY Q):=aU (ok 25) [] [aL (Sc Q)]
def Up (Q):Bk 25 Tryz.f252 (vV Q) 4 [(0,.i .u64),(2,.i .i64)] (vZ Q):=aU (ok 25) [] [aL (Uo Q)]
def Qh:=λa w Q=>bB (Fx a w Q) (cond (decide (a≥4294967296)) (D3 32<|vZ Q (pA .u64 a 32) 32 w) (vZ Q a 0 w)) (ok 25) [] [aL (Up Q)] Tryz.func252
def Uq:=λa w Q=>bB (vU a w Q) (Fx a w λb w=>Q b w) (ok 8) [] [] Tryz.func224
def I0:=λa w Q=>bB (zY a w Q) (vU (IntKind.wrap .u64 a) w λb w=>D3 b<|Q (BO .u64 1 b) w) (ok 7) [] [] Tryz.func266
noncomputable def Kh:cA:=[(1,sp 0 9 (.op 9 .done)),(2,sp 0 9 (.op 9 .done)),(3,sp 0 9 (.op 9 .done))]
def JI:=λa w Q=>bB (tj a w Q) (wA a λb=>af .u64 b w.drew λc=>wA a λd=>af .u64 d w.drew λe=>D3 13<|wA a λf=>St f (.int .u64 (agY .u64 c (BO .u64 e 13))) w.drew λw=>wA a λg=>af .u64 g w.drew λi=>wA a λj=>af .u64 j w.drew λl=>D3 7<|wA a λm=>St m (.int .u64 (agY .u64 i (pA .u64 l 7))) w.drew λw=>wA a λn=>af .u64 n w.drew λo=>wA a λp=>af .u64 p w.drew λq=>D3 17<|wA a λr=>St r (.int .u64 (agY .u64 o (BO .u64 q 17))) w.drew λw=>wA a λs=>af .u64 s w λt=>Q t w) (ok 33) Kh [] Tryz.func267
def fH (P5:L3 (Int->Int->Addr->Int->Int->WP))(Q:WP)(a:OA)(b c:Nat)(d e:Int)(f:Addr)(g i j:Int)(w:World):Prop:=aH (IntKind.wrap .i64 (d+j)) b<|wA a λl=>af .i64 ((l.add (((IntKind.wrap .i64 (d+j))).toNat*3)).add 0) w.drew λm=>af .i64 ((l.add (((IntKind.wrap .i64 (d+j))).toNat*3)).add 1) w.drew λn=>af .i64 ((l.add (((IntKind.wrap .i64 (d+j))).toNat*3)).add 2) w.drew λo=>aH i b<|wA a λp=>af .i64 ((p.add (i.toNat*3)).add 0) w.drew λq=>af .i64 ((p.add (i.toNat*3)).add 1) w.drew λr=>af .i64 ((p.add (i.toNat*3)).add 2) w.drew λs=>aH i b<|wA a λt=>St ((t.add (i.toNat*3)).add 0) (ae m) w.drew λw=>St ((t.add (i.toNat*3)).add 1) (ae n) w λw=>St ((t.add (i.toNat*3)).add 2) (ae o) w λw=>aH (IntKind.wrap .i64 (d+j)) b<|wA a λu=>St ((u.add (((IntKind.wrap .i64 (d+j))).toNat*3)).add 0) (ae q) w λw=>St ((u.add (((IntKind.wrap .i64 (d+j))).toNat*3)).add 1) (ae r) w λw=>St ((u.add (((IntKind.wrap .i64 (d+j))).toNat*3)).add 2) (ae s) w λw=>P5 a b c d e f g (IntKind.wrap .i64 (i+1)) w
def kK (Q:WP)(R5:L3 (Int->Int->Addr->Int->Int->WP))(a:OA)(b c:Nat)(d e:Int)(f:Addr)(g i:Int)(w:World):Prop:=NZ 4<|cond (decide (i<=(IntKind.wrap .i64 ((IntKind.wrap .i64 (d+(IntKind.wrap .i64 ((IntKind.wrap .i64 (Int.tdiv e 4))*2))))+1)))) (tj (some f) w λj w=>cond (decide ((IntKind.wrap .i64 (BN .u64 j (IntKind.wrap .u64 (g-1))))≥e)) (fH R5 Q a b c d e f g i (IntKind.wrap .i64 ((IntKind.wrap .i64 (BN .u64 j (IntKind.wrap .u64 (g-1))))-e)) w) (fH R5 Q a b c d e f g i (IntKind.wrap .i64 (BN .u64 j (IntKind.wrap .u64 (g-1)))) w)) (Q w)
def dK (Q:WP):Nat->L3 (Int->Int->Addr->Int->Int->WP)
 |0,_,_,_,_,_,_,_,_,_=>False
 |k+1,a,b,c,d,e,f,g,i,w=>kK Q (dK Q k) a b c d e f g i w
noncomputable def kj:cA:=[(10,sp 0 17 (.op 17 (.op 18 (.op 19 .done))))]
def zT {P5}(Q)(H5:Bk 67 Tryz.f245 (iz Q) 5 [(0,.l),(1,.i .i64),(8,.i .i64),(9,.a),(10,.i .u64),(11,.i .i64)] P5):Bk 67 Tryz.f245 (iz Q) 10 [(0,.l),(1,.i .i64),(8,.i .i64),(9,.a),(10,.i .u64),(11,.i .i64),(12,.i .i64)] (fH P5 Q):=aU (ok 67) kj [aL H5]
def Au (Q):∀k,Bk 67 Tryz.f245 (iz Q) 5 [(0,.l),(1,.i .i64),(8,.i .i64),(9,.a),(10,.i .u64),(11,.i .i64)] (dK Q k):=bI λk h=>aU (ok 67) kj [aL (zT Q h)]
def zw:=λa b c d e f w Q=>bB (jQ a b c d e f w Q) (cond (decide ((IntKind.wrap .i64 (e-d))≥8)) (Al T 390 w λg w=>St g (.int .u64 (IntKind.wrap .u64 (IntKind.wrap .i64 (e-d)))) w λw=>zY (IntKind.wrap .i64 (e-d)) w λi w=>NZ 4<|∃k',dK Q k' a b c d (IntKind.wrap .i64 (e-d)) g i (IntKind.wrap .i64 ((IntKind.wrap .i64 (d+(IntKind.wrap .i64 ((IntKind.wrap .i64 (Int.tdiv (IntKind.wrap .i64 (e-d)) 4))*2))))-1)) w) (Q w)) (ok 67) kj [bY (Au Q)] Tryz.func245
noncomputable def DP:cA:=[(1,sp 0 9 (.op 9 (.op 10 .done)))]
def C8:=λa b c d e f g w Q=>bB (gT a b c d e f g w Q) (aH e b<|wA a λi=>af .i64 ((i.add (e.toNat*3)).add 0) w.drew λj=>af .i64 ((i.add (e.toNat*3)).add 1) w.drew λl=>af .i64 ((i.add (e.toNat*3)).add 2) w.drew λm=>aH d b<|wA a λn=>af .i64 ((n.add (d.toNat*3)).add 0) w.drew λo=>af .i64 ((n.add (d.toNat*3)).add 1) w.drew λp=>af .i64 ((n.add (d.toNat*3)).add 2) w.drew λq=>iv (cx 32) g [.agg #[ae j,ae l,ae m],.agg #[ae o,ae p,ae q]] w.drew λr w=>dI .i64 r λs=>cond (decide (s<0)) (wA f λt=>af .i64 t w λu=>wA f λv=>St v (ae (IntKind.wrap .i64 (u+1))) w λw=>Q e d w) (Q d e w)) (ok 32) DP [] Tryz.func278
def C9:=λa b c d e f g i w Q=>bB (jD a b c d e f g i w Q) (gT a b c d e g i w λj l w=>gT a b c l f g i w λm n w=>gT a b c j m g i w λo p w=>Q p w) (ok 41) [] [] Tryz.func269
def yy:=λa b c d e f w Q=>bB (fo a b c d e f w Q) (jD a b c (IntKind.wrap .i64 (d-1)) d (IntKind.wrap .i64 (d+1)) e f w λg w=>Q g w) (ok 18) [] [] Tryz.func268
def iI (Q:Int->Int->WP)(a:Addr)(b:Int)(w:World):Prop:=af .i64 a w λc=>cond (c==0) (Q b 1 w) (cond (c==12) (Q b 2 w) (Q b 0 w))
def iJ (Q:Int->Int->WP)(a:OA)(b c:Nat)(d:Value)(e:Addr)(f g i:Int)(w:World):Prop:=jD a b c f g i (some e) d w λj w=>iI Q e j w
def qj (Q):Bk 63 Tryz.f246 (lE Q) 12 [(11,.a),(13,.i .i64)] (iI Q):=aU (ok 63) [] []
def AV (Q):Bk 63 Tryz.f246 (lE Q) 11 [(0,.l),(3,.v),(11,.a),(12,.i .i64),(13,.i .i64),(14,.i .i64)] (iJ Q):=aU (ok 63) [] [aL (qj Q)]
def Av:=λa b c d e f w Q=>bB (kJ a b c d e f w Q) (Al T 3 w λg w=>NZ 4<|NZ 4<|NZ 4<|cond (decide ((IntKind.wrap .i64 (e-d))≥8)) (cond (decide ((IntKind.wrap .i64 (e-d))≥50)) (fo a b c (IntKind.wrap .i64 (d+(IntKind.wrap .i64 ((IntKind.wrap .i64 (Int.tdiv (IntKind.wrap .i64 (e-d)) 4))*1)))) (some g) f w λi w=>fo a b c (IntKind.wrap .i64 (d+(IntKind.wrap .i64 ((IntKind.wrap .i64 (Int.tdiv (IntKind.wrap .i64 (e-d)) 4))*2)))) (some g) f w λj w=>fo a b c (IntKind.wrap .i64 (d+(IntKind.wrap .i64 ((IntKind.wrap .i64 (Int.tdiv (IntKind.wrap .i64 (e-d)) 4))*3)))) (some g) f w λl w=>iJ Q a b c f g i j l w) (iJ Q a b c f g (IntKind.wrap .i64 (d+(IntKind.wrap .i64 ((IntKind.wrap .i64 (Int.tdiv (IntKind.wrap .i64 (e-d)) 4))*1)))) (IntKind.wrap .i64 (d+(IntKind.wrap .i64 ((IntKind.wrap .i64 (Int.tdiv (IntKind.wrap .i64 (e-d)) 4))*2)))) (IntKind.wrap .i64 (d+(IntKind.wrap .i64 ((IntKind.wrap .i64 (Int.tdiv (IntKind.wrap .i64 (e-d)) 4))*3)))) w)) (iI Q g (IntKind.wrap .i64 (d+(IntKind.wrap .i64 ((IntKind.wrap .i64 (Int.tdiv (IntKind.wrap .i64 (e-d)) 4))*2)))) w)) (ok 63) [] [aL (AV Q),aL (qj Q)] Tryz.func246
def fY (Q:WP)(R2:L3 (Int->Int->WP))(a:OA)(b c:Nat)(d e:Int)(w:World):Prop:=cond (decide (d<e)) (aH e b<|wA a λf=>af .i64 ((f.add (e.toNat*3)).add 0) w.drew λg=>af .i64 ((f.add (e.toNat*3)).add 1) w.drew λi=>af .i64 ((f.add (e.toNat*3)).add 2) w.drew λj=>aH d b<|wA a λl=>af .i64 ((l.add (d.toNat*3)).add 0) w.drew λm=>af .i64 ((l.add (d.toNat*3)).add 1) w.drew λn=>af .i64 ((l.add (d.toNat*3)).add 2) w.drew λo=>aH d b<|wA a λp=>St ((p.add (d.toNat*3)).add 0) (ae g) w.drew λw=>St ((p.add (d.toNat*3)).add 1) (ae i) w λw=>St ((p.add (d.toNat*3)).add 2) (ae j) w λw=>aH e b<|wA a λq=>St ((q.add (e.toNat*3)).add 0) (ae m) w λw=>St ((q.add (e.toNat*3)).add 1) (ae n) w λw=>St ((q.add (e.toNat*3)).add 2) (ae o) w λw=>R2 a b c (IntKind.wrap .i64 (d+1)) (IntKind.wrap .i64 (e-1)) w) (Q w)
def e7 (Q:WP):Nat->L3 (Int->Int->WP)
 |0,_,_,_,_,_,_=>False
 |k+1,a,b,c,d,e,w=>fY Q (e7 Q k) a b c d e w
noncomputable def pM:cA:=[(3,sp 0 13 (.op 13 (.op 14 (.op 15 .done))))]
def AW (Q):∀k,Bk 34 Tryz.f247 (qg Q) 2 [(0,.l),(8,.i .i64),(9,.i .i64)] (e7 Q k):=bI λk h=>aU (ok 34) pM [aL h]
def zU:=λa b c d e f w Q=>bB (j_ a b c d e f w Q) (∃k',e7 Q k' a b c d (IntKind.wrap .i64 (e-1)) w) (ok 34) pM [bY (AW Q)] Tryz.func247
def eF (P3:L3 (Int->Int->Value->Int->Int->WP))(Q:Bool->WP)(R20:L3 (Int->Int->Value->Int->Int->Int->WP))(a:OA)(b c:Nat)(d e:Int)(f:Value)(g i j:Int)(w:World):Prop:=cond (decide (j<e)) (aH j b<|wA a λl=>af .i64 ((l.add (j.toNat*3)).add 0) w.drew λm=>af .i64 ((l.add (j.toNat*3)).add 1) w.drew λn=>af .i64 ((l.add (j.toNat*3)).add 2) w.drew λo=>aH (IntKind.wrap .i64 (j-1)) b<|wA a λp=>af .i64 ((p.add (((IntKind.wrap .i64 (j-1))).toNat*3)).add 0) w.drew λq=>af .i64 ((p.add (((IntKind.wrap .i64 (j-1))).toNat*3)).add 1) w.drew λr=>af .i64 ((p.add (((IntKind.wrap .i64 (j-1))).toNat*3)).add 2) w.drew λs=>iv (cx 141) f [.agg #[ae m,ae n,ae o],.agg #[ae q,ae r,ae s]] w.drew λt w=>dI .i64 t λu=>cond (!(decide (u<0))) (P3 a b c d e f g (IntKind.wrap .i64 (i+1)) w) (aH (IntKind.wrap .i64 (j-1)) b<|wA a λv=>af .i64 ((v.add (((IntKind.wrap .i64 (j-1))).toNat*3)).add 0) w.drew λx=>af .i64 ((v.add (((IntKind.wrap .i64 (j-1))).toNat*3)).add 1) w.drew λy=>af .i64 ((v.add (((IntKind.wrap .i64 (j-1))).toNat*3)).add 2) w.drew λz=>aH j b<|wA a λa1=>af .i64 ((a1.add (j.toNat*3)).add 0) w.drew λb1=>af .i64 ((a1.add (j.toNat*3)).add 1) w.drew λc1=>af .i64 ((a1.add (j.toNat*3)).add 2) w.drew λd1=>aH j b<|wA a λe1=>St ((e1.add (j.toNat*3)).add 0) (ae x) w.drew λw=>St ((e1.add (j.toNat*3)).add 1) (ae y) w λw=>St ((e1.add (j.toNat*3)).add 2) (ae z) w λw=>aH (IntKind.wrap .i64 (j-1)) b<|wA a λf1=>St ((f1.add (((IntKind.wrap .i64 (j-1))).toNat*3)).add 0) (ae b1) w λw=>St ((f1.add (((IntKind.wrap .i64 (j-1))).toNat*3)).add 1) (ae c1) w λw=>St ((f1.add (((IntKind.wrap .i64 (j-1))).toNat*3)).add 2) (ae d1) w λw=>R20 a b c d e f g i (IntKind.wrap .i64 (j+1)) w)) (P3 a b c d e f g (IntKind.wrap .i64 (i+1)) w)
def cZ (P3:L3 (Int->Int->Value->Int->Int->WP))(Q:Bool->WP):Nat->L3 (Int->Int->Value->Int->Int->Int->WP)
 |0,_,_,_,_,_,_,_,_,_,_=>False
 |k+1,a,b,c,d,e,f,g,i,j,w=>eF P3 Q (cZ P3 Q k) a b c d e f g i j w
def c7 (P3:L3 (Int->Int->Value->Int->Int->WP))(Q:Bool->WP)(a:OA)(b c:Nat)(d e:Int)(f:Value)(g i:Int)(w:World):Prop:=cond (decide ((IntKind.wrap .i64 (e-g))≥2)) (∃k',cZ P3 Q k' a b c d e f g i (IntKind.wrap .i64 (g+1)) w) (P3 a b c d e f g (IntKind.wrap .i64 (i+1)) w)
def eG (P3:L3 (Int->Int->Value->Int->Int->WP))(Q:Bool->WP)(Yv:L3 (Int->Int->Value->Int->Int->Int->WP))(a:OA)(b c:Nat)(d e:Int)(f:Value)(g i j:Int)(w:World):Prop:=cond (decide (j≥1)) (aH j b<|wA a λl=>af .i64 ((l.add (j.toNat*3)).add 0) w.drew λm=>af .i64 ((l.add (j.toNat*3)).add 1) w.drew λn=>af .i64 ((l.add (j.toNat*3)).add 2) w.drew λo=>aH (IntKind.wrap .i64 (j-1)) b<|wA a λp=>af .i64 ((p.add (((IntKind.wrap .i64 (j-1))).toNat*3)).add 0) w.drew λq=>af .i64 ((p.add (((IntKind.wrap .i64 (j-1))).toNat*3)).add 1) w.drew λr=>af .i64 ((p.add (((IntKind.wrap .i64 (j-1))).toNat*3)).add 2) w.drew λs=>iv (cx 141) f [.agg #[ae m,ae n,ae o],.agg #[ae q,ae r,ae s]] w.drew λt w=>dI .i64 t λu=>cond (!(decide (u<0))) (c7 P3 Q a b c d e f g i w) (aH (IntKind.wrap .i64 (j-1)) b<|wA a λv=>af .i64 ((v.add (((IntKind.wrap .i64 (j-1))).toNat*3)).add 0) w.drew λx=>af .i64 ((v.add (((IntKind.wrap .i64 (j-1))).toNat*3)).add 1) w.drew λy=>af .i64 ((v.add (((IntKind.wrap .i64 (j-1))).toNat*3)).add 2) w.drew λz=>aH j b<|wA a λa1=>af .i64 ((a1.add (j.toNat*3)).add 0) w.drew λb1=>af .i64 ((a1.add (j.toNat*3)).add 1) w.drew λc1=>af .i64 ((a1.add (j.toNat*3)).add 2) w.drew λd1=>aH j b<|wA a λe1=>St ((e1.add (j.toNat*3)).add 0) (ae x) w.drew λw=>St ((e1.add (j.toNat*3)).add 1) (ae y) w λw=>St ((e1.add (j.toNat*3)).add 2) (ae z) w λw=>aH (IntKind.wrap .i64 (j-1)) b<|wA a λf1=>St ((f1.add (((IntKind.wrap .i64 (j-1))).toNat*3)).add 0) (ae b1) w λw=>St ((f1.add (((IntKind.wrap .i64 (j-1))).toNat*3)).add 1) (ae c1) w λw=>St ((f1.add (((IntKind.wrap .i64 (j-1))).toNat*3)).add 2) (ae d1) w λw=>Yv a b c d e f g i (IntKind.wrap .i64 (j-1)) w)) (c7 P3 Q a b c d e f g i w)
def c8 (P3:L3 (Int->Int->Value->Int->Int->WP))(Q:Bool->WP):Nat->L3 (Int->Int->Value->Int->Int->Int->WP)
 |0,_,_,_,_,_,_,_,_,_,_=>False
 |k+1,a,b,c,d,e,f,g,i,j,w=>eG P3 Q (c8 P3 Q k) a b c d e f g i j w
def eM (P3:L3 (Int->Int->Value->Int->Int->WP))(Q:Bool->WP)(a:OA)(b c:Nat)(d e:Int)(f:Value)(g i:Int)(w:World):Prop:=cond (g==e) (Q true w) (cond (decide ((IntKind.wrap .i64 (e-d))<50)) (Q false w) (aH (IntKind.wrap .i64 (g-1)) b<|wA a λj=>af .i64 ((j.add (((IntKind.wrap .i64 (g-1))).toNat*3)).add 0) w.drew λl=>af .i64 ((j.add (((IntKind.wrap .i64 (g-1))).toNat*3)).add 1) w.drew λm=>af .i64 ((j.add (((IntKind.wrap .i64 (g-1))).toNat*3)).add 2) w.drew λn=>aH g b<|wA a λo=>af .i64 ((o.add (g.toNat*3)).add 0) w.drew λp=>af .i64 ((o.add (g.toNat*3)).add 1) w.drew λq=>af .i64 ((o.add (g.toNat*3)).add 2) w.drew λr=>aH g b<|wA a λs=>St ((s.add (g.toNat*3)).add 0) (ae l) w.drew λw=>St ((s.add (g.toNat*3)).add 1) (ae m) w λw=>St ((s.add (g.toNat*3)).add 2) (ae n) w λw=>aH (IntKind.wrap .i64 (g-1)) b<|wA a λt=>St ((t.add (((IntKind.wrap .i64 (g-1))).toNat*3)).add 0) (ae p) w λw=>St ((t.add (((IntKind.wrap .i64 (g-1))).toNat*3)).add 1) (ae q) w λw=>St ((t.add (((IntKind.wrap .i64 (g-1))).toNat*3)).add 2) (ae r) w λw=>cond (decide ((IntKind.wrap .i64 (g-d))≥2)) (∃k',c8 P3 Q k' a b c d e f g i (IntKind.wrap .i64 (g-1)) w) (c7 P3 Q a b c d e f g i w)))
def eN (P3:L3 (Int->Int->Value->Int->Int->WP))(Q:Bool->WP)(R5:L3 (Int->Int->Value->Int->Int->WP))(a:OA)(b c:Nat)(d e:Int)(f:Value)(g i:Int)(w:World):Prop:=cond (decide (g<e)) (aH g b<|wA a λj=>af .i64 ((j.add (g.toNat*3)).add 0) w.drew λl=>af .i64 ((j.add (g.toNat*3)).add 1) w.drew λm=>af .i64 ((j.add (g.toNat*3)).add 2) w.drew λn=>aH (IntKind.wrap .i64 (g-1)) b<|wA a λo=>af .i64 ((o.add (((IntKind.wrap .i64 (g-1))).toNat*3)).add 0) w.drew λp=>af .i64 ((o.add (((IntKind.wrap .i64 (g-1))).toNat*3)).add 1) w.drew λq=>af .i64 ((o.add (((IntKind.wrap .i64 (g-1))).toNat*3)).add 2) w.drew λr=>iv (cx 141) f [.agg #[ae l,ae m,ae n],.agg #[ae p,ae q,ae r]] w.drew λs w=>dI .i64 s λt=>cond (!(decide (t<0))) (R5 a b c d e f (IntKind.wrap .i64 (g+1)) i w) (eM P3 Q a b c d e f g i w)) (eM P3 Q a b c d e f g i w.drew)
def dx (P3:L3 (Int->Int->Value->Int->Int->WP))(Q:Bool->WP):Nat->L3 (Int->Int->Value->Int->Int->WP)
 |0,_,_,_,_,_,_,_,_,_=>False
 |k+1,a,b,c,d,e,f,g,i,w=>eN P3 Q (dx P3 Q k) a b c d e f g i w
def eO (Q:Bool->WP)(R3:L3 (Int->Int->Value->Int->Int->WP))(a:OA)(b c:Nat)(d e:Int)(f:Value)(g i:Int)(w:World):Prop:=cond (decide (i<5)) (∃k',dx R3 Q k' a b c d e f g i w) (Q false w)
def bq (Q:Bool->WP):Nat->L3 (Int->Int->Value->Int->Int->WP)
 |0,_,_,_,_,_,_,_,_,_=>False
 |k+1,a,b,c,d,e,f,g,i,w=>eO Q (bq Q k) a b c d e f g i w
noncomputable def cF:cA:=[(5,sp 0 14 (.op 14 (sp 15 3 .done))),(11,sp 0 15 (.op 15 (.op 16 (.op 17 .done)))),(16,sp 0 10 (.op 10 (sp 11 2 .done))),(17,sp 0 15 (.op 15 (.op 16 (.op 17 .done)))),(22,sp 0 10 (.op 10 (sp 11 2 .done))),(23,sp 0 15 (.op 15 (.op 16 (.op 17 .done))))]
def vr {P3}(Q)(H3:Bk 141 Tryz.f248 (bp Q) 3 [(0,.l),(1,.i .i64),(2,.i .i64),(3,.v),(9,.i .i64),(10,.i .i64)] P3):∀k,Bk 141 Tryz.f248 (bp Q) 20 [(0,.l),(1,.i .i64),(2,.i .i64),(3,.v),(9,.i .i64),(10,.i .i64),(12,.i .i64)] (cZ P3 Q k):=bI λk h=>aU (ok 141) cF [aL H3,aL h]
def mq {P3}(Q)(H3:Bk 141 Tryz.f248 (bp Q) 3 [(0,.l),(1,.i .i64),(2,.i .i64),(3,.v),(9,.i .i64),(10,.i .i64)] P3):Bk 141 Tryz.f248 (bp Q) 18 [(0,.l),(1,.i .i64),(2,.i .i64),(3,.v),(9,.i .i64),(10,.i .i64)] (c7 P3 Q):=aU (ok 141) cF [aL H3,bY (vr Q H3)]
def vu {P3}(Q)(H3:Bk 141 Tryz.f248 (bp Q) 3 [(0,.l),(1,.i .i64),(2,.i .i64),(3,.v),(9,.i .i64),(10,.i .i64)] P3):∀k,Bk 141 Tryz.f248 (bp Q) 14 [(0,.l),(1,.i .i64),(2,.i .i64),(3,.v),(9,.i .i64),(10,.i .i64),(11,.i .i64)] (c8 P3 Q k):=bI λk h=>aU (ok 141) cF [aL h,aL (mq Q H3)]
def wc {P3}(Q)(H3:Bk 141 Tryz.f248 (bp Q) 3 [(0,.l),(1,.i .i64),(2,.i .i64),(3,.v),(9,.i .i64),(10,.i .i64)] P3):Bk 141 Tryz.f248 (bp Q) 7 [(0,.l),(1,.i .i64),(2,.i .i64),(3,.v),(9,.i .i64),(10,.i .i64)] (eM P3 Q):=aU (ok 141) cF [bY (vu Q H3),aL (mq Q H3)]
def we {P3}(Q)(H3:Bk 141 Tryz.f248 (bp Q) 3 [(0,.l),(1,.i .i64),(2,.i .i64),(3,.v),(9,.i .i64),(10,.i .i64)] P3):∀k,Bk 141 Tryz.f248 (bp Q) 5 [(0,.l),(1,.i .i64),(2,.i .i64),(3,.v),(9,.i .i64),(10,.i .i64)] (dx P3 Q k):=bI λk h=>aU (ok 141) cF [aL h,aL (wc Q H3)]
def wg (Q):∀k,Bk 141 Tryz.f248 (bp Q) 3 [(0,.l),(1,.i .i64),(2,.i .i64),(3,.v),(9,.i .i64),(10,.i .i64)] (bq Q k):=bI λk h=>aU (ok 141) cF [bY (we Q h)]
def uZ:=λa b c d e f w Q=>bB (iG a b c d e f w Q) (∃k',bq Q k' a b c d e f (IntKind.wrap .i64 (d+1)) 0 w) (ok 141) cF [bY (wg Q)] Tryz.func248
def eJ (P3:L3 (Int->Value->Int->Int->WP))(Q:Int->WP)(a:OA)(b c:Nat)(d:Int)(e:Value)(f g:Int)(w:World):Prop:=cond (decide (f>g)) (Q f w) (aH g b<|wA a λi=>af .i64 ((i.add (g.toNat*3)).add 0) w.drew λj=>af .i64 ((i.add (g.toNat*3)).add 1) w.drew λl=>af .i64 ((i.add (g.toNat*3)).add 2) w.drew λm=>aH f b<|wA a λn=>af .i64 ((n.add (f.toNat*3)).add 0) w.drew λo=>af .i64 ((n.add (f.toNat*3)).add 1) w.drew λp=>af .i64 ((n.add (f.toNat*3)).add 2) w.drew λq=>aH f b<|wA a λr=>St ((r.add (f.toNat*3)).add 0) (ae j) w.drew λw=>St ((r.add (f.toNat*3)).add 1) (ae l) w λw=>St ((r.add (f.toNat*3)).add 2) (ae m) w λw=>aH g b<|wA a λs=>St ((s.add (g.toNat*3)).add 0) (ae o) w λw=>St ((s.add (g.toNat*3)).add 1) (ae p) w λw=>St ((s.add (g.toNat*3)).add 2) (ae q) w λw=>P3 a b c d e (IntKind.wrap .i64 (f+1)) (IntKind.wrap .i64 (g-1)) w)
def dz (P3:L3 (Int->Value->Int->Int->WP))(Q:Int->WP)(R5:L3 (Int->Value->Int->Int->WP))(a:OA)(b c:Nat)(d:Int)(e:Value)(f g:Int)(w:World):Prop:=cond (decide (f<=g)) (aH d b<|wA a λi=>af .i64 ((i.add (d.toNat*3)).add 0) w.drew λj=>af .i64 ((i.add (d.toNat*3)).add 1) w.drew λl=>af .i64 ((i.add (d.toNat*3)).add 2) w.drew λm=>aH g b<|wA a λn=>af .i64 ((n.add (g.toNat*3)).add 0) w.drew λo=>af .i64 ((n.add (g.toNat*3)).add 1) w.drew λp=>af .i64 ((n.add (g.toNat*3)).add 2) w.drew λq=>iv (cx 90) e [.agg #[ae j,ae l,ae m],.agg #[ae o,ae p,ae q]] w.drew λr w=>dI .i64 r λs=>cond (decide (s<0)) (R5 a b c d e f (IntKind.wrap .i64 (g-1)) w) (eJ P3 Q a b c d e f g w)) (eJ P3 Q a b c d e f g w.drew)
def cL (P3:L3 (Int->Value->Int->Int->WP))(Q:Int->WP):Nat->L3 (Int->Value->Int->Int->WP)
 |0,_,_,_,_,_,_,_,_=>False
 |k+1,a,b,c,d,e,f,g,w=>dz P3 Q (cL P3 Q k) a b c d e f g w
def fI (Q:Int->WP)(R3:L3 (Int->Value->Int->Int->WP))(a:OA)(b c:Nat)(d:Int)(e:Value)(f g:Int)(w:World):Prop:=cond (decide (f<=g)) (aH d b<|wA a λi=>af .i64 ((i.add (d.toNat*3)).add 0) w.drew λj=>af .i64 ((i.add (d.toNat*3)).add 1) w.drew λl=>af .i64 ((i.add (d.toNat*3)).add 2) w.drew λm=>aH f b<|wA a λn=>af .i64 ((n.add (f.toNat*3)).add 0) w.drew λo=>af .i64 ((n.add (f.toNat*3)).add 1) w.drew λp=>af .i64 ((n.add (f.toNat*3)).add 2) w.drew λq=>iv (cx 90) e [.agg #[ae j,ae l,ae m],.agg #[ae o,ae p,ae q]] w.drew λr w=>dI .i64 r λs=>cond (!(decide (s<0))) (R3 a b c d e (IntKind.wrap .i64 (f+1)) g w) (∃k',cL R3 Q k' a b c d e f g w)) (∃k',cL R3 Q k' a b c d e f g w.drew)
def cM (Q:Int->WP):Nat->L3 (Int->Value->Int->Int->WP)
 |0,_,_,_,_,_,_,_,_=>False
 |k+1,a,b,c,d,e,f,g,w=>fI Q (cM Q k) a b c d e f g w
noncomputable def gX:cA:=[(1,sp 0 13 (.op 13 (.op 14 (.op 15 .done)))),(3,sp 0 13 (.op 13 (sp 14 3 .done))),(5,sp 0 13 (.op 13 (sp 14 2 .done))),(8,sp 0 13 (.op 13 (.op 14 (.op 15 .done))))]
def zV {P3}(Q)(H3:Bk 90 Tryz.f249 (eI Q) 3 [(0,.l),(1,.i .i64),(4,.v),(11,.i .i64),(12,.i .i64)] P3):Bk 90 Tryz.f249 (eI Q) 7 [(0,.l),(1,.i .i64),(4,.v),(11,.i .i64),(12,.i .i64)] (eJ P3 Q):=aU (ok 90) gX [aL H3]
def zW {P3}(Q)(H3:Bk 90 Tryz.f249 (eI Q) 3 [(0,.l),(1,.i .i64),(4,.v),(11,.i .i64),(12,.i .i64)] P3):∀k,Bk 90 Tryz.f249 (eI Q) 5 [(0,.l),(1,.i .i64),(4,.v),(11,.i .i64),(12,.i .i64)] (cL P3 Q k):=bI λk h=>aU (ok 90) gX [aL h,aL (zV Q H3)]
def zX (Q):∀k,Bk 90 Tryz.f249 (eI Q) 3 [(0,.l),(1,.i .i64),(4,.v),(11,.i .i64),(12,.i .i64)] (cM Q k):=bI λk h=>aU (ok 90) gX [aL h,bY (zW Q h)]
def yA:=λa b c d e f g w Q=>bB (jI a b c d e f g w Q) (aH f b<|wA a λi=>af .i64 ((i.add (f.toNat*3)).add 0) w.drew λj=>af .i64 ((i.add (f.toNat*3)).add 1) w.drew λl=>af .i64 ((i.add (f.toNat*3)).add 2) w.drew λm=>aH d b<|wA a λn=>af .i64 ((n.add (d.toNat*3)).add 0) w.drew λo=>af .i64 ((n.add (d.toNat*3)).add 1) w.drew λp=>af .i64 ((n.add (d.toNat*3)).add 2) w.drew λq=>aH d b<|wA a λr=>St ((r.add (d.toNat*3)).add 0) (ae j) w.drew λw=>St ((r.add (d.toNat*3)).add 1) (ae l) w λw=>St ((r.add (d.toNat*3)).add 2) (ae m) w λw=>aH f b<|wA a λs=>St ((s.add (f.toNat*3)).add 0) (ae o) w λw=>St ((s.add (f.toNat*3)).add 1) (ae p) w λw=>St ((s.add (f.toNat*3)).add 2) (ae q) w λw=>∃k',cM Q k' a b c d g (IntKind.wrap .i64 (d+1)) (IntKind.wrap .i64 (e-1)) w) (ok 90) gX [bY (zX Q)] Tryz.func249
def fm (tM:L3 (Int->Value->Int->Int->WP))(Q:Int->Bool->WP)(a:OA)(b c:Nat)(d:Int)(e:Value)(f g:Int)(w:World):Prop:=cond (decide (f>g)) (aH d b<|wA a λi=>af .i64 ((i.add (d.toNat*3)).add 0) w.drew λj=>af .i64 ((i.add (d.toNat*3)).add 1) w.drew λl=>af .i64 ((i.add (d.toNat*3)).add 2) w.drew λm=>aH g b<|wA a λn=>af .i64 ((n.add (g.toNat*3)).add 0) w.drew λo=>af .i64 ((n.add (g.toNat*3)).add 1) w.drew λp=>af .i64 ((n.add (g.toNat*3)).add 2) w.drew λq=>aH g b<|wA a λr=>St ((r.add (g.toNat*3)).add 0) (ae j) w.drew λw=>St ((r.add (g.toNat*3)).add 1) (ae l) w λw=>St ((r.add (g.toNat*3)).add 2) (ae m) w λw=>aH d b<|wA a λs=>St ((s.add (d.toNat*3)).add 0) (ae o) w λw=>St ((s.add (d.toNat*3)).add 1) (ae p) w λw=>St ((s.add (d.toNat*3)).add 2) (ae q) w λw=>Q g false w) (aH g b<|wA a λt=>af .i64 ((t.add (g.toNat*3)).add 0) w.drew λu=>af .i64 ((t.add (g.toNat*3)).add 1) w.drew λv=>af .i64 ((t.add (g.toNat*3)).add 2) w.drew λx=>aH f b<|wA a λy=>af .i64 ((y.add (f.toNat*3)).add 0) w.drew λz=>af .i64 ((y.add (f.toNat*3)).add 1) w.drew λa1=>af .i64 ((y.add (f.toNat*3)).add 2) w.drew λb1=>aH f b<|wA a λc1=>St ((c1.add (f.toNat*3)).add 0) (ae u) w.drew λw=>St ((c1.add (f.toNat*3)).add 1) (ae v) w λw=>St ((c1.add (f.toNat*3)).add 2) (ae x) w λw=>aH g b<|wA a λd1=>St ((d1.add (g.toNat*3)).add 0) (ae z) w λw=>St ((d1.add (g.toNat*3)).add 1) (ae a1) w λw=>St ((d1.add (g.toNat*3)).add 2) (ae b1) w λw=>tM a b c d e (IntKind.wrap .i64 (f+1)) (IntKind.wrap .i64 (g-1)) w)
def eC (tM:L3 (Int->Value->Int->Int->WP))(Q:Int->Bool->WP)(R15:L3 (Int->Value->Int->Int->WP))(a:OA)(b c:Nat)(d:Int)(e:Value)(f g:Int)(w:World):Prop:=cond (decide (f<=g)) (aH g b<|wA a λi=>af .i64 ((i.add (g.toNat*3)).add 0) w.drew λj=>af .i64 ((i.add (g.toNat*3)).add 1) w.drew λl=>af .i64 ((i.add (g.toNat*3)).add 2) w.drew λm=>aH d b<|wA a λn=>af .i64 ((n.add (d.toNat*3)).add 0) w.drew λo=>af .i64 ((n.add (d.toNat*3)).add 1) w.drew λp=>af .i64 ((n.add (d.toNat*3)).add 2) w.drew λq=>iv (cx 178) e [.agg #[ae j,ae l,ae m],.agg #[ae o,ae p,ae q]] w.drew λr w=>dI .i64 r λs=>cond (!(decide (s<0))) (R15 a b c d e f (IntKind.wrap .i64 (g-1)) w) (fm tM Q a b c d e f g w)) (fm tM Q a b c d e f g w.drew)
def dg (tM:L3 (Int->Value->Int->Int->WP))(Q:Int->Bool->WP):Nat->L3 (Int->Value->Int->Int->WP)
 |0,_,_,_,_,_,_,_,_=>False
 |k+1,a,b,c,d,e,f,g,w=>eC tM Q (dg tM Q k) a b c d e f g w
def gA (Q:Int->Bool->WP)(R13:L3 (Int->Value->Int->Int->WP))(a:OA)(b c:Nat)(d:Int)(e:Value)(f g:Int)(w:World):Prop:=cond (decide (f<=g)) (aH f b<|wA a λi=>af .i64 ((i.add (f.toNat*3)).add 0) w.drew λj=>af .i64 ((i.add (f.toNat*3)).add 1) w.drew λl=>af .i64 ((i.add (f.toNat*3)).add 2) w.drew λm=>aH d b<|wA a λn=>af .i64 ((n.add (d.toNat*3)).add 0) w.drew λo=>af .i64 ((n.add (d.toNat*3)).add 1) w.drew λp=>af .i64 ((n.add (d.toNat*3)).add 2) w.drew λq=>iv (cx 178) e [.agg #[ae j,ae l,ae m],.agg #[ae o,ae p,ae q]] w.drew λr w=>dI .i64 r λs=>cond (decide (s<0)) (R13 a b c d e (IntKind.wrap .i64 (f+1)) g w) (∃k',dg R13 Q k' a b c d e f g w)) (∃k',dg R13 Q k' a b c d e f g w.drew)
def dh (Q:Int->Bool->WP):Nat->L3 (Int->Value->Int->Int->WP)
 |0,_,_,_,_,_,_,_,_=>False
 |k+1,a,b,c,d,e,f,g,w=>gA Q (dh Q k) a b c d e f g w
def gI (Q:Int->Bool->WP)(a:OA)(b c:Nat)(d:Int)(e:Value)(f g:Int)(w:World):Prop:=cond (decide (f>g)) (aH d b<|wA a λi=>af .i64 ((i.add (d.toNat*3)).add 0) w.drew λj=>af .i64 ((i.add (d.toNat*3)).add 1) w.drew λl=>af .i64 ((i.add (d.toNat*3)).add 2) w.drew λm=>aH g b<|wA a λn=>af .i64 ((n.add (g.toNat*3)).add 0) w.drew λo=>af .i64 ((n.add (g.toNat*3)).add 1) w.drew λp=>af .i64 ((n.add (g.toNat*3)).add 2) w.drew λq=>aH g b<|wA a λr=>St ((r.add (g.toNat*3)).add 0) (ae j) w.drew λw=>St ((r.add (g.toNat*3)).add 1) (ae l) w λw=>St ((r.add (g.toNat*3)).add 2) (ae m) w λw=>aH d b<|wA a λs=>St ((s.add (d.toNat*3)).add 0) (ae o) w λw=>St ((s.add (d.toNat*3)).add 1) (ae p) w λw=>St ((s.add (d.toNat*3)).add 2) (ae q) w λw=>Q g true w) (aH g b<|wA a λt=>af .i64 ((t.add (g.toNat*3)).add 0) w.drew λu=>af .i64 ((t.add (g.toNat*3)).add 1) w.drew λv=>af .i64 ((t.add (g.toNat*3)).add 2) w.drew λx=>aH f b<|wA a λy=>af .i64 ((y.add (f.toNat*3)).add 0) w.drew λz=>af .i64 ((y.add (f.toNat*3)).add 1) w.drew λa1=>af .i64 ((y.add (f.toNat*3)).add 2) w.drew λb1=>aH f b<|wA a λc1=>St ((c1.add (f.toNat*3)).add 0) (ae u) w.drew λw=>St ((c1.add (f.toNat*3)).add 1) (ae v) w λw=>St ((c1.add (f.toNat*3)).add 2) (ae x) w λw=>aH g b<|wA a λd1=>St ((d1.add (g.toNat*3)).add 0) (ae z) w λw=>St ((d1.add (g.toNat*3)).add 1) (ae a1) w λw=>St ((d1.add (g.toNat*3)).add 2) (ae b1) w λw=>∃k',dh Q k' a b c d e (IntKind.wrap .i64 (f+1)) (IntKind.wrap .i64 (g-1)) w)
def gJ (Q:Int->Bool->WP)(R5:L3 (Int->Value->Int->Int->WP))(a:OA)(b c:Nat)(d:Int)(e:Value)(f g:Int)(w:World):Prop:=cond (decide (f<=g)) (aH g b<|wA a λi=>af .i64 ((i.add (g.toNat*3)).add 0) w.drew λj=>af .i64 ((i.add (g.toNat*3)).add 1) w.drew λl=>af .i64 ((i.add (g.toNat*3)).add 2) w.drew λm=>aH d b<|wA a λn=>af .i64 ((n.add (d.toNat*3)).add 0) w.drew λo=>af .i64 ((n.add (d.toNat*3)).add 1) w.drew λp=>af .i64 ((n.add (d.toNat*3)).add 2) w.drew λq=>iv (cx 178) e [.agg #[ae j,ae l,ae m],.agg #[ae o,ae p,ae q]] w.drew λr w=>dI .i64 r λs=>cond (!(decide (s<0))) (R5 a b c d e f (IntKind.wrap .i64 (g-1)) w) (gI Q a b c d e f g w)) (gI Q a b c d e f g w.drew)
def dD (Q:Int->Bool->WP):Nat->L3 (Int->Value->Int->Int->WP)
 |0,_,_,_,_,_,_,_,_=>False
 |k+1,a,b,c,d,e,f,g,w=>gJ Q (dD Q k) a b c d e f g w
def gK (Q:Int->Bool->WP)(R3:L3 (Int->Value->Int->Int->WP))(a:OA)(b c:Nat)(d:Int)(e:Value)(f g:Int)(w:World):Prop:=cond (decide (f<=g)) (aH f b<|wA a λi=>af .i64 ((i.add (f.toNat*3)).add 0) w.drew λj=>af .i64 ((i.add (f.toNat*3)).add 1) w.drew λl=>af .i64 ((i.add (f.toNat*3)).add 2) w.drew λm=>aH d b<|wA a λn=>af .i64 ((n.add (d.toNat*3)).add 0) w.drew λo=>af .i64 ((n.add (d.toNat*3)).add 1) w.drew λp=>af .i64 ((n.add (d.toNat*3)).add 2) w.drew λq=>iv (cx 178) e [.agg #[ae j,ae l,ae m],.agg #[ae o,ae p,ae q]] w.drew λr w=>dI .i64 r λs=>cond (decide (s<0)) (R3 a b c d e (IntKind.wrap .i64 (f+1)) g w) (∃k',dD Q k' a b c d e f g w)) (∃k',dD Q k' a b c d e f g w.drew)
def fy (Q:Int->Bool->WP):Nat->L3 (Int->Value->Int->Int->WP)
 |0,_,_,_,_,_,_,_,_=>False
 |k+1,a,b,c,d,e,f,g,w=>gK Q (fy Q k) a b c d e f g w
noncomputable def eE:cA:=[(1,sp 0 13 (.op 13 (.op 14 (.op 15 .done)))),(3,sp 0 13 (.op 13 (sp 14 2 .done))),(5,sp 0 13 (.op 13 (sp 14 3 .done))),(8,sp 0 13 (.op 13 (.op 14 (.op 15 .done)))),(10,sp 0 13 (.op 13 (.op 14 (.op 15 .done)))),(13,sp 0 13 (.op 13 (sp 14 2 .done))),(15,sp 0 13 (.op 13 (sp 14 3 .done))),(18,sp 0 13 (.op 13 (.op 14 (.op 15 .done)))),(21,sp 0 13 (.op 13 (.op 14 (.op 15 .done))))]
def BK {tM}(Q)(H13:Bk 178 Tryz.f250 (cS Q) 13 [(0,.l),(1,.i .i64),(4,.v),(12,.i .i64),(13,.i .i64)] tM):Bk 178 Tryz.f250 (cS Q) 17 [(0,.l),(1,.i .i64),(4,.v),(12,.i .i64),(13,.i .i64)] (fm tM Q):=aU (ok 178) eE [aL H13]
def BL {tM}(Q)(H13:Bk 178 Tryz.f250 (cS Q) 13 [(0,.l),(1,.i .i64),(4,.v),(12,.i .i64),(13,.i .i64)] tM):∀k,Bk 178 Tryz.f250 (cS Q) 15 [(0,.l),(1,.i .i64),(4,.v),(12,.i .i64),(13,.i .i64)] (dg tM Q k):=bI λk h=>aU (ok 178) eE [aL h,aL (BK Q H13)]
def BM (Q):∀k,Bk 178 Tryz.f250 (cS Q) 13 [(0,.l),(1,.i .i64),(4,.v),(12,.i .i64),(13,.i .i64)] (dh Q k):=bI λk h=>aU (ok 178) eE [aL h,bY (BL Q h)]
def Cg (Q):Bk 178 Tryz.f250 (cS Q) 7 [(0,.l),(1,.i .i64),(4,.v),(12,.i .i64),(13,.i .i64)] (gI Q):=aU (ok 178) eE [bY (BM Q)]
def Ch (Q):∀k,Bk 178 Tryz.f250 (cS Q) 5 [(0,.l),(1,.i .i64),(4,.v),(12,.i .i64),(13,.i .i64)] (dD Q k):=bI λk h=>aU (ok 178) eE [aL h,aL (Cg Q)]
def Ci (Q):∀k,Bk 178 Tryz.f250 (cS Q) 3 [(0,.l),(1,.i .i64),(4,.v),(12,.i .i64),(13,.i .i64)] (fy Q k):=bI λk h=>aU (ok 178) eE [aL h,bY (Ch Q)]
def Bb:=λa b c d e f g w Q=>bB (lF a b c d e f g w Q) (aH f b<|wA a λi=>af .i64 ((i.add (f.toNat*3)).add 0) w.drew λj=>af .i64 ((i.add (f.toNat*3)).add 1) w.drew λl=>af .i64 ((i.add (f.toNat*3)).add 2) w.drew λm=>aH d b<|wA a λn=>af .i64 ((n.add (d.toNat*3)).add 0) w.drew λo=>af .i64 ((n.add (d.toNat*3)).add 1) w.drew λp=>af .i64 ((n.add (d.toNat*3)).add 2) w.drew λq=>aH d b<|wA a λr=>St ((r.add (d.toNat*3)).add 0) (ae j) w.drew λw=>St ((r.add (d.toNat*3)).add 1) (ae l) w λw=>St ((r.add (d.toNat*3)).add 2) (ae m) w λw=>aH f b<|wA a λs=>St ((s.add (f.toNat*3)).add 0) (ae o) w λw=>St ((s.add (f.toNat*3)).add 1) (ae p) w λw=>St ((s.add (f.toNat*3)).add 2) (ae q) w λw=>∃k',fy Q k' a b c d g (IntKind.wrap .i64 (d+1)) (IntKind.wrap .i64 (e-1)) w) (ok 178) eE [bY (Ci Q)] Tryz.func250
def jE (P2:L3 (Int->Int->Int->Value->Bool->Bool->WP))(Q:WP)(a:OA)(b c:Nat)(d e f:Int)(g:Value)(i j:Int)(w:World):Prop:=lF a b c d e j g w λl m w=>NZ 8<|cond (decide ((IntKind.wrap .i64 (l-d))<(IntKind.wrap .i64 (e-l)))) (fu a b c d l f g w λw=>P2 a b c (IntKind.wrap .i64 (l+1)) e f g (decide ((IntKind.wrap .i64 (l-d))≥(IntKind.wrap .i64 (Int.tdiv i 8)))) m w) (fu a b c (IntKind.wrap .i64 (l+1)) e f g w λw=>P2 a b c d l f g (decide ((IntKind.wrap .i64 (e-l))≥(IntKind.wrap .i64 (Int.tdiv i 8)))) m w)
def eY (P2:L3 (Int->Int->Int->Value->Bool->Bool->WP))(Q:WP)(a:OA)(b c:Nat)(d e f:Int)(g:Value)(i j:Bool)(l m:Int)(w:World):Prop:=cond (decide (d>0)) (aH (IntKind.wrap .i64 (d-1)) b<|wA a λn=>af .i64 ((n.add (((IntKind.wrap .i64 (d-1))).toNat*3)).add 0) w.drew λo=>af .i64 ((n.add (((IntKind.wrap .i64 (d-1))).toNat*3)).add 1) w.drew λp=>af .i64 ((n.add (((IntKind.wrap .i64 (d-1))).toNat*3)).add 2) w.drew λq=>aH m b<|wA a λr=>af .i64 ((r.add (m.toNat*3)).add 0) w.drew λs=>af .i64 ((r.add (m.toNat*3)).add 1) w.drew λt=>af .i64 ((r.add (m.toNat*3)).add 2) w.drew λu=>iv (cx 148) g [.agg #[ae o,ae p,ae q],.agg #[ae s,ae t,ae u]] w.drew λv w=>dI .i64 v λx=>cond (!(decide (x<0))) (jI a b c d e m g w λy w=>P2 a b c y e f g i j w) (jE P2 Q a b c d e f g l m w)) (jE P2 Q a b c d e f g l m w.drew)
def gY (P2:L3 (Int->Int->Int->Value->Bool->Bool->WP))(Q:WP)(a:OA)(b c:Nat)(d e f:Int)(g:Value)(i j:Bool)(l m n:Int)(w:World):Prop:=cond i (cond j (cond (n==1) (iG a b c d e g w λo w=>cond o (Q w) (eY P2 Q a b c d e f g i j l m w)) (eY P2 Q a b c d e f g i j l m w)) (eY P2 Q a b c d e f g i j l m w)) (eY P2 Q a b c d e f g i j l m w)
def jF (P2:L3 (Int->Int->Int->Value->Bool->Bool->WP))(Q:WP)(a:OA)(b c:Nat)(d e f:Int)(g:Value)(i j:Bool)(l:Int)(w:World):Prop:=kJ a b c d e g w λm n w=>cond (n==2) (j_ a b c d e g w λw=>gY P2 Q a b c d e f g i j l (IntKind.wrap .i64 ((IntKind.wrap .i64 (e-1))-(IntKind.wrap .i64 (m-d)))) 1 w) (gY P2 Q a b c d e f g i j l m n w)
def ij (Q:WP)(R2:L3 (Int->Int->Int->Value->Bool->Bool->WP))(a:OA)(b c:Nat)(d e f:Int)(g:Value)(i j:Bool)(w:World):Prop:=cond (decide ((IntKind.wrap .i64 (e-d))<=12)) (jP a b c d e g w λw=>Q w) (cond (f==0) (lU a b c d e g w λw=>Q w) (cond (!i) (jQ a b c d e g w λw=>jF R2 Q a b c d e (IntKind.wrap .i64 (f-1)) g i j (IntKind.wrap .i64 (e-d)) w) (jF R2 Q a b c d e f g i j (IntKind.wrap .i64 (e-d)) w)))
def cK (Q:WP):Nat->L3 (Int->Int->Int->Value->Bool->Bool->WP)
 |0,_,_,_,_,_,_,_,_,_,_=>False
 |k+1,a,b,c,d,e,f,g,i,j,w=>ij Q (cK Q k) a b c d e f g i j w
noncomputable def fN:cA:=[(17,sp 0 13 (.op 13 (sp 14 3 .done)))]
def C_ {P2}(Q)(H2:Bk 148 Tryz.f223 (cJ Q) 2 [(0,.l),(1,.i .i64),(2,.i .i64),(3,.i .i64),(4,.v),(10,.b),(11,.b)] P2):Bk 148 Tryz.f223 (cJ Q) 20 [(0,.l),(1,.i .i64),(2,.i .i64),(3,.i .i64),(4,.v),(12,.i .i64),(13,.i .i64)] (jE P2 Q):=aU (ok 148) fN [aL H2]
def Da {P2}(Q)(H2:Bk 148 Tryz.f223 (cJ Q) 2 [(0,.l),(1,.i .i64),(2,.i .i64),(3,.i .i64),(4,.v),(10,.b),(11,.b)] P2):Bk 148 Tryz.f223 (cJ Q) 17 [(0,.l),(1,.i .i64),(2,.i .i64),(3,.i .i64),(4,.v),(10,.b),(11,.b),(12,.i .i64),(13,.i .i64)] (eY P2 Q):=aU (ok 148) fN [aL H2,aL (C_ Q H2)]
def Db {P2}(Q)(H2:Bk 148 Tryz.f223 (cJ Q) 2 [(0,.l),(1,.i .i64),(2,.i .i64),(3,.i .i64),(4,.v),(10,.b),(11,.b)] P2):Bk 148 Tryz.f223 (cJ Q) 15 [(0,.l),(1,.i .i64),(2,.i .i64),(3,.i .i64),(4,.v),(10,.b),(11,.b),(12,.i .i64),(13,.i .i64),(14,.i .i64)] (gY P2 Q):=aU (ok 148) fN [aL (Da Q H2)]
def Dc {P2}(Q)(H2:Bk 148 Tryz.f223 (cJ Q) 2 [(0,.l),(1,.i .i64),(2,.i .i64),(3,.i .i64),(4,.v),(10,.b),(11,.b)] P2):Bk 148 Tryz.f223 (cJ Q) 10 [(0,.l),(1,.i .i64),(2,.i .i64),(3,.i .i64),(4,.v),(10,.b),(11,.b),(12,.i .i64)] (jF P2 Q):=aU (ok 148) fN [aL (Db Q H2)]
def DQ (Q):∀k,Bk 148 Tryz.f223 (cJ Q) 2 [(0,.l),(1,.i .i64),(2,.i .i64),(3,.i .i64),(4,.v),(10,.b),(11,.b)] (cK Q k):=bI λk h=>aU (ok 148) fN [aL (Dc Q h)]
def rY:=λa b c d e f g w Q=>bB (fu a b c d e f g w Q) (∃k',cK Q k' a b c d e f g true true w) (ok 148) fN [bY (DQ Q)] Tryz.func223
def AX:=λa b c d w Q=>bB (kV a b c d w Q) (vU (IntKind.wrap .u64 (b:Int)) w λe w=>fu a b c 0 (b:Int) e d w λw=>Q w) (ok 14) [] [] Tryz.func196
def mX (Q:Int->WP)(R3:Int->L3 (Int->Int->WP))(a:Int)(b:OA)(c d:Nat)(e f:Int)(w:World):Prop:=cond (decide (f<e)) (aH f c<|wA b λg=>af .i64 (g.add (f.toNat*1)) w λi=>cond (i !=a) (Q i w) (R3 a b c d e (IntKind.wrap .i64 (f+1)) w)) (Q a w)
def ri (Q:Int->WP):Nat->Int->L3 (Int->Int->WP)
 |0,_,_,_,_,_,_,_=>False
 |k+1,a,b,c,d,e,f,w=>mX Q (ri Q k) a b c d e f w
def adx (Q):∀k,Bk 18 Tryz.f225 (PG Q) 3 [(3,.i .i64),(6,.l),(7,.i .i64),(8,.i .i64)] (ri Q k):=bI λk h=>aU (ok 18) [] [aL h]
def ZA:=λa b c w Q=>bB (E1 a b c w Q) (∃k',ri Q k' 0 a b c (b:Int) 0 w) (ok 18) [] [bY (adx Q)] Tryz.func225
def Bc:=λa w Q=>bB (qN a w Q) (Q (a !=a) w) (ok 6) [] [] Tryz.func253
def Qi:=λa b w Q=>bB (oz a b w Q) (qN a w λc w=>qN b w λd w=>cond c (cond d (Q 0 w) (Q (-1) w)) (cond d (Q 1 w) (cond (decide (a<b)) (Q (-1) w) (cond (decide (a>b)) (Q 1 w) (Q 0 w))))) (ok 20) [] [] Tryz.func226
noncomputable def ZB:cA:=[(1,sp 0 4 (sp 5 4 (sp 10 4 (.op 4 (.op 9 (.op 14 (.op 15 (.op 16 (.op 17 .done)))))))))]
def XY:=λa b c d e f w Q=>bB (DM a b c d e f w Q) (Bx [ae a,ae b,ae c] 294 w λg w=>Bx [ae d,ae e,ae f] 294 w λi w=>af .i64 (g.add 2) w.drew λj=>af .i64 (i.add 2) w.drew λl=>af .i64 g w.drew λm=>af .i64 i w.drew λn=>af .i64 (g.add 1) w.drew λo=>af .i64 (i.add 1) w.drew λp=>oz j l w.drew λq w=>w.cell? (i.add 1)=some (ae p)/\w.cell? (g.add 1)=some (ae o)/\w.cell? i=some (ae n)/\w.cell? g=some (ae m)/\oz m n w λr w=>w.cell? (i.add 1)=some (ae p)/\w.cell? (g.add 1)=some (ae o)/\oz o p w λs w=>Bx [ae q,ae r,ae s] 3 w λt w=>E1 (some t) 3 3 w λu w=>Q u w) (ok 22) ZB [] Tryz.func197
def Cj (P4:L3 (Int->WP))(Q:L3 WP)(R9:L3 (Int->L3 (Int->WP)))(a:OA)(b c:Nat)(d:Int)(e:OA)(f g:Nat)(i:Int)(w:World):Prop:=cond (decide (i<(f:Int))) (aH i f<|wA e λj=>af .i64 ((j.add (i.toNat*3)).add 0) w.drew λl=>af .i64 ((j.add (i.toNat*3)).add 1) w.drew λm=>af .i64 ((j.add (i.toNat*3)).add 2) w.drew λn=>aH (IntKind.wrap .i64 (i-1)) f<|wA e λo=>af .i64 ((o.add (((IntKind.wrap .i64 (i-1))).toNat*3)).add 0) w.drew λp=>af .i64 ((o.add (((IntKind.wrap .i64 (i-1))).toNat*3)).add 1) w.drew λq=>af .i64 ((o.add (((IntKind.wrap .i64 (i-1))).toNat*3)).add 2) w.drew λr=>bU P .neq 294 (.tmp 38) (.tmp 43) (.agg #[ae l,ae m,ae n]) (.agg #[ae p,ae q,ae r]) w.drew λs w=>cond s (aH i f<|wA e λt=>af .i64 ((t.add (i.toNat*3)).add 0) w λu=>af .i64 ((t.add (i.toNat*3)).add 1) w λv=>af .i64 ((t.add (i.toNat*3)).add 2) w λx=>aH d b<|wA a λy=>St ((y.add (d.toNat*3)).add 0) (ae u) w λw=>St ((y.add (d.toNat*3)).add 1) (ae v) w λw=>St ((y.add (d.toNat*3)).add 2) (ae x) w λw=>R9 a b c (IntKind.wrap .i64 (d+1)) e f g (IntKind.wrap .i64 (i+1)) w) (R9 a b c d e f g (IntKind.wrap .i64 (i+1)) w)) (bS a b c 3 (some d) none λz a1 b1=>aM P (Builtin.clear_ #[278] 0 [.slice z a1 b1].toArray) w λc1 w=>bS a b c 3 none (some d) λd1 e1 f1=>Q d1 e1 f1 w)
def mu (P4:L3 (Int->WP))(Q:L3 WP):Nat->L3 (Int->L3 (Int->WP))
 |0,_,_,_,_,_,_,_,_,_=>False
 |k+1,a,b,c,d,e,f,g,i,w=>Cj P4 Q (mu P4 Q k) a b c d e f g i w
def gL (Q:L3 WP)(R4:L3 (Int->WP))(a:OA)(b c:Nat)(d:Int)(w:World):Prop:=cond (decide (d<(b:Int))) (aH d b<|wA a λe=>af .i64 ((e.add (d.toNat*3)).add 0) w.drew λf=>af .i64 ((e.add (d.toNat*3)).add 1) w.drew λg=>af .i64 ((e.add (d.toNat*3)).add 2) w.drew λi=>aH (IntKind.wrap .i64 (d-1)) b<|wA a λj=>af .i64 ((j.add (((IntKind.wrap .i64 (d-1))).toNat*3)).add 0) w.drew λl=>af .i64 ((j.add (((IntKind.wrap .i64 (d-1))).toNat*3)).add 1) w.drew λm=>af .i64 ((j.add (((IntKind.wrap .i64 (d-1))).toNat*3)).add 2) w.drew λn=>bU P .eql 294 (.tmp 19) (.tmp 24) (.agg #[ae f,ae g,ae i]) (.agg #[ae l,ae m,ae n]) w.drew λo w=>cond o (bS a b c 3 (some d) none λp q r=>∃k',mu R4 Q k' a b c d p q r 1 w) (R4 a b c (IntKind.wrap .i64 (d+1)) w)) (Q a b c w)
def fA (Q:L3 WP):Nat->L3 (Int->WP)
 |0,_,_,_,_,_=>False
 |k+1,a,b,c,d,w=>gL Q (fA Q k) a b c d w
noncomputable def lV:cA:=[(6,sp 0 9 (.op 9 .done)),(11,sp 0 9 (.op 9 .done))]
def Ck {P4}(Q)(H4:Bk 61 Tryz.f198 (jo Q) 4 [(0,.l),(3,.i .i64)] P4):∀k,Bk 61 Tryz.f198 (jo Q) 9 [(0,.l),(3,.i .i64),(4,.l),(5,.i .i64)] (mu P4 Q k):=bI λk h=>aU (ok 61) lV [aL h]
def Cl (Q):∀k,Bk 61 Tryz.f198 (jo Q) 4 [(0,.l),(3,.i .i64)] (fA Q k):=bI λk h=>aU (ok 61) lV [aL h,bY (Ck Q h)]
def Bd:=λa b c w Q=>bB (lD a b c w Q) (cond (decide ((b:Int)<2)) (Q a b c w) (∃k',fA Q k' a b c 1 w)) (ok 61) lV [bY (Cl Q)] Tryz.func198
def ZC:=λa b c w Q=>bB (kI a b c w Q) (jn a b c w λd e f w=>kV d e f (.func (.func 197) #[] #[]) w λw=>lD d e f w λg i j w=>Q g i j w) (ok 9) [] [] Tryz.func176
def vv (P6:OA->OA->Int->Int->Int->L3 (L3 (Int->Int->WP)))(Q:L3 WP)(R9:OA->OA->Int->Int->Int->L3 (Int->L3 (Int->Int->L3 (Int->Int->WP))))(a b:OA)(c d e:Int)(f:OA)(g i:Nat)(j:Int)(l:OA)(m n:Nat)(o p:Int)(q:OA)(r s:Nat)(t u:Int)(w:World):Prop:=cond (decide (u<t)) (aH u r<|wA q λv=>af .i64 ((v.add (u.toNat*2)).add 0) w λx=>af .i64 ((v.add (u.toNat*2)).add 1) w λy=>Al T 292 w λz w=>St (z.add 0) (ae x) w λw=>St (z.add 1) (ae y) w λw=>af .i64 z w λa1=>Ag b a1 w λb1 w=>cond (b1 !=1099511627776) (af .i64 z w.drew λc1=>af .i64 (z.add 1) w.drew λd1=>nC d e j w.drew λe1 w=>w.cell? (z.add 1)=some (ae d1)/\w.cell? z=some (ae c1)/\EX d e j c1 w λf1 w=>w.cell? (z.add 1)=some (ae d1)/\Bx [ae e1,ae f1,ae (IntKind.wrap .i64 (d1+b1))] 294 w λg1 w=>App P #[278,278] 278 (.slice f g i) (.slice (some g1) 1 1) w λi1 j1 l1 w=>R9 a b c d e i1 j1 l1 j l m n o p q r s t (IntKind.wrap .i64 (u+1)) w) (R9 a b c d e f g i j l m n o p q r s t (IntKind.wrap .i64 (u+1)) w)) (P6 a b c d e f g i l m n o (IntKind.wrap .i64 (p+1)) w)
def rj (P6:OA->OA->Int->Int->Int->L3 (L3 (Int->Int->WP)))(Q:L3 WP):Nat->OA->OA->Int->Int->Int->L3 (Int->L3 (Int->Int->L3 (Int->Int->WP)))
 |0,_,_,_,_,_,_,_,_,_,_,_,_,_,_,_,_,_,_,_,_=>False
 |k+1,a,b,c,d,e,f,g,i,j,l,m,n,o,p,q,r,s,t,u,w=>vv P6 Q (rj P6 Q k) a b c d e f g i j l m n o p q r s t u w
def vw (Q:L3 WP)(R6:OA->OA->Int->Int->Int->L3 (L3 (Int->Int->WP)))(a b:OA)(c d e:Int)(f:OA)(g i:Nat)(j:OA)(l m:Nat)(n o:Int)(w:World):Prop:=cond (decide (o<n)) (aH o l<|wA j λp=>af .i64 (p.add (o.toNat*1)) w λq=>B8 a q w λr s t w=>∃k',rj R6 Q k' a b c d e f g i q j l m n o r s t (s:Int) 0 w) (yd b w λu w=>ee d e u w λv w=>cond (v==c) (fg a u w λx w=>cond (x !=255) (nC d e u w λy w=>Bx [ae y,ae 4,ae 0] 294 w λz w=>App P #[278,278] 278 (.slice f g i) (.slice (some z) 1 1) w λa1 b1 c1 w=>kI a1 b1 c1 w λd1 e1 f1 w=>Q d1 e1 f1 w) (kI f g i w λg1 i1 j1 w=>Q g1 i1 j1 w)) (kI f g i w λl1 m1 n1 w=>Q l1 m1 n1 w))
def oq (Q:L3 WP):Nat->OA->OA->Int->Int->Int->L3 (L3 (Int->Int->WP))
 |0,_,_,_,_,_,_,_,_,_,_,_,_,_,_=>False
 |k+1,a,b,c,d,e,f,g,i,j,l,m,n,o,w=>vw Q (oq Q k) a b c d e f g i j l m n o w
noncomputable def DR:cA:=[(13,sp 0 4 (sp 5 5 (sp 11 4 (.op 4 (.op 10 (.op 15 (.op 16 (.op 17 (.op 18 .done)))))))))]
def ZD {P6}(Q)(H6:Bk 96 Tryz.f162 (Af Q) 6 [(0,.p),(1,.p),(2,.i .i64),(7,.i .i64),(8,.i .i64),(9,.l),(32,.l),(33,.i .i64),(34,.i .i64)] P6):∀k,Bk 96 Tryz.f162 (Af Q) 9 [(0,.p),(1,.p),(2,.i .i64),(7,.i .i64),(8,.i .i64),(9,.l),(11,.i .i64),(32,.l),(33,.i .i64),(34,.i .i64),(40,.l),(41,.i .i64),(42,.i .i64)] (rj P6 Q k):=bI λk h=>aU (ok 96) DR [aL H6,aL h]
def ZE (Q):∀k,Bk 96 Tryz.f162 (Af Q) 6 [(0,.p),(1,.p),(2,.i .i64),(7,.i .i64),(8,.i .i64),(9,.l),(32,.l),(33,.i .i64),(34,.i .i64)] (oq Q k):=bI λk h=>aU (ok 96) DR [bY (ZD Q h)]
def VF:=λa b c w Q=>bB (B7 a b c w Q) (eS a w λd e w=>cond b.isNone (Q none 0 0 w) (wL b w λf w=>gf a w λg w=>cond (f !=g) (Q none 0 0 w) (oy a c w λi j l w=>∃k',oq Q k' a b c d e none 0 0 i j l (j:Int) 0 w))) (ok 96) DR [bY (ZE Q)] Tryz.func162
def MH:=λa b w Q=>bB (jc a b w Q) (cond a.isNone (Q 0 w) (cond (decide (b<0)) (Q 0 w) (wA a λc=>aA (c.add 4) w λd e f=>cond (decide (b≥(e:Int))) (Q 0 w) (wA a λg=>aA (g.add 4) w λi j l=>aH b j<|wA i λm=>af .i64 (m.add (b.toNat*1)) w λn=>Q n w)))) (ok 27) [] [] Tryz.func165
def qP (Q:L3 WP)(R5:OA->L3 (Int->Int->WP))(a b:OA)(c d:Nat)(e f:Int)(w:World):Prop:=cond (decide (f<e)) (wA a λg=>aA (g.add 1) w.drew λi j l=>aH f j<|wA i λm=>af .i64 (m.add (f.toNat*3)) w.drew λn=>wA a λo=>bg o w.drew λp=>jc p f w.drew λq w=>w.cell? (m.add (f.toNat*3))=some (ae n)/\w.cell? (g.add 1)=some (.slice i j l)/\cond (n !=q) (Bx [ae f] 3 w λr w=>App P #[29,29] 29 (.slice b c d) (.slice (some r) 1 1) w λs t u w=>R5 a s t u e (IntKind.wrap .i64 (f+1)) w) (R5 a b c d e (IntKind.wrap .i64 (f+1)) w)) (Q b c d w)
def nM (Q:L3 WP):Nat->OA->L3 (Int->Int->WP)
 |0,_,_,_,_,_,_,_=>False
 |k+1,a,b,c,d,e,f,w=>qP Q (nM Q k) a b c d e f w
noncomputable def Gt:cA:=[(1,sp 0 11 (.op 11 (sp 12 2 .done))),(7,sp 0 13 (.op 13 (.op 14 .done)))]
def Ur (Q):∀k,Bk 48 Tryz.f199 (Ho Q) 5 [(0,.p),(3,.l),(23,.i .i64),(24,.i .i64)] (nM Q k):=bI λk h=>aU (ok 48) Gt [aL h]
def Qj:=λa w Q=>bB (zf a w Q) (cond a.isNone (Q none 0 0 w.drew) (wA a λb=>af .i64 (b.add 2) w.drew λc=>wA a λd=>bg d w.drew λe=>gf e w.drew λf w=>w.cell? (b.add 2)=some (ae c)/\cond (c==f) (Q none 0 0 w) (wA a λg=>aA (g.add 1) w λi j l=>∃k',nM Q k' a none 0 0 (j:Int) 0 w))) (ok 48) Gt [bY (Ur Q)] Tryz.func199
def agp:=λa b c d e f w Q=>bB (Jy a b c d e f w Q) (Bx [ae a,ae b,.slice c d e] 84 w λg w=>cond (decide (f≥0)) (aA (g.add 2) w λi j l=>cond (decide (f<(j:Int))) (af .i64 (g.add 0) w λm=>af .i64 (g.add 1) w λn=>aA (g.add 2) w λo p q=>uX m n o p q w λr w=>Q r w) (Q false w)) (Q false w)) (ok 18) [] [] Tryz.func279
def agq:=λa b c d e f w Q=>bB (Jx a b c d e f w Q) (Bx [ae a,ae b,.slice c d e] 84 w λg w=>af .i64 (g.add 0) w λi=>af .i64 (g.add 1) w λj=>aA (g.add 2) w λl m n=>Jy i j l m n f w λo w=>cond (!o) (Q 0 w) (aA (g.add 2) w λp q r=>aH f q<|wA p λs=>af .u8 (s.add (f.toNat*1)) w λt=>Q (IntKind.wrap .i64 t) w)) (ok 15) [] [] Tryz.func270
def AY (Q:Bool->WP)(R2:L3 (Addr->L3 (Int->Int->WP)))(a:OA)(b c:Nat)(d:Addr)(e:OA)(f g:Nat)(i j:Int)(w:World):Prop:=cond (decide (j<i)) (aH j f<|wA e λl=>af .i64 (l.add (j.toNat*1)) w λm=>af .i64 (d.add 0) w λn=>af .i64 (d.add 1) w λo=>aA (d.add 2) w λp q r=>Jx n o p q r m w λs w=>cond (s==0) (Q false w) (cond (s==255) (Q false w) (cond (decide (j>0)) (aH (IntKind.wrap .i64 (j-1)) b<|wA a λt=>af .i64 (t.add (((IntKind.wrap .i64 (j-1))).toNat*1)) w λu=>cond (decide (m<=u)) (Q false w) (R2 a b c d e f g i (IntKind.wrap .i64 (j+1)) w)) (R2 a b c d e f g i (IntKind.wrap .i64 (j+1)) w)))) (af .i64 (d.add 0) w λv=>af .i64 (d.add 1) w λx=>aA (d.add 2) w λy z a1=>uX v x y z a1 w λb1 w=>Q b1 w)
def wY (Q:Bool->WP):Nat->L3 (Addr->L3 (Int->Int->WP))
 |0,_,_,_,_,_,_,_,_,_,_=>False
 |k+1,a,b,c,d,e,f,g,i,j,w=>AY Q (wY Q k) a b c d e f g i j w
def agr (Q):∀k,Bk 40 Tryz.f254 (Ts Q) 2 [(1,.l),(2,.a),(8,.l),(9,.i .i64),(10,.i .i64)] (wY Q k):=bI λk h=>aU (ok 40) [] [aL h]
def abj:=λa b c d e f g i w Q=>bB (Gm a b c d e f g i w Q) (Bx [ae a,ae b,.slice c d e] 84 w λj w=>∃k',wY Q k' f g i j f g i (g:Int) 0 w) (ok 40) [] [bY (agr Q)] Tryz.func254
def gu (Q:Int->WP)(R2:L3 (Value->Int->Int->WP))(a:OA)(b c:Nat)(d:Value)(e f:Int)(w:World):Prop:=cond (decide (f<e)) (aH f b<|wA a λg=>af .i64 ((g.add (f.toNat*3)).add 0) w λi=>af .i64 ((g.add (f.toNat*3)).add 1) w λj=>af .i64 ((g.add (f.toNat*3)).add 2) w λl=>iv (cx 19) d [.agg #[ae i,ae j,ae l]] w λm w=>dB m λn=>cond n (Q f w) (R2 a b c d e (IntKind.wrap .i64 (f+1)) w)) (Q (-1) w)
def e_ (Q:Int->WP):Nat->L3 (Value->Int->Int->WP)
 |0,_,_,_,_,_,_,_=>False
 |k+1,a,b,c,d,e,f,w=>gu Q (e_ Q k) a b c d e f w
def Be (Q):∀k,Bk 19 Tryz.f233 (qM Q) 2 [(0,.l),(1,.v),(7,.i .i64),(8,.i .i64)] (e_ Q k):=bI λk h=>aU (ok 19) [] [aL h]
def Aw:=λa b c d w Q=>bB (pI a b c d w Q) (∃k',e_ Q k' a b c d (b:Int) 0 w) (ok 19) [] [bY (Be Q)] Tryz.func233
def yB:=λa b c d w Q=>bB (n_ a b c d w Q) (pI a b c d w λe w=>Q (decide (e≥0)) w) (ok 9) [] [] Tryz.func209
noncomputable def ady:cA:=[(1,sp 0 8 (.op 8 (.op 9 .done)))]
def abk:=λa b c d e f g w Q=>bB (Gl a b c d e f g w Q) (Bx [ae a,ae b,.slice c d e] 84 w λi w=>af .i64 i w.drew λj=>NZ j<|af .i64 i w.drew λl=>NZ l<|w.drew.cell? i=some (ae l)/\cond (g==0) (Q ((IntKind.wrap .i64 (Int.tdiv f l))==0) w.drew) (cond (g==1) (af .i64 i w.drew λm=>Q ((Int.tmod f j)==(IntKind.wrap .i64 (m-1))) w.drew) (cond (g==2) (af .i64 (i.add 1) w.drew λn=>Q ((IntKind.wrap .i64 (Int.tdiv f l))==(IntKind.wrap .i64 (n-1))) w.drew) (cond (g==3) (Q ((Int.tmod f j)==0) w.drew) (Q (g==4) w.drew))))) (ok 42) ady [] Tryz.func211
def XZ:=λa b c d w Q=>bB (DO a b c d w Q) (Bx [ae a,ae b,ae c] 294 w λe w=>af .i64 e w λf=>cond (decide (f<0)) (Q true w) (af .i64 e w λg=>wA d λi=>aA (i.add 2) w λj l m=>cond (decide (g≥(l:Int))) (Q true w) (wA d λn=>aA (n.add 2) w λo p q=>af .i64 e w λr=>aH r p<|wA o λs=>af .u8 (s.add (r.toNat*1)) w λt=>cond (t==255) (Q true w) (af .i64 (e.add 2) w λu=>cond (decide (u<0)) (Q true w) (af .i64 (e.add 2) w λv=>cond (decide (v>1073741824)) (Q true w) (wA d λx=>af .i64 (x.add 0) w λy=>af .i64 (x.add 1) w λz=>aA (x.add 2) w λa1 b1 c1=>af .i64 e w λd1=>af .i64 (e.add 1) w λe1=>Gl y z a1 b1 c1 d1 e1 w λf1 w=>Q (!f1) w)))))) (ok 43) [] [] Tryz.func210
def abl:=λa b c d e f g i w Q=>bB (Bq a b c d e f g i w Q) (Bx [ae a,ae b,.slice c d e] 84 w λj w=>af .i64 (j.add 0) w λl=>af .i64 (j.add 1) w λm=>aA (j.add 2) w λn o p=>uX l m n o p w λq w=>cond (!q) (Q false w) (n_ f g i (.func (.func 210) #[] #[.pointer (some j)]) w λr w=>Q (!r) w)) (ok 12) [] [] Tryz.func179
def adz:=λa w Q=>bB (C0 a w Q) (cond (decide (a<0)) (Q none w) (cond (decide (a>1099511627776)) (Q none w) (Bx [ae a,ae 0,.slice none 0 0,ae 0,.slice none 0 0,ae 0,.slice none 0 0,ae 0,.slice none 0 0,ae 0,.slice none 0 0,ae 0,.slice none 0 0,ae 0,.slice none 0 0,ae 0,.slice none 0 0,ae 0,.slice none 0 0,ae 0,.slice none 0 0,ae 0,.slice none 0 0,ae 0,.slice none 0 0,ae 0,.slice none 0 0,ae 0,.slice none 0 0,ae 0,.slice none 0 0,ae 0,.slice none 0 0,ae 0,.slice none 0 0,ae 0,.slice none 0 0,ae 0,.slice none 0 0,ae 0,.slice none 0 0,ae 0,.slice none 0 0,ae 0,.slice none 0 0,ae 0,.slice none 0 0,ae 0,.slice none 0 0,ae 0,.slice none 0 0,ae 0,.slice none 0 0,ae 0,.slice none 0 0,ae 0,.slice none 0 0,ae 0,.slice none 0 0,ae 0,.slice none 0 0,ae 0,.slice none 0 0,ae 0,.slice none 0 0,ae 0,.slice none 0 0,ae 0,.slice none 0 0,ae 0,.slice none 0 0,ae 0,.slice none 0 0,ae 0,.slice none 0 0,ae 0,.slice none 0 0,ae 0,.slice none 0 0,ae 0,.slice none 0 0,ae 0,.slice none 0 0,ae 0,.slice none 0 0,ae 0,.slice none 0 0,ae 0,.slice none 0 0,ae 0,.slice none 0 0,ae 0,.slice none 0 0,ae 0,.slice none 0 0,ae 0,.slice none 0 0,ae 0,.slice none 0 0,ae 0,.slice none 0 0,ae 0,.slice none 0 0,ae 0,.slice none 0 0,ae 0,.slice none 0 0,ae 0,.slice none 0 0,ae 0,.slice none 0 0,ae 0,.slice none 0 0,ae 0,.slice none 0 0,ae 0,.slice none 0 0,ae 0,.slice none 0 0,ae 0,.slice none 0 0,ae 0,.slice none 0 0,ae 0,.slice none 0 0,ae 0,.slice none 0 0,ae 0,.slice none 0 0,ae 0,.slice none 0 0,ae 0,.slice none 0 0,ae 0,.slice none 0 0,ae 0,.slice none 0 0,ae 0,.slice none 0 0,ae 0,.slice none 0 0,ae 0,.slice none 0 0,ae 0,.slice none 0 0,ae 0,.slice none 0 0,ae 0,.slice none 0 0,ae 0,.slice none 0 0,ae 0,.slice none 0 0,ae 0,.slice none 0 0,ae 0,.slice none 0 0,ae 0,.slice none 0 0,ae 0,.slice none 0 0,ae 0,.slice none 0 0,ae 0,.slice none 0 0,ae 0,.slice none 0 0,ae 0,.slice none 0 0,ae 0,.slice none 0 0,ae 0,.slice none 0 0,ae 0,.slice none 0 0,ae 0,.slice none 0 0,ae 0,.slice none 0 0,ae 0,.slice none 0 0,ae 0,.slice none 0 0,ae 0,.slice none 0 0,ae 0,.slice none 0 0,ae 0,.slice none 0 0,ae 0,.slice none 0 0,ae 0,.slice none 0 0,ae 0,.slice none 0 0,ae 0,.slice none 0 0,ae 0,.slice none 0 0,ae 0,.slice none 0 0,ae 0,.slice none 0 0,ae 0,.slice none 0 0,ae 0,.slice none 0 0,ae 0,.slice none 0 0,ae 0,.slice none 0 0,ae 0,.slice none 0 0,ae 0,.slice none 0 0,ae 0,.slice none 0 0,ae 0,.slice none 0 0,ae 0,.slice none 0 0,ae 0,.slice none 0 0,ae 0,.slice none 0 0,ae 0,.slice none 0 0,ae 0,.slice none 0 0,ae 0,.slice none 0 0,ae 0,.slice none 0 0,ae 0,.slice none 0 0,ae 0,.slice none 0 0,ae 0,.slice none 0 0,ae 0,.slice none 0 0,ae 0,.slice none 0 0,ae 0,.slice none 0 0,ae 0,.slice none 0 0,ae 0,.slice none 0 0,ae 0,.slice none 0 0,ae 0,.slice none 0 0,ae 0,.slice none 0 0,ae 0,.slice none 0 0,ae 0,.slice none 0 0,ae 0,.slice none 0 0,ae 0,.slice none 0 0,ae 0,.slice none 0 0,ae 0,.slice none 0 0,ae 0,.slice none 0 0,ae 0,.slice none 0 0,ae 0,.slice none 0 0,ae 0,.slice none 0 0,ae 0,.slice none 0 0,ae 0,.slice none 0 0,ae 0,.slice none 0 0,ae 0,.slice none 0 0,ae 0,.slice none 0 0,ae 0,.slice none 0 0,ae 0,.slice none 0 0,ae 0,.slice none 0 0,ae 0,.slice none 0 0,ae 0,.slice none 0 0,ae 0,.slice none 0 0,ae 0,.slice none 0 0,ae 0,.slice none 0 0,ae 0,.slice none 0 0,ae 0,.slice none 0 0,ae 0,.slice none 0 0,ae 0,.slice none 0 0,ae 0,.slice none 0 0,ae 0,.slice none 0 0,ae 0,.slice none 0 0,ae 0,.slice none 0 0,ae 0,.slice none 0 0,ae 0,.slice none 0 0,ae 0,.slice none 0 0,ae 0,.slice none 0 0,ae 0,.slice none 0 0,ae 0,.slice none 0 0,ae 0,.slice none 0 0,ae 0,.slice none 0 0,ae 0,.slice none 0 0,ae 0,.slice none 0 0,ae 0,.slice none 0 0,ae 0,.slice none 0 0,ae 0,.slice none 0 0,ae 0,.slice none 0 0,ae 0,.slice none 0 0,ae 0,.slice none 0 0,ae 0,.slice none 0 0,ae 0,.slice none 0 0,ae 0,.slice none 0 0,ae 0,.slice none 0 0,ae 0,.slice none 0 0,ae 0,.slice none 0 0,ae 0,.slice none 0 0,ae 0,.slice none 0 0,ae 0,.slice none 0 0,ae 0,.slice none 0 0,ae 0,.slice none 0 0,ae 0,.slice none 0 0,ae 0,.slice none 0 0,ae 0,.slice none 0 0,ae 0,.slice none 0 0,ae 0,.slice none 0 0,ae 0,.slice none 0 0,ae 0,.slice none 0 0,ae 0,.slice none 0 0,ae 0,.slice none 0 0,ae 0,.slice none 0 0,ae 0,.slice none 0 0,ae 0,.slice none 0 0,ae 0,.slice none 0 0,ae 0,.slice none 0 0,ae 0,.slice none 0 0,ae 0,.slice none 0 0,ae 0,.slice none 0 0,ae 0,.slice none 0 0,ae 0,.slice none 0 0,ae 0,.slice none 0 0,ae 0,.slice none 0 0,ae 0,.slice none 0 0,ae 0,.slice none 0 0,ae 0,.slice none 0 0,ae 0,.slice none 0 0,ae 0,.slice none 0 0,ae 0,.slice none 0 0,ae 0,.slice none 0 0,ae 0,.slice none 0 0,ae 0,.slice none 0 0,ae 0,.slice none 0 0,ae 0,.slice none 0 0,ae 0,.slice none 0 0,ae 0,.slice none 0 0,ae 0,.slice none 0 0,ae 0,.slice none 0 0,ae 0,.slice none 0 0,ae 0,.slice none 0 0,ae 0,.slice none 0 0,ae 0,.slice none 0 0,ae 0,.slice none 0 0,ae 0,.slice none 0 0,ae 0,.slice none 0 0,ae 0,.slice none 0 0,ae 0,.slice none 0 0,ae 0,.slice none 0 0,ae 0,.slice none 0 0,ae 0,.slice none 0 0,ae 0,.slice none 0 0,ae 0,.slice none 0 0,ae 0,.slice none 0 0,ae 0,.slice none 0 0,ae 0,.slice none 0 0,ae 0,.slice none 0 0,ae 0,.slice none 0 0,ae 0,.slice none 0 0,ae 0,.slice none 0 0,ae 0,.slice none 0 0,ae 0,.slice none 0 0,ae 0,.slice none 0 0,ae 0,.slice none 0 0,ae 0,.slice none 0 0,ae 0,.slice none 0 0,ae 0,.slice none 0 0,ae 0,.slice none 0 0,ae 0,.slice none 0 0,ae 0,.slice none 0 0,ae 0,.slice none 0 0,ae 0,.slice none 0 0,ae 0,.slice none 0 0,ae 0,.slice none 0 0,ae 0] 388 w λb w=>Q (some b) w))) (ok 12) [] [] Tryz.func234
def lO (Q:L3 WP)(R8:L3 (Int->WP))(a:OA)(b c:Nat)(d:Int)(w:World):Prop:=cond (decide (d<(b:Int))) (bS a b c 1 (some d) none λe f g=>bS a b c 1 none (some d) λi j l=>cH P #[29,29] 3 (.slice e f g) (.slice i j l) w.drew λm w=>R8 a b c (IntKind.wrap .i64 (d+m)) w) (Q a b c w)
def lQ (Q:L3 WP):Nat->L3 (Int->WP)
 |0,_,_,_,_,_=>False
 |k+1,a,b,c,d,w=>lO Q (lQ Q k) a b c d w
def uH (Q:L3 WP)(a:OA)(b c:Nat)(d:Int)(w:World):Prop:=False
noncomputable def tu:cA:=[(9,sp 0 7 (.op 7 (.op 8 (.op 9 .done))))]
def Bt (Q):∀k,Bk 48 Tryz.f235 (uB Q) 8 [(7,.l),(8,.i .i64)] (lQ Q k):=bI λk h=>aU (ok 48) tu [aL h]
def Ki (Q):Bk 48 Tryz.f235 (uB Q) 5 [(0,.l),(6,.i .u64)] (uH Q):=aU (ok 48) tu [bY (Bt Q)]
def I1:=λa b c d w Q=>bB (ku a b c d w Q) (cond (decide (d<0)) (False) (qL (IntKind.wrap .u64 (b:Int)) (IntKind.wrap .u64 d) w λe f w=>cond (decide (e>0)) (uH Q a b c f w) (cond (decide (f>9223372036854775807)) (uH Q a b c f w) (cy P 29 (ae (IntKind.wrap .i64 f)) (ae (IntKind.wrap .i64 f)) w λg i j w=>cH P #[29,29] 3 (.slice g i j) (.slice a b c) w λl w=>∃k',lQ Q k' g i j l w)))) (ok 48) tu [aL (Ki Q),bY (Bt Q)] Tryz.func235
def Us:=λa w Q=>bB (qO a w Q) (cond a.isNone (Q 0 w) (wA a λb=>af .i64 (b.add 1) w λc=>Q c w)) (ok 9) [] [] Tryz.func260
def Sd:=λa b w Q=>bB (Ap a b w Q) (cond a.isNone (Q false w) (wA a λc=>af .i64 (c.add 1) w λd=>cond (decide (d>0)) (Q false w) (wA a λe=>af .i64 e w λf=>cond (decide (b<f)) (Q false w) (cond (decide (b>1099511627776)) (Q false w) (wA a λg=>St g (ae b) w λw=>Q true w))))) (ok 30) [] [] Tryz.func272
def Qk:=λa b w Q=>bB (zk a b w Q) (wA a λc=>aA c w λd e f=>Bx [ae b] 3 w λg w=>App P #[29,29] 29 (.slice d e f) (.slice (some g) 1 1) w λi j l w=>wA a λm=>St m (.slice i j l) w λw=>Q w) (ok 14) [] [] Tryz.func282
def Ut:=λa b c w Q=>bB (vW a b c w Q) (cond a.isNone (Q false w) (wA a λd=>af .i64 d w λe=>cond (decide (b<e)) (Q false w) (wA a λf=>af .i64 f w λg=>cond (decide ((IntKind.wrap .i64 (b-g))≥256)) (Q false w) (NZ 256<|wA a λi=>aH (Int.tmod b 256) 256<|zk (some ((i.add 2).add (((Int.tmod b 256)).toNat*2))) c w λw=>wA a λj=>af .i64 (j.add 1) w λl=>wA a λm=>St (m.add 1) (ae (IntKind.wrap .i64 (l+1))) w λw=>Q true w)))) (ok 41) [] [] Tryz.func273
def yg (Q:WP)(R2:OA->WP)(a:OA)(w:World):Prop:=wA a λb=>aA (b.add 4) w.drew λc d e=>cond (decide ((d:Int)>0)) (wA a λf=>bg (f.add 3) w.drew λg=>wA a λi=>aA (i.add 4) w.drew λj l m=>aH 0 l<|wA j λn=>af .i64 ((n.add (((0:Int).toNat)*3)).add 2) w.drew λo=>wA a λp=>aA (p.add 4) w.drew λq r s=>aH 0 r<|wA q λt=>af .i64 (t.add (((0:Int).toNat)*3)) w.drew λu=>vW g o u w.drew λv w=>cond v (wA a λx=>aA (x.add 4) w λy z a1=>bS y z a1 3 (some 1) none λb1 c1 d1=>wA a λe1=>St (e1.add 4) (.slice b1 c1 d1) w λw=>R2 a w) (Q w)) (Q w.drew)
def gC (Q:WP):Nat->OA->WP
 |0,_,_=>False
 |k+1,a,w=>yg Q (gC Q k) a w
noncomputable def Dz:cA:=[(1,sp 0 11 (.op 11 .done)),(2,sp 0 25 (.op 25 (.op 26 .done)))]
def OB (Q):∀k,Bk 63 Tryz.f259 (D8 Q) 2 [(0,.p)] (gC Q k):=bI λk h=>aU (ok 63) Dz [aL h]
def Ll:=λa w Q=>bB (jR a w Q) (wA a λb=>aA (b.add 4) w λc d e=>cond (decide ((d:Int)>0)) (wA a λf=>bg (f.add 3) w λg=>qO g w λi w=>cond (i==0) (wA a λj=>bg (j.add 3) w.drew λl=>wA a λm=>aA (m.add 4) w.drew λn o p=>aH 0 o<|wA n λq=>af .i64 ((q.add (((0:Int).toNat)*3)).add 2) w.drew λr=>Ap l r w.drew λs w=>∃k',gC Q k' a w) (∃k',gC Q k' a w)) (∃k',gC Q k' a w)) (ok 63) Dz [bY (OB Q)] Tryz.func259
noncomputable def OC:cA:=[(1,sp 0 10 (.op 10 .done))]
def MI:=λa w Q=>bB (qD a w Q) (wA a λb=>af .i64 (b.add 1) w.drew λc=>wA a λd=>aA d w.drew λe f g=>Q (c==(f:Int)) w.drew) (ok 13) OC [] Tryz.func274
noncomputable def Se:cA:=[(1,sp 0 10 (.op 10 .done))]
def Ql:=λa w Q=>bB (zi a w Q) (wA a λb=>aA b w.drew λc d e=>wA a λf=>af .i64 (f.add 1) w.drew λg=>aH g d<|wA c λi=>af .i64 (i.add (g.toNat*1)) w.drew λj=>wA a λl=>af .i64 (l.add 1) w.drew λm=>wA a λn=>St (n.add 1) (ae (IntKind.wrap .i64 (m+1))) w.drew λw=>qD a w λo w=>cond o (wA a λp=>aA p w λq r s=>bS q r s 1 none (some 0) λt u v=>wA a λx=>St x (.slice t u v) w λw=>wA a λy=>St (y.add 1) (ae 0) w λw=>Q j w) (Q j w)) (ok 35) Se [] Tryz.func275
def DS (Q:Int->Int->Bool->WP)(R3:OA->WP)(a:OA)(w:World):Prop:=wA a λb=>af .i64 b w.drew λc=>NZ 256<|wA a λd=>aH (Int.tmod c 256) 256<|qD (some ((d.add 2).add (((Int.tmod c 256)).toNat*2))) w.drew λe w=>cond e (wA a λf=>af .i64 f w λg=>wA a λi=>St i (ae (IntKind.wrap .i64 (g+1))) w λw=>R3 a w) (wA a λj=>af .i64 (j.add 1) w λl=>wA a λm=>St (m.add 1) (ae (IntKind.wrap .i64 (l-1))) w λw=>wA a λn=>af .i64 n w.drew λo=>wA a λp=>af .i64 p w.drew λq=>NZ 256<|wA a λr=>aH (Int.tmod q 256) 256<|zi (some ((r.add 2).add (((Int.tmod q 256)).toNat*2))) w.drew λs w=>w.cell? n=some (ae o)/\Q o s true w)
def p8 (Q:Int->Int->Bool->WP):Nat->OA->WP
 |0,_,_=>False
 |k+1,a,w=>DS Q (p8 Q k) a w
noncomputable def I3:cA:=[(3,sp 0 9 (.op 9 .done)),(6,sp 0 13 (.op 13 (.op 14 (.op 15 (.op 16 .done)))))]
def X0 (Q):∀k,Bk 46 Tryz.f261 (JV Q) 3 [(0,.p)] (p8 Q k):=bI λk h=>aU (ok 46) I3 [aL h]
def Uu:=λa w Q=>bB (Ba a w Q) (qO a w λb w=>cond (b==0) (Q 0 0 false w) (∃k',p8 Q k' a w)) (ok 46) I3 [bY (X0 Q)] Tryz.func261
def Kj:=λa b c w Q=>bB (iA a b c w Q) (wA a λd=>aA (d.add 2) w λe f g=>aH b f<|wA e λi=>af .u8 (i.add (b.toNat*1)) w λj=>cond (j !=255) (wA a λl=>aA (l.add 5) w λm n o=>aH b n<|wA m λp=>af .i64 (p.add (b.toNat*1)) w λq=>cond (q==1099511627776) (wA a λr=>bg (r.add 3) w λs=>vW s c b w λt w=>Q w) (Q w)) (Q w)) (ok 32) [] [] Tryz.func276
def my (Q:WP)(a:OA)(b c d:Int)(w:World):Prop:=cond (decide (d>0)) (iA a (IntKind.wrap .i64 (b-1)) c w λw=>Q w) (Q w)
def pN (Q:WP)(a:OA)(b c d e:Int)(w:World):Prop:=wA a λf=>af .i64 (f.add 1) w λg=>cond (decide (e<(IntKind.wrap .i64 (g-1)))) (wA a λi=>af .i64 i w λj=>iA a (IntKind.wrap .i64 (b+j)) c w λw=>my Q a b c d w) (my Q a b c d w)
def pO (Q:WP)(a:OA)(b c d e:Int)(w:World):Prop:=wA a λf=>af .i64 f w λg=>cond (decide (d<(IntKind.wrap .i64 (g-1)))) (iA a (IntKind.wrap .i64 (b+1)) c w λw=>pN Q a b c d e w) (pN Q a b c d e w)
noncomputable def oX:cA:=[(0,sp 0 17 (.op 17 .done)),(1,sp 0 14 (.op 14 (.op 15 .done)))]
def Lm (Q):Bk 88 Tryz.f262 (pJ Q) 8 [(0,.p),(1,.i .i64),(4,.i .i64),(5,.i .i64)] (my Q):=aU (ok 88) oX []
def Ln (Q):Bk 88 Tryz.f262 (pJ Q) 6 [(0,.p),(1,.i .i64),(4,.i .i64),(5,.i .i64),(6,.i .i64)] (pN Q):=aU (ok 88) oX [aL (Lm Q)]
def Lo (Q):Bk 88 Tryz.f262 (pJ Q) 4 [(0,.p),(1,.i .i64),(4,.i .i64),(5,.i .i64),(6,.i .i64)] (pO Q):=aU (ok 88) oX [aL (Ln Q)]
def JJ:=λa b w Q=>bB (tg a b w Q) (wA a λc=>aA (c.add 5) w.drew λd e f=>aH b e<|wA d λg=>af .i64 (g.add (b.toNat*1)) w.drew λi=>wA a λj=>aA (j.add 2) w.drew λl m n=>aH b m<|wA l λo=>af .u8 (o.add (b.toNat*1)) w.drew λp=>wA a λq=>af .i64 q w.drew.drew λr=>NZ r<|wA a λs=>af .i64 s w.drew.drew λt=>NZ t<|w.drew.drew.cell? s=some (ae t)/\cond (decide ((IntKind.wrap .i64 (Int.tdiv b t))>0)) (wA a λu=>af .i64 u w.drew.drew λv=>iA a (IntKind.wrap .i64 (b-v)) (IntKind.wrap .i64 (i+(IntKind.wrap .i64 p))) w.drew.drew λw=>pO Q a b (IntKind.wrap .i64 (i+(IntKind.wrap .i64 p))) (Int.tmod b r) (IntKind.wrap .i64 (Int.tdiv b t)) w) (pO Q a b (IntKind.wrap .i64 (i+(IntKind.wrap .i64 p))) (Int.tmod b r) (IntKind.wrap .i64 (Int.tdiv b t)) w.drew.drew)) (ok 88) oX [aL (Lo Q)] Tryz.func262
def zx (Q:WP)(R1:OA->WP)(a:OA)(w:World):Prop:=wA a λb=>bg (b.add 3) w λc=>qO c w λd w=>cond (decide (d>0)) (wA a λe=>bg (e.add 3) w λf=>Ba f w λg i j w=>wA a λl=>aA (l.add 5) w λm n o=>aH i n<|wA m λp=>af .i64 (p.add (i.toNat*1)) w λq=>cond (q==1099511627776) (wA a λr=>aA (r.add 5) w λs t u=>aH i t<|wA s λv=>St (v.add (i.toNat*1)) (ae g) w λw=>tg a i w λw=>jR a w λw=>R1 a w) (jR a w λw=>R1 a w)) (Q w)
def jT (Q:WP):Nat->OA->WP
 |0,_,_=>False
 |k+1,a,w=>zx Q (jT Q k) a w
def Qm (Q):∀k,Bk 42 Tryz.f236 (Fv Q) 1 [(0,.p)] (jT Q k):=bI λk h=>aU (ok 42) [] [aL h]
def MJ:=λa w Q=>bB (Dv a w Q) (jR a w λw=>∃k',jT Q k' a w) (ok 42) [] [bY (Qm Q)] Tryz.func236
def rm (Q:L3 (Int->WP))(a:Addr)(w:World):Prop:=Dv (some a) w λw=>aA (a.add 5) w λb c d=>Q b c d 0 w
noncomputable def JX:cA:=[(3,.op 0 (.op 2 (sp 5 3 (.br (.op 1 (.br (.op 3 (.op 4 (.op 8 (.op 9 (.op 10 (.op 11 .done)))))) (.op 4 (.op 3 (.op 8 (.op 9 (.op 10 (.op 11 .done)))))))) (.op 4 (.op 1 (.op 3 (.op 8 (.op 9 (.op 10 (.op 11 .done)))))))))))]
def ZF (Q):Bk 28 Tryz.f216 (Ld Q) 4 [(6,.a)] (rm Q):=aU (ok 28) JX []
def VG:=λa b c d e f g i w Q=>bB (xu a b c d e f g i w Q) (Bx [ae a,ae b,.slice c d e] 84 w λj w=>af .i64 (j.add 0) w λl=>af .i64 (j.add 1) w λm=>aA (j.add 2) w λn o p=>Bq l m n o p f g i w λq w=>cond (!q) (Q none 0 0 1 w) (af .i64 (j.add 0) w.drew λr=>af .i64 (j.add 1) w.drew λs=>aA (j.add 2) w.drew λt u v=>aA (j.add 2) w.drew λx y z=>(C0 0 w.drew λa1 w=>w.cell? (j.add 2)=some (.slice x y z)/\w.cell? (j.add 0)=some (ae r)/\w.cell? (j.add 1)=some (ae s)/\w.cell? (j.add 2)=some (.slice t u v)/\(kI f g i w λb1 c1 d1 w=>w.cell? (j.add 2)=some (.slice x y z)/\w.cell? (j.add 0)=some (ae r)/\w.cell? (j.add 1)=some (ae s)/\w.cell? (j.add 2)=some (.slice t u v)/\Bx [ae 1099511627776] 3 w λe1 w=>w.cell? (j.add 2)=some (.slice x y z)/\w.cell? (j.add 0)=some (ae r)/\w.cell? (j.add 1)=some (ae s)/\w.cell? (j.add 2)=some (.slice t u v)/\ku (some e1) 1 1 (y:Int) w λf1 g1 i1 w=>w.cell? (j.add 0)=some (ae r)/\w.cell? (j.add 1)=some (ae s)/\w.cell? (j.add 2)=some (.slice t u v)/\Bx [ae r,ae s,.slice t u v,.pointer a1,.slice b1 c1 d1,.slice f1 g1 i1] 363 w λj1 w=>rm Q j1 w)/\(Bx [ae 1099511627776] 3 w λl1 w=>w.cell? (j.add 2)=some (.slice x y z)/\w.cell? (j.add 0)=some (ae r)/\w.cell? (j.add 1)=some (ae s)/\w.cell? (j.add 2)=some (.slice t u v)/\kI f g i w λm1 n1 o1 w=>w.cell? (j.add 2)=some (.slice x y z)/\w.cell? (j.add 0)=some (ae r)/\w.cell? (j.add 1)=some (ae s)/\w.cell? (j.add 2)=some (.slice t u v)/\ku (some l1) 1 1 (y:Int) w λp1 q1 r1 w=>w.cell? (j.add 0)=some (ae r)/\w.cell? (j.add 1)=some (ae s)/\w.cell? (j.add 2)=some (.slice t u v)/\Bx [ae r,ae s,.slice t u v,.pointer a1,.slice m1 n1 o1,.slice p1 q1 r1] 363 w λs1 w=>rm Q s1 w))/\(Bx [ae 1099511627776] 3 w.drew λt1 w=>w.cell? (j.add 2)=some (.slice x y z)/\w.cell? (j.add 0)=some (ae r)/\w.cell? (j.add 1)=some (ae s)/\w.cell? (j.add 2)=some (.slice t u v)/\C0 0 w λu1 w=>w.cell? (j.add 2)=some (.slice x y z)/\w.cell? (j.add 0)=some (ae r)/\w.cell? (j.add 1)=some (ae s)/\w.cell? (j.add 2)=some (.slice t u v)/\kI f g i w λv1 x1 y1 w=>w.cell? (j.add 2)=some (.slice x y z)/\w.cell? (j.add 0)=some (ae r)/\w.cell? (j.add 1)=some (ae s)/\w.cell? (j.add 2)=some (.slice t u v)/\ku (some t1) 1 1 (y:Int) w λz1 a2 b2 w=>w.cell? (j.add 0)=some (ae r)/\w.cell? (j.add 1)=some (ae s)/\w.cell? (j.add 2)=some (.slice t u v)/\Bx [ae r,ae s,.slice t u v,.pointer u1,.slice v1 x1 y1,.slice z1 a2 b2] 363 w λc2 w=>rm Q c2 w))) (ok 28) JX [aL (ZF Q)] Tryz.func216
def adA:=λa b c d e f w Q=>bB (HP a b c d e f w Q) (Bx [ae a,ae b,.slice c d e] 84 w λg w=>af .i64 (g.add 0) w λi=>af .i64 (g.add 1) w λj=>aA (g.add 2) w λl m n=>Bx [ae f,ae 4,ae 0] 294 w λo w=>xu i j l m n (some o) 1 1 w λp q r s w=>Q p q r s w) (ok 13) [] [] Tryz.func255
def xA (P6:L3 (Addr->Int->L3 (L3 (Int->Int->WP))))(Q:L3 (Int->WP))(R10:L3 (Addr->Int->L3 (Int->L3 (L3 (Int->Int->L3 (Int->Int->WP))))))(a:OA)(b c:Nat)(d:Addr)(e:Int)(f:OA)(g i:Nat)(j:Int)(l:OA)(m n:Nat)(o:OA)(p q:Nat)(r s:Int)(t:OA)(u v:Nat)(x y:Int)(w:World):Prop:=cond (decide (y<x)) (aH y u<|wA t λz=>af .i64 (z.add (y.toNat*1)) w λa1=>aH a1 m<|wA l λb1=>af .i64 (b1.add (a1.toNat*1)) w λc1=>aH (IntKind.wrap .i64 ((IntKind.wrap .i64 (y*e))+j)) g<|wA f λd1=>St (d1.add (((IntKind.wrap .i64 ((IntKind.wrap .i64 (y*e))+j))).toNat*1)) (ae c1) w λw=>R10 a b c d e f g i j l m n o p q r s t u v x (IntKind.wrap .i64 (y+1)) w) (P6 a b c d e f g i o p q r (IntKind.wrap .i64 (s+1)) w)
def sH (P6:L3 (Addr->Int->L3 (L3 (Int->Int->WP))))(Q:L3 (Int->WP)):Nat->L3 (Addr->Int->L3 (Int->L3 (L3 (Int->Int->L3 (Int->Int->WP)))))
 |0=>λ_ _ _ _ _ _ _ _ _ _ _ _ _ _ _ _ _ _ _ _ _ _ _=>False
 |k+1=>λa b c d e f g i j l m n o p q r s t u v x y w=>xA P6 Q (sH P6 Q k) a b c d e f g i j l m n o p q r s t u v x y w
def zy (Q:L3 (Int->WP))(R6:L3 (Addr->Int->L3 (L3 (Int->Int->WP))))(a:OA)(b c:Nat)(d:Addr)(e:Int)(f:OA)(g i:Nat)(j:OA)(l m:Nat)(n o:Int)(w:World):Prop:=cond (decide (o<n)) (aH o l<|wA j λp=>af .i64 (p.add (o.toNat*1)) w λq=>af .i64 (d.add 0) w λr=>af .i64 (d.add 1) w λs=>aA (d.add 2) w λt u v=>HP r s t u v q w λx y z a1 w=>∃k',sH R6 Q k' a b c d e f g i o x y z j l m n o a b c (b:Int) 0 w) (Q f g i 0 w)
def rq (Q:L3 (Int->WP)):Nat->L3 (Addr->Int->L3 (L3 (Int->Int->WP)))
 |0,_,_,_,_,_,_,_,_,_,_,_,_,_,_=>False
 |k+1,a,b,c,d,e,f,g,i,j,l,m,n,o,w=>zy Q (rq Q k) a b c d e f g i j l m n o w
def abm {P6}(Q)(H6:Bk 58 Tryz.f227 (CZ Q) 6 [(1,.l),(2,.a),(6,.i .i64),(7,.l),(24,.l),(25,.i .i64),(26,.i .i64)] P6):∀k,Bk 58 Tryz.f227 (CZ Q) 10 [(1,.l),(2,.a),(6,.i .i64),(7,.l),(8,.i .i64),(10,.l),(24,.l),(25,.i .i64),(26,.i .i64),(37,.l),(38,.i .i64),(39,.i .i64)] (sH P6 Q k):=bI λk h=>aU (ok 58) [] [aL H6,aL h]
def adB (Q):∀k,Bk 58 Tryz.f227 (CZ Q) 6 [(1,.l),(2,.a),(6,.i .i64),(7,.l),(24,.l),(25,.i .i64),(26,.i .i64)] (rq Q k):=bI λk h=>aU (ok 58) [] [bY (abm Q h)]
def ZG:=λa b c d e f g i w Q=>bB (E2 a b c d e f g i w Q) (Bx [ae a,ae b,.slice c d e] 84 w λj w=>af .i64 (j.add 0) w λl=>af .i64 (j.add 1) w λm=>aA (j.add 2) w λn o p=>Gm l m n o p f g i w λq w=>cond (!q) (Q none 0 0 1 w) (cy P 29 (ae (IntKind.wrap .i64 ((g:Int)*(g:Int)))) (ae (IntKind.wrap .i64 ((g:Int)*(g:Int)))) w λr s t w=>∃k',rq Q k' f g i j (g:Int) r s t f g i (g:Int) 0 w)) (ok 58) [] [bY (adB Q)] Tryz.func227
def qQ (Q:Int->L3 (L3 WP))(R13:Addr->Addr->L3 (Int->Int->WP))(a b:Addr)(c:OA)(d e:Nat)(f g:Int)(w:World):Prop:=cond (decide (g<f)) (aH g d<|wA c λi=>af .i64 (i.add (g.toNat*1)) w λj=>aA (b.add 2) w λl m n=>aH g m<|wA l λo=>St (o.add (g.toNat*1)) (.int .i32 (-1)) w λw=>cond (j !=1099511627776) (aA (b.add 2) w λp q r=>aH g q<|wA p λs=>St (s.add (g.toNat*1)) (.int .i32 (IntKind.wrap .i32 j)) w λw=>R13 a b c d e f (IntKind.wrap .i64 (g+1)) w) (R13 a b c d e f (IntKind.wrap .i64 (g+1)) w)) (af .i64 (b.add 0) w λt=>aA (b.add 1) w λu v x=>aA (b.add 2) w λy z a1=>St (a.add 0) (ae t) w λw=>St (a.add 1) (.slice u v x) w λw=>St (a.add 2) (.slice y z a1) w λw=>af .i64 (a.add 0) w λb1=>aA (a.add 1) w λc1 d1 e1=>aA (a.add 2) w λf1 g1 i1=>Q b1 c1 d1 e1 f1 g1 i1 w)
def lG (Q:Int->L3 (L3 WP)):Nat->Addr->Addr->L3 (Int->Int->WP)
 |0,_,_,_,_,_,_,_,_=>False
 |k+1,a,b,c,d,e,f,g,w=>qQ Q (lG Q k) a b c d e f g w
def rZ (Q:Int->L3 (L3 WP))(R6:Addr->Int->Int->Addr->Addr->L3 (L3 (Int->Int->WP)))(a:Addr)(b c:Int)(d e:Addr)(f:OA)(g i:Nat)(j:OA)(l m:Nat)(n o:Int)(w:World):Prop:=cond (decide (o<n)) (aH o l<|wA j λp=>af .i64 (p.add (o.toNat*1)) w λq=>nC b c q w λr w=>Bx [ae r] 3 w λs w=>App P #[29,29] 29 (.slice f g i) (.slice (some s) 1 1) w λt u v w=>R6 a b c d e t u v j l m n (IntKind.wrap .i64 (o+1)) w) (af .i64 (d.add 0) w λx=>af .i64 (d.add 1) w λy=>aA (d.add 2) w λz a1 b1=>E2 x y z a1 b1 f g i w λc1 d1 e1 f1 w=>cy P 296 (ae (d1:Int)) (ae (d1:Int)) w λg1 i1 j1 w=>St (e.add 2) (.slice g1 i1 j1) w λw=>∃k',lG Q k' a e c1 d1 e1 (d1:Int) 0 w)
def oE (Q:Int->L3 (L3 WP)):Nat->Addr->Int->Int->Addr->Addr->L3 (L3 (Int->Int->WP))
 |0,_,_,_,_,_,_,_,_,_,_,_,_,_,_=>False
 |k+1,a,b,c,d,e,f,g,i,j,l,m,n,o,w=>rZ Q (oE Q k) a b c d e f g i j l m n o w
def r6 (Q:Int->L3 (L3 WP))(a:Addr)(b c:Int)(d e:Addr)(w:World):Prop:=aA (e.add 1) w λf g i=>∃k',oE Q k' a b c d e none 0 0 f g i (g:Int) 0 w
noncomputable def v7:cA:=[(3,sp 0 5 (sp 6 5 (.br (.op 5 (.br (.op 11 (.op 12 (.op 13 (.op 14 .done)))) (.op 13 (.op 11 (.op 12 (.op 14 .done)))))) (.op 13 (.op 5 (.op 11 (.op 12 (.op 14 .done))))))))]
def Uv (Q):∀k,Bk 93 Tryz.f200 (xp Q) 13 [(4,.a),(9,.a),(72,.l),(73,.i .i64),(74,.i .i64)] (lG Q k):=bI λk h=>aU (ok 93) v7 [aL h]
def VH (Q):∀k,Bk 93 Tryz.f200 (xp Q) 6 [(4,.a),(5,.i .i64),(6,.i .i64),(7,.a),(9,.a),(10,.l),(48,.l),(49,.i .i64),(50,.i .i64)] (oE Q k):=bI λk h=>aU (ok 93) v7 [aL h,bY (Uv Q)]
def VI (Q):Bk 93 Tryz.f200 (xp Q) 4 [(4,.a),(5,.i .i64),(6,.i .i64),(7,.a),(9,.a)] (r6 Q):=aU (ok 93) v7 [bY (VH Q)]
def Sf:=λa b w Q=>bB (Ai a b w Q) (Al T 319 w λc w=>wA a λd=>bg d w λe=>eS e w λf g w=>wA a λi=>bg i w λj=>uu j b w λl m n o p q w=>Al T 84 w λr w=>St (r.add 0) (ae l) w λw=>St (r.add 1) (ae m) w λw=>St (r.add 2) (.slice n o p) w λw=>wA a λs=>bg s w.drew λt=>wA a λu=>bg u w.drew λv=>(jc t b w.drew λx w=>w.cell? u=some (.pointer v)/\(oy v b w λy z a1 w=>Al T 319 w λb1 w=>w.cell? u=some (.pointer v)/\w.cell? s=some (.pointer t)/\St (b1.add 0) (ae x) w λw=>St (b1.add 1) (.slice y z a1) w λw=>St (b1.add 2) (.slice none 0 0) w λw=>r6 Q c f g r b1 w)/\(Al T 319 w λc1 w=>w.cell? u=some (.pointer v)/\w.cell? s=some (.pointer t)/\oy v b w λd1 e1 f1 w=>St (c1.add 0) (ae x) w λw=>St (c1.add 1) (.slice d1 e1 f1) w λw=>St (c1.add 2) (.slice none 0 0) w λw=>r6 Q c f g r c1 w))/\(Al T 319 w.drew λg1 w=>w.cell? u=some (.pointer v)/\w.cell? s=some (.pointer t)/\jc t b w λi1 w=>w.cell? u=some (.pointer v)/\oy v b w λj1 l1 m1 w=>St (g1.add 0) (ae i1) w λw=>St (g1.add 1) (.slice j1 l1 m1) w λw=>St (g1.add 2) (.slice none 0 0) w λw=>r6 Q c f g r g1 w)) (ok 93) v7 [aL (VI Q)] Tryz.func200
def oF (Q:Int->WP)(R5:OA->L3 (L3 (Int->Int->WP)))(a b:OA)(c d:Nat)(e:OA)(f g:Nat)(i j:Int)(w:World):Prop:=cond (decide (j<i)) (aH j f<|wA e λl=>af .i64 (l.add (j.toNat*1)) w λm=>wA a λn=>aA (n.add 1) w.drew λo p q=>Ai a m w.drew λr s t u v x y w=>w.cell? (n.add 1)=some (.slice o p q)/\(aH m p<|wA o λz=>St ((z.add (m.toNat*3)).add 0) (ae r) w λw=>St ((z.add (m.toNat*3)).add 1) (.slice s t u) w λw=>St ((z.add (m.toNat*3)).add 2) (.slice v x y) w λw=>wA a λa1=>af .u64 (a1.add 3) w λb1=>sA b1 1 w λc1 w=>wA a λd1=>St (d1.add 3) (.int .u64 c1) w λw=>R5 a b c d e f g i (IntKind.wrap .i64 (j+1)) w)) (wA a λe1=>bg e1 w λf1=>gf f1 w λg1 w=>wA a λi1=>St (i1.add 2) (ae g1) w λw=>Q (c:Int) w)
def l6 (Q:Int->WP):Nat->OA->L3 (L3 (Int->Int->WP))
 |0,_,_,_,_,_,_,_,_,_,_=>False
 |k+1,a,b,c,d,e,f,g,i,j,w=>oF Q (l6 Q k) a b c d e f g i j w
noncomputable def Ed:cA:=[(7,sp 0 7 (.op 7 (.op 8 (.op 9 .done))))]
def Qn (Q):∀k,Bk 44 Tryz.f177 (Fu Q) 5 [(0,.p),(3,.l),(10,.l),(11,.i .i64),(12,.i .i64)] (l6 Q k):=bI λk h=>aU (ok 44) Ed [aL h]
def MK:=λa w Q=>bB (wM a w Q) (cond a.isNone (Q 0 w) (zf a w λb c d w=>∃k',l6 Q k' a b c d b c d (c:Int) 0 w)) (ok 44) Ed [bY (Qn Q)] Tryz.func177
def jG (Q:L3 WP)(R8:L3 (Int->WP))(a:OA)(b c:Nat)(d:Int)(w:World):Prop:=cond (decide (d<(b:Int))) (bS a b c 1 (some d) none λe f g=>bS a b c 1 none (some d) λi j l=>cH P #[296,296] 3 (.slice e f g) (.slice i j l) w.drew λm w=>R8 a b c (IntKind.wrap .i64 (d+m)) w) (Q a b c w)
def jH (Q:L3 WP):Nat->L3 (Int->WP)
 |0,_,_,_,_,_=>False
 |k+1,a,b,c,d,w=>jG Q (jH Q k) a b c d w
def qp (Q:L3 WP)(a:OA)(b c:Nat)(d:Int)(w:World):Prop:=False
noncomputable def pP:cA:=[(9,sp 0 7 (.op 7 (.op 8 (.op 9 .done))))]
def yo (Q):∀k,Bk 48 Tryz.f201 (qo Q) 8 [(7,.l),(8,.i .i64)] (jH Q k):=bI λk h=>aU (ok 48) pP [aL h]
def Hg (Q):Bk 48 Tryz.f201 (qo Q) 5 [(0,.l),(6,.i .u64)] (qp Q):=aU (ok 48) pP [bY (yo Q)]
def FY:=λa b c d w Q=>bB (o7 a b c d w Q) (cond (decide (d<0)) (False) (qL (IntKind.wrap .u64 (b:Int)) (IntKind.wrap .u64 d) w λe f w=>cond (decide (e>0)) (qp Q a b c f w) (cond (decide (f>9223372036854775807)) (qp Q a b c f w) (cy P 296 (ae (IntKind.wrap .i64 f)) (ae (IntKind.wrap .i64 f)) w λg i j w=>cH P #[296,296] 3 (.slice g i j) (.slice a b c) w λl w=>∃k',jH Q k' g i j l w)))) (ok 48) pP [aL (Hg Q),bY (yo Q)] Tryz.func201
def adC:=λw Q=>bB (CY w Q) (Bx [.slice none 0 0] 351 w λa w=>Q (some a) w) (ok 3) [] [] Tryz.func202
def Qo:=λa b c d w Q=>bB (sF a b c d w Q) (Bx [ae a,ae b] 353 w λe w=>Bx [ae c,ae d] 353 w λf w=>af .i64 e w λg=>af .i64 f w λi=>cond (decide (g<i)) (Q true w) (af .i64 e w λj=>af .i64 f w λl=>cond (j==l) (af .i64 (e.add 1) w λm=>af .i64 (f.add 1) w λn=>Q (decide (m<n)) w) (Q false w))) (ok 24) [] [] Tryz.func256
def vz (Q:WP)(R1:OA->Int->WP)(a:OA)(b:Int)(w:World):Prop:=cond (decide (b>0)) (NZ 2<|wA a λc=>aA c w.drew λd e f=>aH b e<|wA d λg=>af .i64 ((g.add (b.toNat*2)).add 0) w.drew λi=>af .i64 ((g.add (b.toNat*2)).add 1) w.drew λj=>wA a λl=>aA l w.drew λm n o=>aH (IntKind.wrap .i64 (Int.tdiv (IntKind.wrap .i64 (b-1)) 2)) n<|wA m λp=>af .i64 ((p.add (((IntKind.wrap .i64 (Int.tdiv (IntKind.wrap .i64 (b-1)) 2))).toNat*2)).add 0) w.drew λq=>af .i64 ((p.add (((IntKind.wrap .i64 (Int.tdiv (IntKind.wrap .i64 (b-1)) 2))).toNat*2)).add 1) w.drew λr=>sF i j q r w.drew λs w=>cond (!s) (Q w) (wA a λt=>aA t w.drew λu v x=>wA a λy=>aA y w.drew λz a1 b1=>wA a λc1=>aA c1 w.drew λd1 e1 f1=>aH (IntKind.wrap .i64 (Int.tdiv (IntKind.wrap .i64 (b-1)) 2)) e1<|wA d1 λg1=>af .i64 ((g1.add (((IntKind.wrap .i64 (Int.tdiv (IntKind.wrap .i64 (b-1)) 2))).toNat*2)).add 0) w.drew λi1=>af .i64 ((g1.add (((IntKind.wrap .i64 (Int.tdiv (IntKind.wrap .i64 (b-1)) 2))).toNat*2)).add 1) w.drew λj1=>wA a λl1=>aA l1 w.drew λm1 n1 o1=>aH b n1<|wA m1 λp1=>af .i64 ((p1.add (b.toNat*2)).add 0) w.drew λq1=>af .i64 ((p1.add (b.toNat*2)).add 1) w.drew λr1=>aH b v<|wA u λs1=>St ((s1.add (b.toNat*2)).add 0) (ae i1) w.drew λw=>St ((s1.add (b.toNat*2)).add 1) (ae j1) w λw=>aH (IntKind.wrap .i64 (Int.tdiv (IntKind.wrap .i64 (b-1)) 2)) a1<|wA z λt1=>St ((t1.add (((IntKind.wrap .i64 (Int.tdiv (IntKind.wrap .i64 (b-1)) 2))).toNat*2)).add 0) (ae q1) w λw=>St ((t1.add (((IntKind.wrap .i64 (Int.tdiv (IntKind.wrap .i64 (b-1)) 2))).toNat*2)).add 1) (ae r1) w λw=>R1 a (IntKind.wrap .i64 (Int.tdiv (IntKind.wrap .i64 (b-1)) 2)) w)) (Q w)
def ru (Q:WP):Nat->OA->Int->WP
 |0,_,_,_=>False
 |k+1,a,b,w=>vz Q (ru Q k) a b w
noncomputable def JY:cA:=[(3,sp 0 14 (.op 14 (.op 15 .done))),(4,sp 0 25 (.op 25 (.op 26 (.op 27 .done))))]
def ZH (Q):∀k,Bk 58 Tryz.f228 (Le Q) 1 [(0,.p),(2,.i .i64)] (ru Q k):=bI λk h=>aU (ok 58) JY [aL h]
def VJ:=λa w Q=>bB (Cb a w Q) (wA a λb=>aA b w λc d e=>∃k',ru Q k' a (IntKind.wrap .i64 ((d:Int)-1)) w) (ok 58) JY [bY (ZH Q)] Tryz.func228
def Sg:=λa b c w Q=>bB (mR a b c w Q) (cond a.isNone (Q w) (wA a λd=>aA d w λe f g=>Bx [ae b,ae c] 353 w λi w=>App P #[349,349] 349 (.slice e f g) (.slice (some i) 1 1) w λj l m w=>wA a λn=>St n (.slice j l m) w λw=>Cb a w λw=>Q w)) (ok 22) [] [] Tryz.func206
def Uw:=λa w Q=>bB (A_ a w Q) (cond a.isNone (Q 0 w) (wA a λb=>aA b w λc d e=>Q (d:Int) w)) (ok 10) [] [] Tryz.func257
noncomputable def VK:cA:=[(3,sp 0 14 (.op 14 (.op 15 (.op 16 .done))))]
def Ux:=λa w Q=>bB (A9 a w Q) (A_ a w λb w=>cond (b==0) (Q 0 0 false w) (wA a λc=>aA c w.drew λd e f=>aH 0 e<|wA d λg=>af .i64 (g.add (((0:Int).toNat)*2)) w.drew λi=>wA a λj=>aA j w.drew λl m n=>aH 0 m<|wA l λo=>af .i64 ((o.add (((0:Int).toNat)*2)).add 1) w.drew λp=>w.drew.cell? ((o.add (((0:Int).toNat)*2)).add 1)=some (ae p)/\w.drew.cell? j=some (.slice l m n)/\Q i p true w.drew)) (ok 22) VK [] Tryz.func229
def oG (P1:OA->Int->WP)(Q:WP)(a:OA)(b c:Int)(w:World):Prop:=cond (c==b) (Q w) (wA a λd=>aA d w.drew λe f g=>wA a λi=>aA i w.drew λj l m=>wA a λn=>aA n w.drew λo p q=>aH c p<|wA o λr=>af .i64 ((r.add (c.toNat*2)).add 0) w.drew λs=>af .i64 ((r.add (c.toNat*2)).add 1) w.drew λt=>wA a λu=>aA u w.drew λv x y=>aH b x<|wA v λz=>af .i64 ((z.add (b.toNat*2)).add 0) w.drew λa1=>af .i64 ((z.add (b.toNat*2)).add 1) w.drew λb1=>aH b f<|wA e λc1=>St ((c1.add (b.toNat*2)).add 0) (ae s) w.drew λw=>St ((c1.add (b.toNat*2)).add 1) (ae t) w λw=>aH c l<|wA j λd1=>St ((d1.add (c.toNat*2)).add 0) (ae a1) w λw=>St ((d1.add (c.toNat*2)).add 1) (ae b1) w λw=>P1 a c w)
def mz (P1:OA->Int->WP)(Q:WP)(R3:OA->Int->Int->Int->WP)(a:OA)(b c d:Int)(w:World):Prop:=cond (decide (d<=(IntKind.wrap .i64 ((IntKind.wrap .i64 (2*b))+2)))) (wA a λe=>aA e w λf g i=>cond (decide (d<(g:Int))) (wA a λj=>aA j w.drew λl m n=>aH d m<|wA l λo=>af .i64 ((o.add (d.toNat*2)).add 0) w.drew λp=>af .i64 ((o.add (d.toNat*2)).add 1) w.drew λq=>wA a λr=>aA r w.drew λs t u=>aH c t<|wA s λv=>af .i64 ((v.add (c.toNat*2)).add 0) w.drew λx=>af .i64 ((v.add (c.toNat*2)).add 1) w.drew λy=>sF p q x y w.drew λz w=>cond z (R3 a b d (IntKind.wrap .i64 (d+1)) w) (R3 a b c (IntKind.wrap .i64 (d+1)) w)) (oG P1 Q a b c w)) (oG P1 Q a b c w)
def mA (P1:OA->Int->WP)(Q:WP):Nat->OA->Int->Int->Int->WP
 |0,_,_,_,_,_=>False
 |k+1,a,b,c,d,w=>mz P1 Q (mA P1 Q k) a b c d w
def xB (Q:WP)(R1:OA->Int->WP)(a:OA)(b:Int)(w:World):Prop:=∃k',mA R1 Q k' a b b (IntKind.wrap .i64 ((IntKind.wrap .i64 (2*b))+1)) w
def oH (Q:WP):Nat->OA->Int->WP
 |0,_,_,_=>False
 |k+1,a,b,w=>xB Q (oH Q k) a b w
noncomputable def v8:cA:=[(5,sp 0 14 (.op 14 .done)),(8,sp 0 25 (.op 25 (.op 26 (.op 27 .done))))]
def VL {P1}(Q)(H1:Bk 71 Tryz.f230 (oA Q) 1 [(0,.p),(2,.i .i64)] P1):Bk 71 Tryz.f230 (oA Q) 7 [(0,.p),(2,.i .i64),(3,.i .i64)] (oG P1 Q):=aU (ok 71) v8 [aL H1]
def VM {P1}(Q)(H1:Bk 71 Tryz.f230 (oA Q) 1 [(0,.p),(2,.i .i64)] P1):∀k,Bk 71 Tryz.f230 (oA Q) 3 [(0,.p),(2,.i .i64),(3,.i .i64),(4,.i .i64)] (mA P1 Q k):=bI λk h=>aU (ok 71) v8 [aL h,aL (VL Q H1)]
def VN (Q):∀k,Bk 71 Tryz.f230 (oA Q) 1 [(0,.p),(2,.i .i64)] (oH Q k):=bI λk h=>aU (ok 71) v8 [bY (VM Q h)]
def Si:=λa w Q=>bB (An a w Q) (∃k',oH Q k' a 0 w) (ok 71) v8 [bY (VN Q)] Tryz.func230
def yI (Q:Int->Int->Bool->WP)(a b:Int)(c:Bool)(w:World):Prop:=Q a b c w
noncomputable def I4:cA:=[(4,sp 0 12 (.op 12 .done))]
def X1 (Q):Bk 45 Tryz.f207 (DN Q) 7 [(2,.i .i64),(3,.i .i64),(4,.b)] (yI Q):=aU (ok 45) I4 []
def Uy:=λa w Q=>bB (jJ a w Q) (A9 a w λb c d w=>cond d (wA a λe=>aA e w λf g i=>wA a λj=>aA j w.drew λl m n=>wA a λo=>aA o w.drew λp q r=>aH (IntKind.wrap .i64 ((g:Int)-1)) q<|wA p λs=>af .i64 ((s.add (((IntKind.wrap .i64 ((g:Int)-1))).toNat*2)).add 0) w.drew λt=>af .i64 ((s.add (((IntKind.wrap .i64 ((g:Int)-1))).toNat*2)).add 1) w.drew λu=>aH 0 m<|wA l λv=>St ((v.add (((0:Int).toNat)*2)).add 0) (ae t) w.drew λw=>St ((v.add (((0:Int).toNat)*2)).add 1) (ae u) w λw=>wA a λx=>aA x w λy z a1=>bS y z a1 2 none (some (IntKind.wrap .i64 ((g:Int)-1))) λb1 c1 d1=>wA a λe1=>St e1 (.slice b1 c1 d1) w λw=>An a w λw=>yI Q b c d w) (yI Q b c d w)) (ok 45) I4 [aL (X1 Q)] Tryz.func207
def m8 (P8:OA->Int->Int->Int->ON->OA->Int->Int->Bool->WP)(Q:ON->WP)(a:OA)(b c d:Int)(e:ON)(f:OA)(w:World):Prop:=jJ f w λg i j w=>P8 a b c d e f g i j w
def mB (P8:OA->Int->Int->Int->ON->OA->Int->Int->Bool->WP)(Q:ON->WP)(Yv:OA->Int->Int->Int->ON->OA->Int->Int->Int->WP)(a:OA)(b c d:Int)(e:ON)(f:OA)(g i j:Int)(w:World):Prop:=cond (decide (j<=3)) (oh c d i j w λl w=>cond (decide (l<0)) (Yv a b c d e f g i (IntKind.wrap .i64 (j+1)) w) (ee c d l w λm w=>ee c d b w λn w=>cond (m !=n) (Yv a b c d e f g i (IntKind.wrap .i64 (j+1)) w) (wA a λo=>bg (o.add 1) w λp=>fg p l w λq w=>cond (q==255) (Yv a b c d e f g i (IntKind.wrap .i64 (j+1)) w) (wA a λr=>bg (r.add 1) w λs=>fg s i w λt w=>mR f (IntKind.wrap .i64 (g+t)) l w λw=>Yv a b c d e f g i (IntKind.wrap .i64 (j+1)) w)))) (m8 P8 Q a b c d e f w)
def iM (P8:OA->Int->Int->Int->ON->OA->Int->Int->Bool->WP)(Q:ON->WP):Nat->OA->Int->Int->Int->ON->OA->Int->Int->Int->WP
 |0,_,_,_,_,_,_,_,_,_,_=>False
 |k+1,a,b,c,d,e,f,g,i,j,w=>mB P8 Q (iM P8 Q k) a b c d e f g i j w
def je (Q:ON->WP)(R8:OA->Int->Int->Int->ON->OA->Int->Int->Bool->WP)(a:OA)(b c d:Int)(e:ON)(f:OA)(g i:Int)(j:Bool)(w:World):Prop:=cond j (aM P (Instr.lookup 207 (.map e) (ae i) true) w λl w=>dT l λm=>dH m λn o=>dI .i64 n λp=>dH o λq r=>dB q λs=>kT r<|cond s (m8 R8 Q a b c d e f w) (bF P (Instr.mapUpdate 207 (.map e) (ae i) (ae g)) w λw=>∃k',iM R8 Q k' a b c d e f g i 0 w)) (Q e w)
def jf (Q:ON->WP):Nat->OA->Int->Int->Int->ON->OA->Int->Int->Bool->WP
 |0,_,_,_,_,_,_,_,_,_,_=>False
 |k+1,a,b,c,d,e,f,g,i,j,w=>je Q (jf Q k) a b c d e f g i j w
def DA {P8}(Q)(H8:Bk 103 Tryz.f203 (kA Q) 8 [(0,.p),(1,.i .i64),(5,.i .i64),(6,.i .i64),(7,.m),(8,.p),(9,.i .i64),(10,.i .i64),(11,.b)] P8):Bk 103 Tryz.f203 (kA Q) 9 [(0,.p),(1,.i .i64),(5,.i .i64),(6,.i .i64),(7,.m),(8,.p)] (m8 P8 Q):=aU (ok 103) [] [aL H8]
def Lq {P8}(Q)(H8:Bk 103 Tryz.f203 (kA Q) 8 [(0,.p),(1,.i .i64),(5,.i .i64),(6,.i .i64),(7,.m),(8,.p),(9,.i .i64),(10,.i .i64),(11,.b)] P8):∀k,Bk 103 Tryz.f203 (kA Q) 14 [(0,.p),(1,.i .i64),(5,.i .i64),(6,.i .i64),(7,.m),(8,.p),(9,.i .i64),(10,.i .i64),(14,.i .i64)] (iM P8 Q k):=bI λk h=>aU (ok 103) [] [aL (DA Q H8),aL h]
def ML (Q):∀k,Bk 103 Tryz.f203 (kA Q) 8 [(0,.p),(1,.i .i64),(5,.i .i64),(6,.i .i64),(7,.m),(8,.p),(9,.i .i64),(10,.i .i64),(11,.b)] (jf Q k):=bI λk h=>aU (ok 103) [] [aL (DA Q h),bY (Lq Q h)]
def Kk:=λa b w Q=>bB (uy a b w Q) (wA a λc=>bg (c.add 1) w λd=>eS d w λe f w=>cD P 207 none w λg w=>wA a λi=>bg (i.add 1) w λj=>fg j b w λl w=>cond (l==255) (Q g w) (CY w λm w=>mR m 0 b w λw=>jJ m w λn o p w=>∃k',jf Q k' a b e f g m n o p w)) (ok 103) [] [bY (ML Q)] Tryz.func203
def JK:=λa b c w Q=>bB (kW a b c w Q) (cond a.isNone (Q none 0 0 w) (Bx [] 3 w λd w=>App P #[29,29] 29 (.slice (some d) 0 0) (.slice a b c) w λe f g w=>Q e f g w)) (ok 8) [] [] Tryz.func215
def Qp:=λa b w Q=>bB (zg a b w Q) (cond a.isNone (Q none 0 0 w) (cond (decide (b<0)) (Q none 0 0 w) (wA a λc=>aA (c.add 1) w λd e f=>cond (decide (b≥(e:Int))) (Q none 0 0 w) (wA a λg=>aA (g.add 1) w λi j l=>aH b j<|wA i λm=>aA ((m.add (b.toNat*3)).add 1) w λn o p=>kW n o p w λq r s w=>Q q r s w)))) (ok 29) [] [] Tryz.func204
def OD:=λa b c w Q=>bB (rJ a b c w Q) (wA a λd=>aA (d.add 2) w λe f g=>aH b f<|wA e λi=>af .i32 (i.add (b.toNat*1)) w λj=>cond (decide (c≥(IntKind.wrap .i64 j))) (Q false w) (wA a λl=>aA (l.add 2) w λm n o=>aH b n<|wA m λp=>St (p.add (b.toNat*1)) (.int .i32 (IntKind.wrap .i32 c)) w λw=>Q true w)) (ok 25) [] [] Tryz.func205
def VO:=λa b w Q=>bB (IW a b w Q) (qN a w λc w=>cond c (qN b w λd w=>cond (!d) (Q true w) (Q (decide (a<b)) w)) (Q (decide (a<b)) w)) (ok 17) [] [] Tryz.func280
def OE:=λa w Q=>bB (nT a w Q) (Q (a !=a) w) (ok 6) [] [] Tryz.func281
def iZ (Q:Int->Bool->WP)(R3:L3 (Int->Int->Int->Int->WP))(a:OA)(b c:Nat)(d e f g:Int)(w:World):Prop:=cond (decide (f<g)) (D3 1<|aH (IntKind.wrap .i64 (pA .u64 (IntKind.wrap .u64 (IntKind.wrap .i64 (f+g))) 1)) b<|wA a λi=>af .i64 (i.add (((IntKind.wrap .i64 (pA .u64 (IntKind.wrap .u64 (IntKind.wrap .i64 (f+g))) 1))).toNat*1)) w λj=>IW j d w λl w=>cond l (R3 a b c d e (IntKind.wrap .i64 ((IntKind.wrap .i64 (pA .u64 (IntKind.wrap .u64 (IntKind.wrap .i64 (f+g))) 1))+1)) g w) (R3 a b c d e f (IntKind.wrap .i64 (pA .u64 (IntKind.wrap .u64 (IntKind.wrap .i64 (f+g))) 1)) w)) (cond (decide (f<e)) (aH f b<|wA a λm=>af .i64 (m.add (f.toNat*1)) w λn=>cond (n==d) (Q f true w) (aH f b<|wA a λo=>af .i64 (o.add (f.toNat*1)) w λp=>nT p w λq w=>cond q (nT d w λr w=>Q f r w) (Q f false w))) (Q f false w))
def gH (Q:Int->Bool->WP):Nat->L3 (Int->Int->Int->Int->WP)
 |0,_,_,_,_,_,_,_,_=>False
 |k+1,a,b,c,d,e,f,g,w=>iZ Q (gH Q k) a b c d e f g w
def FZ (Q):∀k,Bk 54 Tryz.f271 (wj Q) 3 [(0,.l),(1,.i .i64),(6,.i .i64),(7,.i .i64),(8,.i .i64)] (gH Q k):=bI λk h=>aU (ok 54) [] [aL h]
def Ee:=λa b c d w Q=>bB (nS a b c d w Q) (∃k',gH Q k' a b c d (b:Int) 0 (b:Int) w) (ok 54) [] [bY (FZ Q)] Tryz.func271
def Qq:=λa b w Q=>bB (Fy a b w Q) (wA a λc=>aA (c.add 1) w λd e f=>nS d e f b w λg i w=>Q g i w) (ok 14) [] [] Tryz.func258
def Sj:=λa b w Q=>bB (uA a b w Q) (cond a.isNone (Q none 0 false w) (wA a λc=>bg c w λd=>eS d w λe f w=>ee e f b w λg w=>cond (decide (g<0)) (Q none 0 false w) (wA a λi=>aA (i.add 1) w λj l m=>aH g l<|wA j λn=>Fy (some (n.add (g.toNat*3))) b w λo p w=>Q (some (n.add (g.toNat*3))) o p w))) (ok 44) [] [] Tryz.func231
noncomputable def OF:cA:=[(1,sp 0 15 (.op 15 .done))]
def MM:=λa b c w Q=>bB (wN a b c w Q) (wA a λd=>aA (d.add 2) w.drew λe f g=>wA a λi=>aA (i.add 1) w.drew λj l m=>aH (IntKind.wrap .i64 ((IntKind.wrap .i64 (b*(l:Int)))+c)) f<|wA e λn=>af .i32 (n.add (((IntKind.wrap .i64 ((IntKind.wrap .i64 (b*(l:Int)))+c))).toNat*1)) w.drew λo=>cond (o !=(-1)) (Q (IntKind.wrap .i64 o) w.drew) (Q 1099511627776 w.drew)) (ok 27) OF [] Tryz.func232
def qR (Q:L3 WP)(Yv:OA->Int->OA->L3 (Int->Int->Int->WP))(a:OA)(b:Int)(c d:OA)(e f:Nat)(g i j:Int)(w:World):Prop:=cond (decide (j<=3)) (oh g i b j w λl w=>uA a l w λm n o w=>cond o (bU P .neq 354 (.tmp 89) (.tmp 90) (.pointer m) (.pointer c) w λp w=>cond p (wA a λq=>bg q w λr=>fg r b w λs w=>Bx [ae l,ae s] 292 w λt w=>App P #[289,289] 289 (.slice d e f) (.slice (some t) 1 1) w λu v x w=>Yv a b c u v x g i (IntKind.wrap .i64 (j+1)) w) (Yv a b c d e f g i (IntKind.wrap .i64 (j+1)) w)) (Yv a b c d e f g i (IntKind.wrap .i64 (j+1)) w)) (Q d e f w)
def lH (Q:L3 WP):Nat->OA->Int->OA->L3 (Int->Int->Int->WP)
 |0,_,_,_,_,_,_,_,_,_,_=>False
 |k+1,a,b,c,d,e,f,g,i,j,w=>qR Q (lH Q k) a b c d e f g i j w
def r7 (Q:L3 WP)(R6:OA->Int->OA->Int->L3 (L3 (Int->Int->WP)))(a:OA)(b:Int)(c:OA)(d:Int)(e:OA)(f g:Nat)(i:OA)(j l:Nat)(m n:Int)(w:World):Prop:=cond (decide (n<m)) (aH n j<|wA i λo=>af .i64 (o.add (n.toNat*1)) w λp=>wN c n d w λq w=>cond (n !=d) (cond (q !=1099511627776) (Bx [ae p,ae q] 292 w λr w=>App P #[289,289] 289 (.slice e f g) (.slice (some r) 1 1) w λs t u w=>R6 a b c d s t u i j l m (IntKind.wrap .i64 (n+1)) w) (R6 a b c d e f g i j l m (IntKind.wrap .i64 (n+1)) w)) (R6 a b c d e f g i j l m (IntKind.wrap .i64 (n+1)) w)) (wA a λv=>bg v w λx=>eS x w λy z w=>∃k',lH Q k' a b c e f g y z 0 w)
def mC (Q:L3 WP):Nat->OA->Int->OA->Int->L3 (L3 (Int->Int->WP))
 |0,_,_,_,_,_,_,_,_,_,_,_,_,_=>False
 |k+1,a,b,c,d,e,f,g,i,j,l,m,n,w=>r7 Q (mC Q k) a b c d e f g i j l m n w
def Uz (Q):∀k,Bk 105 Tryz.f208 (B_ Q) 14 [(0,.p),(1,.i .i64),(5,.p),(8,.l),(12,.i .i64),(13,.i .i64),(14,.i .i64)] (lH Q k):=bI λk h=>aU (ok 105) [] [aL h]
def VP (Q):∀k,Bk 105 Tryz.f208 (B_ Q) 6 [(0,.p),(1,.i .i64),(5,.p),(6,.i .i64),(8,.l),(38,.l),(39,.i .i64),(40,.i .i64)] (mC Q k):=bI λk h=>aU (ok 105) [] [aL h,bY (Uz Q)]
def Sk:=λa b w Q=>bB (Aj a b w Q) (uA a b w λc d e w=>cond (!e) (Q none 0 0 w) (wA c λf=>aA (f.add 1) w λg i j=>cy P 289 (ae 0) (ae (IntKind.wrap .i64 ((i:Int)+1))) w λl m n w=>wA c λo=>aA (o.add 1) w λp q r=>∃k',mC Q k' a b c d l m n p q r (q:Int) 0 w)) (ok 105) [] [bY (VP Q)] Tryz.func208
def mD (tM:OA->Addr->OA->Int->Int->Bool->WP)(Q:OA->WP)(a:OA)(b:Addr)(c:OA)(w:World):Prop:=jJ c w λd e f w=>tM a b c d e f w
def mE (tM:OA->Addr->OA->Int->Int->Bool->WP)(Q:OA->WP)(R17:OA->Addr->OA->Int->L3 (Int->Int->WP))(a:OA)(b:Addr)(c:OA)(d:Int)(e:OA)(f g:Nat)(i j:Int)(w:World):Prop:=cond (decide (j<i)) (aH j f<|wA e λl=>af .i64 ((l.add (j.toNat*2)).add 0) w λm=>af .i64 ((l.add (j.toNat*2)).add 1) w λn=>Al T 292 w λo w=>St (o.add 0) (ae m) w λw=>St (o.add 1) (ae n) w λw=>af .i64 o w λp=>af .i64 (o.add 1) w λq=>rJ (some b) p (IntKind.wrap .i64 (d+q)) w λr w=>cond r (af .i64 (o.add 1) w λs=>af .i64 o w λt=>mR c (IntKind.wrap .i64 (d+s)) t w λw=>R17 a b c d e f g i (IntKind.wrap .i64 (j+1)) w) (R17 a b c d e f g i (IntKind.wrap .i64 (j+1)) w)) (mD tM Q a b c w)
def jU (tM:OA->Addr->OA->Int->Int->Bool->WP)(Q:OA->WP):Nat->OA->Addr->OA->Int->L3 (Int->Int->WP)
 |0,_,_,_,_,_,_,_,_,_,_=>False
 |k+1,a,b,c,d,e,f,g,i,j,w=>mE tM Q (jU tM Q k) a b c d e f g i j w
def iO (Q:OA->WP)(R13:OA->Addr->OA->Int->Int->Bool->WP)(a:OA)(b:Addr)(c:OA)(d e:Int)(f:Bool)(w:World):Prop:=cond f (aA (b.add 2) w λg i j=>aH e i<|wA g λl=>af .i32 (l.add (e.toNat*1)) w λm=>cond (decide (d>(IntKind.wrap .i64 m))) (mD R13 Q a b c w) (wA a λn=>bg n w λo=>Aj o e w λp q r w=>∃k',jU R13 Q k' a b c d p q r (q:Int) 0 w)) (Q (some b) w)
def iP (Q:OA->WP):Nat->OA->Addr->OA->Int->Int->Bool->WP
 |0,_,_,_,_,_,_,_=>False
 |k+1,a,b,c,d,e,f,w=>iO Q (iP Q k) a b c d e f w
def m9 (Q:OA->WP)(R6:OA->Addr->OA->ON->L3 (Int->Int->WP))(a:OA)(b:Addr)(c:OA)(d:ON)(e:OA)(f g:Nat)(i j:Int)(w:World):Prop:=cond (decide (j<i)) (aH j f<|wA e λl=>af .i64 (l.add (j.toNat*1)) w λm=>aM P (Instr.lookup 207 (.map d) (ae m) true) w λn w=>dT n λo=>dH o λp q=>dI .i64 p λr=>dH q λs t=>dB s λu=>kT t<|cond u (rJ (some b) m r w λv w=>cond v (mR c r m w λw=>R6 a b c d e f g i (IntKind.wrap .i64 (j+1)) w) (R6 a b c d e f g i (IntKind.wrap .i64 (j+1)) w)) (R6 a b c d e f g i (IntKind.wrap .i64 (j+1)) w)) (jJ c w λx y z w=>∃k',iP Q k' a b c x y z w)
def jg (Q:OA->WP):Nat->OA->Addr->OA->ON->L3 (Int->Int->WP)
 |0,_,_,_,_,_,_,_,_,_,_=>False
 |k+1,a,b,c,d,e,f,g,i,j,w=>m9 Q (jg Q k) a b c d e f g i j w
noncomputable def mF:cA:=[(5,sp 0 7 (.op 10 (.op 7 (.op 8 (.op 9 .done)))))]
def Cm {tM}(Q)(H13:Bk 128 Tryz.f178 (jd Q) 13 [(0,.p),(7,.a),(8,.p),(14,.i .i64),(15,.i .i64),(16,.b)] tM):Bk 128 Tryz.f178 (jd Q) 14 [(0,.p),(7,.a),(8,.p)] (mD tM Q):=aU (ok 128) mF [aL H13]
def Lt {tM}(Q)(H13:Bk 128 Tryz.f178 (jd Q) 13 [(0,.p),(7,.a),(8,.p),(14,.i .i64),(15,.i .i64),(16,.b)] tM):∀k,Bk 128 Tryz.f178 (jd Q) 17 [(0,.p),(7,.a),(8,.p),(14,.i .i64),(104,.l),(105,.i .i64),(106,.i .i64)] (jU tM Q k):=bI λk h=>aU (ok 128) mF [aL (Cm Q H13),aL h]
def Lu (Q):∀k,Bk 128 Tryz.f178 (jd Q) 13 [(0,.p),(7,.a),(8,.p),(14,.i .i64),(15,.i .i64),(16,.b)] (iP Q k):=bI λk h=>aU (ok 128) mF [aL (Cm Q h),bY (Lt Q h)]
def MN (Q):∀k,Bk 128 Tryz.f178 (jd Q) 6 [(0,.p),(7,.a),(8,.p),(9,.m),(52,.l),(53,.i .i64),(54,.i .i64)] (jg Q k):=bI λk h=>aU (ok 128) mF [aL h,bY (Lu Q)]
def Kl:=λa b w Q=>bB (uw a b w Q) (wA a λc=>bg (c.add 1) w λd=>eS d w λe f w=>wA a λg=>bg (g.add 1) w λi=>gf i w λj w=>Bx [.int .i32 2147483647] 21 w λl w=>o7 (some l) 1 1 (IntKind.wrap .i64 (e*f)) w λm n o w=>Bx [ae b,ae j,.slice m n o] 298 w λp w=>CY w λq w=>uy a b w λr w=>wA a λs=>bg s w.drew λt=>ee e f b w.drew λu w=>w.cell? s=some (.pointer t)/\zg t u w λv x y w=>∃k',jg Q k' a p q r v x y (x:Int) 0 w) (ok 128) mF [bY (MN Q)] Tryz.func178
def zz (Q:OA->WP)(a:OA)(w:World):Prop:=wA a λb=>bg (b.add 2) w λc=>Q c w
def oI (Q:OA->WP)(a:OA)(b:Int)(w:World):Prop:=uw a b w λc w=>wA a λd=>St (d.add 2) (.pointer c) w λw=>wA a λe=>af .u64 (e.add 3) w λf=>sA f 1 w λg w=>wA a λi=>St (i.add 3) (.int .u64 g) w λw=>zz Q a w
noncomputable def yh:cA:=[(4,sp 0 28 (.op 28 (sp 29 2 .done)))]
def FC (Q):Bk 70 Tryz.f163 (za Q) 7 [(0,.p)] (zz Q):=aU (ok 70) yh []
def Qr (Q):Bk 70 Tryz.f163 (za Q) 5 [(0,.p),(1,.i .i64)] (oI Q):=aU (ok 70) yh [aL (FC Q)]
def MO:=λa b w Q=>bB (wK a b w Q) (cond a.isNone (Q none w) (wA a λc=>bg (c.add 1) w λd=>fg d b w λe w=>cond (e==0) (Q none w) (wA a λf=>bg f w λg=>wM g w λi w=>wA a λj=>bg (j.add 2) w.drew λl=>cond l.isNone (oI Q a b w.drew) (wA a λm=>bg (m.add 2) w.drew λn=>wA n λo=>af .i64 o w.drew λp=>cond (p !=b) (oI Q a b w.drew) (wA a λq=>bg (q.add 2) w.drew λr=>wA r λs=>af .i64 (s.add 1) w.drew λt=>wA a λu=>bg (u.add 1) w.drew λv=>gf v w.drew λx w=>w.cell? (s.add 1)=some (ae t)/\w.cell? (q.add 2)=some (.pointer r)/\cond (t !=x) (oI Q a b w) (zz Q a w)))))) (ok 70) yh [aL (Qr Q),aL (FC Q)] Tryz.func163
def xC (Q:WP)(a:OA)(b:Addr)(w:World):Prop:=af .i64 (b.add 3) w λc=>cond (c==(-1)) (af .i64 (b.add 2) w λd=>wA a λe=>St (e.add 4) (ae d) w λw=>Q w) (wA a λf=>aA (f.add 1) w.drew λg i j=>af .i64 (b.add 3) w.drew λl=>af .i64 (b.add 2) w.drew λm=>aH l i<|wA g λn=>St ((n.add (l.toNat*4)).add 2) (ae m) w.drew λw=>Q w)
noncomputable def Ht:cA:=[(3,sp 0 10 (.op 10 .done)),(6,sp 0 10 (.op 10 .done))]
def VQ (Q):Bk 48 Tryz.f212 (IV Q) 4 [(0,.p),(4,.a)] (xC Q):=aU (ok 48) Ht []
def Sm:=λa b w Q=>bB (uz a b w Q) (wA a λc=>aA (c.add 1) w λd e f=>aH b e<|wA d λg=>af .i64 ((g.add (b.toNat*4)).add 0) w λi=>af .i64 ((g.add (b.toNat*4)).add 1) w λj=>af .i64 ((g.add (b.toNat*4)).add 2) w λl=>af .i64 ((g.add (b.toNat*4)).add 3) w λm=>Al T 334 w λn w=>St (n.add 0) (ae i) w λw=>St (n.add 1) (ae j) w λw=>St (n.add 2) (ae l) w λw=>St (n.add 3) (ae m) w λw=>af .i64 (n.add 2) w λo=>cond (o==(-1)) (af .i64 (n.add 3) w λp=>wA a λq=>St (q.add 3) (ae p) w λw=>xC Q a n w) (wA a λr=>aA (r.add 1) w.drew λs t u=>af .i64 (n.add 2) w.drew λv=>af .i64 (n.add 3) w.drew λx=>aH v t<|wA s λy=>St ((y.add (v.toNat*4)).add 3) (ae x) w.drew λw=>xC Q a n w)) (ok 48) Ht [aL (VQ Q)] Tryz.func212
def Ax (Q:WP)(a:OA)(b:Int)(w:World):Prop:=wA a λc=>St (c.add 3) (ae b) w λw=>Q w
noncomputable def JZ:cA:=[(0,sp 0 16 (.op 16 (sp 17 2 (.op 19 .done)))),(3,sp 0 11 (.op 11 .done))]
def ZI (Q):Bk 46 Tryz.f213 (Lb Q) 4 [(0,.p),(1,.i .i64)] (Ax Q):=aU (ok 46) JZ []
def VR:=λa b w Q=>bB (xq a b w Q) (wA a λc=>aA (c.add 1) w.drew λd e f=>wA a λg=>aA (g.add 1) w.drew λi j l=>wA a λm=>af .i64 (m.add 3) w.drew λn=>aH b e<|wA d λo=>St ((o.add (b.toNat*4)).add 2) (ae (-1)) w.drew λw=>aH b j<|wA i λp=>St ((p.add (b.toNat*4)).add 3) (ae n) w λw=>wA a λq=>af .i64 (q.add 3) w λr=>cond (r==(-1)) (wA a λs=>St (s.add 4) (ae b) w λw=>Ax Q a b w) (wA a λt=>aA (t.add 1) w.drew λu v x=>wA a λy=>af .i64 (y.add 3) w.drew λz=>aH z v<|wA u λa1=>St ((a1.add (z.toNat*4)).add 2) (ae b) w.drew λw=>Ax Q a b w)) (ok 46) JZ [aL (ZI Q)] Tryz.func213
def ot (Q:Int->Bool->Bool->WP)(a:OA)(b:Int)(c d:Bool)(e:Addr)(w:World):Prop:=wA a λf=>cw (f.add 2) w.drew λg=>af .i64 (e.add 0) w.drew λi=>af .i64 (e.add 1) w.drew λj=>bF P (Instr.mapUpdate 180 (.map g) (.agg #[ae i,ae j]) (ae b)) w.drew λw=>xq a b w λw=>Q b c d w
noncomputable def Lv:cA:=[(4,sp 0 5 (.op 5 (sp 6 3 (.op 9 (.op 10 .done))))),(7,sp 0 12 (.op 12 .done)),(8,sp 0 8 (.op 8 .done)),(11,sp 0 10 (.op 10 .done)),(13,sp 0 7 (.op 7 (.op 8 (sp 9 2 (.op 11 .done))))),(14,sp 0 6 (.op 6 .done))]
def ZJ (Q):Bk 95 Tryz.f180 (Np Q) 14 [(0,.p),(6,.i .i64),(7,.b),(8,.b),(9,.a)] (ot Q):=aU (ok 95) Lv []
def X2:=λa b c w Q=>bB (DJ a b c w Q) (cond a.isNone (Q (-1) false false w) (Al T 253 w λd w=>St (d.add 0) (ae b) w λw=>St (d.add 1) (ae c) w λw=>wA a λe=>cw (e.add 2) w.drew λf=>af .i64 (d.add 0) w.drew λg=>af .i64 (d.add 1) w.drew λi=>aM P (Instr.lookup 180 (.map f) (.agg #[ae g,ae i]) true) w.drew λj w=>dT j λl=>dH l λm n=>dI .i64 m λo=>dH n λp q=>dB p λr=>kT q<|cond r (uz a o w λw=>ot Q a o r false d w) (wA a λs=>aA (s.add 1) w.drew λt u v=>wA a λx=>af .i64 x w.drew λy=>cond (decide ((u:Int)<y)) (wA a λz=>aA (z.add 1) w.drew λa1 b1 c1=>wA a λd1=>aA (d1.add 1) w.drew.drew λe1 f1 g1=>af .i64 (d.add 0) w.drew.drew λi1=>af .i64 (d.add 1) w.drew.drew λj1=>Bx [ae i1,ae j1,ae 0,ae 0] 334 w.drew.drew λl1 w=>w.cell? (d1.add 1)=some (.slice e1 f1 g1)/\App P #[179,179] 179 (.slice e1 f1 g1) (.slice (some l1) 1 1) w λm1 n1 o1 w=>wA a λp1=>St (p1.add 1) (.slice m1 n1 o1) w λw=>ot Q a (b1:Int) r false d w) (wA a λq1=>af .i64 (q1.add 4) w.drew λr1=>uz a r1 w.drew λw=>wA a λs1=>cw (s1.add 2) w.drew λt1=>wA a λu1=>aA (u1.add 1) w.drew λv1 x1 y1=>aH r1 x1<|wA v1 λz1=>af .i64 ((z1.add (r1.toNat*4)).add 0) w.drew λa2=>af .i64 ((z1.add (r1.toNat*4)).add 1) w.drew λb2=>aM P (Builtin.delete_ #[180,253] 0 [.map t1,.agg #[ae a2,ae b2]].toArray) w.drew λc2 w=>wA a λd2=>aA (d2.add 1) w.drew λe2 f2 g2=>af .i64 (d.add 0) w.drew λi2=>af .i64 (d.add 1) w.drew λj2=>aH r1 f2<|wA e2 λl2=>St ((l2.add (r1.toNat*4)).add 0) (ae i2) w.drew λw=>St ((l2.add (r1.toNat*4)).add 1) (ae j2) w λw=>ot Q a r1 r true d w)))) (ok 95) Lv [aL (ZJ Q)] Tryz.func180
def ik (Q:Bool->WP)(R4:L3 (L3 (Int->Int->WP)))(a:OA)(b c:Nat)(d:OA)(e f:Nat)(g i:Int)(w:World):Prop:=cond (decide (i<g)) (aH i b<|wA a λj=>af .i64 ((j.add (i.toNat*3)).add 0) w.drew λl=>af .i64 ((j.add (i.toNat*3)).add 1) w.drew λm=>af .i64 ((j.add (i.toNat*3)).add 2) w.drew λn=>aH i e<|wA d λo=>af .i64 ((o.add (i.toNat*3)).add 0) w.drew λp=>af .i64 ((o.add (i.toNat*3)).add 1) w.drew λq=>af .i64 ((o.add (i.toNat*3)).add 2) w.drew λr=>bU P .neq 294 (.tmp 19) (.tmp 23) (.agg #[ae l,ae m,ae n]) (.agg #[ae p,ae q,ae r]) w.drew λs w=>cond s (Q false w) (R4 a b c d e f g (IntKind.wrap .i64 (i+1)) w)) (Q true w)
def fT (Q:Bool->WP):Nat->L3 (L3 (Int->Int->WP))
 |0,_,_,_,_,_,_,_,_,_=>False
 |k+1,a,b,c,d,e,f,g,i,w=>ik Q (fT Q k) a b c d e f g i w
noncomputable def sI:cA:=[(6,sp 0 8 (.op 8 .done))]
def DT (Q):∀k,Bk 26 Tryz.f214 (tG Q) 4 [(0,.l),(1,.l),(12,.i .i64),(13,.i .i64)] (fT Q k):=bI λk h=>aU (ok 26) sI [aL h]
def Cn:=λa b c d e f w Q=>bB (rW a b c d e f w Q) (cond ((b:Int) !=(e:Int)) (Q false w) (∃k',fT Q k' a b c d e f (b:Int) 0 w)) (ok 26) sI [bY (DT Q)] Tryz.func214
def ZK:=λa b c d e f w Q=>bB (EY a b c d e f w Q) (rW a b c d e f w λg w=>Q g w) (ok 8) [] [] Tryz.func181
def abn:=λa w Q=>bB (sE a w Q) (wA a λb=>af .u64 b w λc=>sA c 1 w λd w=>wA a λe=>St e (.int .u64 d) w λw=>Q w) (ok 8) [] [] Tryz.func182
noncomputable def adD:cA:=[(1,sp 0 2 (sp 3 2 (.op 2 (.op 5 (.op 6 (.op 7 .done))))))]
def abo:=λa b c d e f w Q=>bB (Br a b c d e f w Q) (Bx [.slice a b c,.slice d e f] 213 w λg w=>Al T 213 w λi w=>aA g w.drew λj l m=>aA (g.add 1) w.drew λn o p=>kW j l m w.drew λq r s w=>w.cell? (g.add 1)=some (.slice n o p)/\kW n o p w λt u v w=>St (i.add 0) (.slice q r s) w λw=>St (i.add 1) (.slice t u v) w λw=>aA (i.add 0) w λx y z=>aA (i.add 1) w λa1 b1 c1=>Q x y z a1 b1 c1 w) (ok 10) adD [] Tryz.func183
def Dd (P3:Int->Int->Int->Bool->L3 (Int->Int->WP))(Q:Int->WP)(a b:Int)(c:Addr)(d:OA)(e f:Nat)(g i:Int)(w:World):Prop:=af .i64 (c.add 2) w λj=>P3 a b j true d e f g (IntKind.wrap .i64 (i+1)) w
def zA (Q:Int->WP)(R3:Int->Int->Int->Bool->L3 (Int->Int->WP))(a b c:Int)(d:Bool)(e:OA)(f g:Nat)(i j:Int)(w:World):Prop:=cond (decide (j<i)) (aH j f<|wA e λl=>af .i64 ((l.add (j.toNat*3)).add 0) w λm=>af .i64 ((l.add (j.toNat*3)).add 1) w λn=>af .i64 ((l.add (j.toNat*3)).add 2) w λo=>Al T 294 w λp w=>St (p.add 0) (ae m) w λw=>St (p.add 1) (ae n) w λw=>St (p.add 2) (ae o) w λw=>af .i64 p w λq=>cond (q==a) (af .i64 (p.add 1) w λr=>cond (r==b) (cond (!d) (Dd R3 Q a b p e f g i j w) (af .i64 (p.add 2) w λs=>cond (decide (s<c)) (Dd R3 Q a b p e f g i j w) (R3 a b c d e f g i (IntKind.wrap .i64 (j+1)) w))) (R3 a b c d e f g i (IntKind.wrap .i64 (j+1)) w)) (R3 a b c d e f g i (IntKind.wrap .i64 (j+1)) w)) (Q c w)
def oJ (Q:Int->WP):Nat->Int->Int->Int->Bool->L3 (Int->Int->WP)
 |0,_,_,_,_,_,_,_,_,_,_=>False
 |k+1,a,b,c,d,e,f,g,i,j,w=>zA Q (oJ Q k) a b c d e f g i j w
def adE {P3}(Q)(H3:Bk 41 Tryz.f237 (C1 Q) 3 [(1,.i .i64),(2,.i .i64),(7,.i .i64),(8,.b),(11,.l),(12,.i .i64),(13,.i .i64)] P3):Bk 41 Tryz.f237 (C1 Q) 6 [(1,.i .i64),(2,.i .i64),(10,.a),(11,.l),(12,.i .i64),(13,.i .i64)] (Dd P3 Q):=aU (ok 41) [] [aL H3]
def adF (Q):∀k,Bk 41 Tryz.f237 (C1 Q) 3 [(1,.i .i64),(2,.i .i64),(7,.i .i64),(8,.b),(11,.l),(12,.i .i64),(13,.i .i64)] (oJ Q k):=bI λk h=>aU (ok 41) [] [aL h,aL (adE Q h)]
def ZL:=λa b c d e w Q=>bB (Ao a b c d e w Q) (∃k',oJ Q k' d e 1099511627776 false a b c (b:Int) 0 w) (ok 41) [] [bY (adF Q)] Tryz.func237
def qS (Q:Int->WP)(a b c:Int)(w:World):Prop:=cond (b==3) (cond (decide (c>0)) (Q (IntKind.wrap .i64 (a-1)) w) (Q (-1) w)) (Q (-1) w)
def qT (Q:Int->WP)(a:OA)(b c d e:Int)(w:World):Prop:=cond (c==2) (wA a λf=>af .i64 (f.add 1) w λg=>cond (decide (e<(IntKind.wrap .i64 (g-1)))) (wA a λi=>af .i64 i w λj=>Q (IntKind.wrap .i64 (b+j)) w) (qS Q b c d w)) (qS Q b c d w)
def qU (Q:Int->WP)(a:OA)(b c d e:Int)(w:World):Prop:=cond (c==1) (wA a λf=>af .i64 f w λg=>cond (decide (d<(IntKind.wrap .i64 (g-1)))) (Q (IntKind.wrap .i64 (b+1)) w) (qT Q a b c d e w)) (qT Q a b c d e w)
noncomputable def uI:cA:=[(1,sp 0 14 (.op 14 (.op 15 .done)))]
def UA (Q):Bk 81 Tryz.f277 (vX Q) 8 [(1,.i .i64),(2,.i .i64),(7,.i .i64)] (qS Q):=aU (ok 81) uI []
def UB (Q):Bk 81 Tryz.f277 (vX Q) 6 [(0,.p),(1,.i .i64),(2,.i .i64),(7,.i .i64),(8,.i .i64)] (qT Q):=aU (ok 81) uI [aL (UA Q)]
def UC (Q):Bk 81 Tryz.f277 (vX Q) 4 [(0,.p),(1,.i .i64),(2,.i .i64),(7,.i .i64),(8,.i .i64)] (qU Q):=aU (ok 81) uI [aL (UB Q)]
def Qs:=λa b c w Q=>bB (zj a b c w Q) (wA a λd=>af .i64 d w.drew λe=>NZ e<|wA a λf=>af .i64 f w.drew λg=>NZ g<|w.drew.cell? f=some (ae g)/\cond (c==0) (cond (decide ((IntKind.wrap .i64 (Int.tdiv b g))>0)) (wA a λi=>af .i64 i w.drew λj=>Q (IntKind.wrap .i64 (b-j)) w.drew) (qU Q a b c (Int.tmod b e) (IntKind.wrap .i64 (Int.tdiv b g)) w.drew)) (qU Q a b c (Int.tmod b e) (IntKind.wrap .i64 (Int.tdiv b g)) w.drew)) (ok 81) uI [aL (UC Q)] Tryz.func277
noncomputable def VS:cA:=[(3,sp 0 6 (sp 7 7 (.op 6 (.op 14 (.op 15 .done))))),(4,sp 0 36 (.op 36 .done))]
def UD:=λa b c w Q=>bB (nL a b c w Q) (zj a b c w λd w=>cond (decide (d<0)) (wA a λe=>aA (e.add 3) w.drew λf g i=>wA a λj=>aA (j.add 4) w.drew λl m n=>aH b m<|wA l λo=>af .i64 (o.add (b.toNat*1)) w.drew λp=>Ao f g i b c w.drew λq w=>w.cell? (o.add (b.toNat*1))=some (ae p)/\w.cell? (j.add 4)=some (.slice l m n)/\Q (q==p) w) (wA a λr=>aA (r.add 2) w.drew λs t u=>aH d t<|wA s λv=>af .u8 (v.add (d.toNat*1)) w.drew λx=>cond (x !=255) (wA a λy=>aA (y.add 2) w.drew λz a1 b1=>aH d a1<|wA z λc1=>af .u8 (c1.add (d.toNat*1)) w.drew λd1=>wA a λe1=>aA (e1.add 4) w.drew λf1 g1 i1=>aH d g1<|wA f1 λj1=>af .i64 (j1.add (d.toNat*1)) w.drew λl1=>wA a λm1=>aA (m1.add 4) w.drew λn1 o1 p1=>aH b o1<|wA n1 λq1=>af .i64 (q1.add (b.toNat*1)) w.drew λr1=>Q ((IntKind.wrap .i64 ((IntKind.wrap .i64 d1)+l1))==r1) w.drew) (Q false w.drew))) (ok 65) VS [] Tryz.func263
def sJ (Q:Int->WP)(a:OA)(b:Int)(w:World):Prop:=nL a b 3 w λc w=>cond c (Q 3 w) (Q 5 w)
def sK (Q:Int->WP)(a:OA)(b:Int)(w:World):Prop:=nL a b 2 w λc w=>cond c (Q 2 w) (sJ Q a b w)
def uJ (Q:Int->WP)(a:OA)(b:Int)(w:World):Prop:=nL a b 1 w λc w=>cond c (Q 1 w) (sK Q a b w)
def FD (Q):Bk 28 Tryz.f238 (uC Q) 12 [(0,.p),(1,.i .i64)] (sJ Q):=aU (ok 28) [] []
def FE (Q):Bk 28 Tryz.f238 (uC Q) 10 [(0,.p),(1,.i .i64)] (sK Q):=aU (ok 28) [] [aL (FD Q)]
def Sn (Q):Bk 28 Tryz.f238 (uC Q) 8 [(0,.p),(1,.i .i64)] (uJ Q):=aU (ok 28) [] [aL (FE Q)]
def OG:=λa b c w Q=>bB (D6 a b c w Q) (cond (c==0) (nL a b 0 w λd w=>cond d (Q 0 w) (uJ Q a b w)) (cond (c==1) (uJ Q a b w) (cond (c==2) (sK Q a b w) (cond (c==3) (sJ Q a b w) (Q 5 w))))) (ok 28) [] [aL (Sn Q),aL (FE Q),aL (FD Q)] Tryz.func238
def So:=λa b w Q=>bB (Ak a b w Q) (wA a λc=>aA (c.add 4) w λd e f=>aH b e<|wA d λg=>af .i64 (g.add (b.toNat*1)) w λi=>cond (i==1099511627776) (Q 5 w) (wA a λj=>aA (j.add 3) w λl m n=>Ao l m n b 4 w λo w=>cond (i==o) (Q 4 w) (D6 a b 0 w λp w=>Q p w))) (ok 25) [] [] Tryz.func217
def xD (Q:L3 (L3 (Int->WP)))(R7:Addr->Addr->Addr->Int->Int->WP)(a b c:Addr)(d e:Int)(w:World):Prop:=cond (decide (e<d)) (aA (c.add 1) w.drew λf g i=>Ak (some b) e w.drew λj w=>w.cell? (c.add 1)=some (.slice f g i)/\Bx [ae j] 3 w λl w=>w.cell? (c.add 1)=some (.slice f g i)/\App P #[29,29] 29 (.slice f g i) (.slice (some l) 1 1) w λm n o w=>St (c.add 1) (.slice m n o) w λw=>R7 a b c d (IntKind.wrap .i64 (e+1)) w) (aA (c.add 0) w λp q r=>aA (c.add 1) w λs t u=>St (a.add 0) (.slice p q r) w λw=>St (a.add 1) (.slice s t u) w λw=>aA (a.add 0) w λv x y=>aA (a.add 1) w λz a1 b1=>Q v x y z a1 b1 0 w)
def sM (Q:L3 (L3 (Int->WP))):Nat->Addr->Addr->Addr->Int->Int->WP
 |0,_,_,_,_,_,_=>False
 |k+1,a,b,c,d,e,w=>xD Q (sM Q k) a b c d e w
noncomputable def Lw:cA:=[(9,sp 0 4 (.op 4 (.op 5 (.op 6 (.op 7 (.op 8 .done))))))]
def abp (Q):∀k,Bk 43 Tryz.f184 (Nq Q) 7 [(4,.a),(8,.a),(9,.a),(29,.i .i64),(30,.i .i64)] (sM Q k):=bI λk h=>aU (ok 43) Lw [aL h]
def X3:=λa b c d e f g i w Q=>bB (DK a b c d e f g i w Q) (Bx [ae a,ae b,.slice c d e] 84 w λj w=>Al T 213 w λl w=>af .i64 (j.add 0) w λm=>af .i64 (j.add 1) w λn=>aA (j.add 2) w λo p q=>xu m n o p q f g i w λr s t u w=>cond (u !=0) (St (l.add 0) (.slice none 0 0) w λw=>St (l.add 1) (.slice none 0 0) w λw=>aA (l.add 0) w λv x y=>aA (l.add 1) w λz a1 b1=>Q v x y z a1 b1 u w) (af .i64 (j.add 0) w λc1=>af .i64 (j.add 1) w λd1=>aA (j.add 2) w λe1 f1 g1=>Bx [ae c1,ae d1,.slice e1 f1 g1,.slice f g i,.slice r s t] 340 w λi1 w=>Al T 213 w λj1 w=>St (j1.add 0) (.slice r s t) w λw=>St (j1.add 1) (.slice none 0 0) w λw=>∃k',sM Q k' l i1 j1 (s:Int) 0 w)) (ok 43) Lw [bY (abp Q)] Tryz.func184
def Bf (Q:L3 (L3 (Int->WP)))(a:Addr)(w:World):Prop:=St (a.add 0) (.slice none 0 0) w λw=>St (a.add 1) (.slice none 0 0) w λw=>aA (a.add 0) w λb c d=>aA (a.add 1) w λe f g=>Q b c d e f g 1 w
def pQ (Q:L3 (L3 (Int->WP)))(a:OA)(b:Int)(c:OA)(d e:Nat)(f g i:Addr)(w:World):Prop:=wA a λj=>sE (some ((j.add 2).add 2)) w λw=>af .i64 (f.add 0) w λl=>af .i64 (f.add 1) w λm=>aA (f.add 2) w λn o p=>DK l m n o p c d e w λq r s t u v x w=>Al T 213 w λy w=>St (y.add 0) (.slice q r s) w λw=>St (y.add 1) (.slice t u v) w λw=>aA (y.add 0) w.drew λz a1 b1=>aA (y.add 1) w.drew λc1 d1 e1=>jn c d e w.drew λf1 g1 i1 w=>w.cell? (y.add 0)=some (.slice z a1 b1)/\w.cell? (y.add 1)=some (.slice c1 d1 e1)/\St (i.add 0) (ae b) w λw=>St (i.add 1) (.slice f1 g1 i1) w λw=>St (i.add 2) (.slice z a1 b1) w λw=>St (i.add 3) (.slice c1 d1 e1) w λw=>aA (y.add 0) w λj1 l1 m1=>aA (y.add 1) w λn1 o1 p1=>Br j1 l1 m1 n1 o1 p1 w λq1 r1 s1 t1 u1 v1 w=>St (g.add 0) (.slice q1 r1 s1) w λw=>St (g.add 1) (.slice t1 u1 v1) w λw=>aA (g.add 0) w λx1 y1 z1=>aA (g.add 1) w λa2 b2 c2=>Q x1 y1 z1 a2 b2 c2 0 w
def pR (Q:L3 (L3 (Int->WP)))(a:OA)(b:Int)(c:OA)(d e:Nat)(f g:Addr)(i:Bool)(j:Addr)(w:World):Prop:=cond i (wA a λl=>sE (some ((l.add 2).add 5)) w λw=>pQ Q a b c d e f g j w) (pQ Q a b c d e f g j w)
def jt (Q:L3 (L3 (Int->WP)))(a:OA)(b:Int)(c:OA)(d e:Nat)(f g:Addr)(i j:Bool)(l:Addr)(w:World):Prop:=cond i (wA a λm=>sE (some ((m.add 2).add 4)) w λw=>pR Q a b c d e f g j l w) (pR Q a b c d e f g j l w)
def qV (Q:L3 (L3 (Int->WP)))(a:OA)(b:Int)(c:OA)(d e:Nat)(f g:Addr)(i:Int)(j l:Bool)(w:World):Prop:=wA a λm=>aA (m.add 1) w λn o p=>aH i o<|wA n λq=>cond j (af .i64 (q.add (i.toNat*4)) w λr=>cond (r==b) (aA ((q.add (i.toNat*4)).add 1) w λs t u=>EY s t u c d e w λv w=>cond v (wA a λx=>sE (some ((x.add 2).add 3)) w λw=>aA (((q.add (i.toNat*4)).add 2).add 0) w λy z a1=>aA (((q.add (i.toNat*4)).add 2).add 1) w λb1 c1 d1=>Br y z a1 b1 c1 d1 w λe1 f1 g1 i1 j1 l1 w=>St (g.add 0) (.slice e1 f1 g1) w λw=>St (g.add 1) (.slice i1 j1 l1) w λw=>aA (g.add 0) w λm1 n1 o1=>aA (g.add 1) w λp1 q1 r1=>Q m1 n1 o1 p1 q1 r1 0 w) (jt Q a b c d e f g j l (q.add (i.toNat*4)) w)) (jt Q a b c d e f g j l (q.add (i.toNat*4)) w)) (jt Q a b c d e f g j l (q.add (i.toNat*4)) w)
noncomputable def mY:cA:=[(16,sp 0 3 (.op 4 (.op 3 (sp 5 2 (.op 7 .done)))))]
def UE (Q):Bk 122 Tryz.f164 (nK Q) 2 [(12,.a)] (Bf Q):=aU (ok 122) mY []
def Sp (Q):Bk 122 Tryz.f164 (nK Q) 14 [(0,.p),(3,.i .i64),(5,.l),(10,.a),(12,.a),(17,.a)] (pQ Q):=aU (ok 122) mY []
def Sq (Q):Bk 122 Tryz.f164 (nK Q) 12 [(0,.p),(3,.i .i64),(5,.l),(10,.a),(12,.a),(16,.b),(17,.a)] (pR Q):=aU (ok 122) mY [aL (Sp Q)]
def Sr (Q):Bk 122 Tryz.f164 (nK Q) 10 [(0,.p),(3,.i .i64),(5,.l),(10,.a),(12,.a),(15,.b),(16,.b),(17,.a)] (jt Q):=aU (ok 122) mY [aL (Sq Q)]
def UF (Q):Bk 122 Tryz.f164 (nK Q) 6 [(0,.p),(3,.i .i64),(5,.l),(10,.a),(12,.a),(14,.i .i64),(15,.b),(16,.b)] (qV Q):=aU (ok 122) mY [aL (Sr Q)]
def Qt:=λa b c d e f g i j l m n w Q=>bB (ox a b c d e f g i j l m n w Q) (Bx [ae e,ae f,.slice g i j] 84 w λo w=>Al T 213 w λp w=>cond a.isNone (Bf Q p w) (af .i64 (o.add 0) w λq=>af .i64 (o.add 1) w λr=>aA (o.add 2) w λs t u=>Bq q r s t u l m n w λv w=>cond (!v) (Bf Q p w) (wA a λx=>bg x w λy=>DJ y b c w λz a1 b1 w=>wA a λc1=>aA (c1.add 1) w λd1 e1 f1=>cond (z==(e1:Int)) (wA a λg1=>aA (g1.add 1) w λi1 j1 l1=>Bx [ae 0,.slice none 0 0,.slice none 0 0,.slice none 0 0] 303 w λm1 w=>App P #[133,133] 133 (.slice i1 j1 l1) (.slice (some m1) 1 1) w λn1 o1 p1 w=>wA a λq1=>St (q1.add 1) (.slice n1 o1 p1) w λw=>qV Q a d l m n o p z a1 b1 w) (qV Q a d l m n o p z a1 b1 w)))) (ok 122) mY [aL (UE Q),aL (UF Q)] Tryz.func164
def yJ (Q:L3 (L3 (Value->WP)))(a:Int)(b:Addr)(w:World):Prop:=bZ (aZ 2) w.drew λc=>dV c λd=>(Bx [ae a,d] 275 w.drew λe w=>St (b.add 0) (.slice none 0 0) w λw=>St (b.add 1) (.slice none 0 0) w λw=>w.cell? (aZ 2)=some c/\aA (b.add 0) w λf g i=>aA (b.add 1) w λj l m=>Q f g i j l m (.iface 273 (.pointer (some e))) w)/\(St (b.add 0) (.slice none 0 0) w.drew λw=>St (b.add 1) (.slice none 0 0) w λw=>w.cell? (aZ 2)=some c/\Bx [ae a,d] 275 w λn w=>aA (b.add 0) w λo p q=>aA (b.add 1) w λr s t=>Q o p q r s t (.iface 273 (.pointer (some n))) w)
def tN (Q:L3 (L3 (Value->WP)))(a:Int)(b:Addr)(w:World):Prop:=bZ (aZ 3) w.drew λc=>dV c λd=>(Bx [ae a,d] 275 w.drew λe w=>St (b.add 0) (.slice none 0 0) w λw=>St (b.add 1) (.slice none 0 0) w λw=>w.cell? (aZ 3)=some c/\aA (b.add 0) w λf g i=>aA (b.add 1) w λj l m=>Q f g i j l m (.iface 273 (.pointer (some e))) w)/\(St (b.add 0) (.slice none 0 0) w.drew λw=>St (b.add 1) (.slice none 0 0) w λw=>w.cell? (aZ 3)=some c/\Bx [ae a,d] 275 w λn w=>aA (b.add 0) w λo p q=>aA (b.add 1) w λr s t=>Q o p q r s t (.iface 273 (.pointer (some n))) w)
def jL (Q:L3 (L3 (Value->WP)))(a:Int)(b c:Addr)(d:Int)(w:World):Prop:=cond (d !=0) (bZ (aZ 4) w.drew λe=>dV e λf=>(Bx [ae a,f] 275 w.drew λg w=>St (b.add 0) (.slice none 0 0) w λw=>St (b.add 1) (.slice none 0 0) w λw=>w.cell? (aZ 4)=some e/\aA (b.add 0) w λi j l=>aA (b.add 1) w λm n o=>Q i j l m n o (.iface 273 (.pointer (some g))) w)/\(St (b.add 0) (.slice none 0 0) w.drew λw=>St (b.add 1) (.slice none 0 0) w λw=>w.cell? (aZ 4)=some e/\Bx [ae a,f] 275 w λp w=>aA (b.add 0) w λq r s=>aA (b.add 1) w λt u v=>Q q r s t u v (.iface 273 (.pointer (some p))) w)) (aA (c.add 0) w λx y z=>aA (c.add 1) w λa1 b1 c1=>St (b.add 0) (.slice x y z) w λw=>St (b.add 1) (.slice a1 b1 c1) w λw=>aA (b.add 0) w λd1 e1 f1=>aA (b.add 1) w λg1 i1 j1=>Q d1 e1 f1 g1 i1 j1 (.nilIface) w)
noncomputable def xE:cA:=[(2,sp 0 4 (.br (.op 4 (.op 5 (.op 6 (.op 7 .done)))) (.op 6 (.op 4 (.op 5 (.op 7 .done)))))),(5,sp 0 4 (.br (.op 4 (.op 5 (.op 6 (.op 7 .done)))) (.op 6 (.op 4 (.op 5 (.op 7 .done)))))),(6,sp 0 9 (.op 10 (.op 9 (.op 11 (.op 12 .done))))),(7,sp 0 11 (sp 12 2 (.br (.op 11 (.br (.op 14 (sp 15 3 (.op 18 (.op 19 (.op 20 .done))))) (.op 18 (.op 14 (sp 15 3 (.op 19 (.op 20 .done))))))) (.op 18 (.op 11 (.op 14 (sp 15 3 (.op 19 (.op 20 .done))))))))),(9,sp 0 4 (.br (.op 4 (.op 5 (.op 6 (.op 7 .done)))) (.op 6 (.op 4 (.op 5 (.op 7 .done))))))]
def X4 (Q):Bk 93 Tryz.f150 (yE Q) 2 [(1,.i .i64),(6,.a)] (yJ Q):=aU (ok 93) xE []
def X5 (Q):Bk 93 Tryz.f150 (yE Q) 5 [(1,.i .i64),(6,.a)] (tN Q):=aU (ok 93) xE []
def X6 (Q):Bk 93 Tryz.f150 (yE Q) 8 [(1,.i .i64),(6,.a),(11,.a),(12,.i .i64)] (jL Q):=aU (ok 93) xE []
def UG:=λa b c w Q=>bB (vT a b c w Q) (Al T 213 w λd w=>cond a.isNone (yJ Q b d w) (wA a λe=>bg e w λf=>cond f.isNone (yJ Q b d w) (wA a λg=>bg g w λi=>uu i c w λj l m n o p w=>Al T 84 w λq w=>St (q.add 0) (ae j) w λw=>St (q.add 1) (ae l) w λw=>St (q.add 2) (.slice m n o) w λw=>wA a λr=>bg r w λs=>fg s b w λt w=>cond (t==0) (tN Q b d w) (cond (!p) (tN Q b d w) (wA a λu=>bg u w.drew λv=>wA a λx=>bg (x.add 2) w.drew λy=>wK y b w.drew λz w=>w.cell? u=some (.pointer v)/\B7 v z c w λa1 b1 c1 w=>wA a λd1=>bg (d1.add 3) w.drew λe1=>wA a λf1=>bg f1 w.drew λg1=>af .i64 (q.add 0) w.drew λi1=>af .i64 (q.add 1) w.drew λj1=>aA (q.add 2) w.drew λl1 m1 n1=>(jc g1 c w.drew λo1 w=>w.cell? (q.add 0)=some (ae i1)/\w.cell? (q.add 1)=some (ae j1)/\w.cell? (q.add 2)=some (.slice l1 m1 n1)/\w.cell? (d1.add 3)=some (.pointer e1)/\(ox e1 b c o1 i1 j1 l1 m1 n1 a1 b1 c1 w λp1 q1 r1 s1 t1 u1 v1 w=>Al T 213 w λx1 w=>w.cell? (q.add 0)=some (ae i1)/\w.cell? (q.add 1)=some (ae j1)/\w.cell? (q.add 2)=some (.slice l1 m1 n1)/\w.cell? f1=some (.pointer g1)/\w.cell? (d1.add 3)=some (.pointer e1)/\St (x1.add 0) (.slice p1 q1 r1) w λw=>St (x1.add 1) (.slice s1 t1 u1) w λw=>jL Q b d x1 v1 w)/\(Al T 213 w λy1 w=>w.cell? (q.add 0)=some (ae i1)/\w.cell? (q.add 1)=some (ae j1)/\w.cell? (q.add 2)=some (.slice l1 m1 n1)/\w.cell? f1=some (.pointer g1)/\w.cell? (d1.add 3)=some (.pointer e1)/\ox e1 b c o1 i1 j1 l1 m1 n1 a1 b1 c1 w λz1 a2 b2 c2 d2 e2 f2 w=>St (y1.add 0) (.slice z1 a2 b2) w λw=>St (y1.add 1) (.slice c2 d2 e2) w λw=>jL Q b d y1 f2 w))/\(Al T 213 w.drew λg2 w=>w.cell? (q.add 0)=some (ae i1)/\w.cell? (q.add 1)=some (ae j1)/\w.cell? (q.add 2)=some (.slice l1 m1 n1)/\w.cell? f1=some (.pointer g1)/\w.cell? (d1.add 3)=some (.pointer e1)/\jc g1 c w λi2 w=>w.cell? (q.add 0)=some (ae i1)/\w.cell? (q.add 1)=some (ae j1)/\w.cell? (q.add 2)=some (.slice l1 m1 n1)/\w.cell? (d1.add 3)=some (.pointer e1)/\ox e1 b c i2 i1 j1 l1 m1 n1 a1 b1 c1 w λj2 l2 m2 n2 o2 p2 q2 w=>St (g2.add 0) (.slice j2 l2 m2) w λw=>St (g2.add 1) (.slice n2 o2 p2) w λw=>jL Q b d g2 q2 w)))))) (ok 93) xE [aL (X4 Q),aL (X5 Q),aL (X6 Q)] Tryz.func150
end Go.Proofs.YtmegplnmiepfbaaGreatDoor.S
