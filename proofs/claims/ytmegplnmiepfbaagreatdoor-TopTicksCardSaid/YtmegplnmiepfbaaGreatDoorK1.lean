/- Part 2 of the proof. -/
import Derived.Test.YtmegplnmiepfbaaGreatDoorK0
import Derived.Test.YtmegplnmiepfbaaGreatDoorProg
set_option linter.unusedVariables false
set_option linter.unusedSimpArgs false
set_option linter.defProp false
set_option maxRecDepth 100000
namespace Go.Proofs.YtmegplnmiepfbaaGreatDoor.S
open Go.Sx
noncomputable abbrev P:Program:=Go.Proofs.Tryz.prog
noncomputable def rows:List (Nat×TI):=[(0,⟨.vk [],1,0,[.tuple #[]],[]⟩),
 (2,⟨.int .i64,1,8,[.int .i64 0],[.int .i64]⟩),
 (3,⟨.int .i64,1,8,[.int .i64 0],[.int .i64]⟩),
 (4,⟨.bool,1,1,[.bool false],[.bool]⟩),
 (5,⟨.int .u8,1,1,[.int .u8 0],[.int .u8]⟩),
 (9,⟨.str,1,16,[.string .empty],[.str]⟩),
 (17,⟨.ptr,1,8,[.pointer none],[.ptr]⟩),
 (20,⟨.iface,1,16,[.nilIface],[.any]⟩),
 (21,⟨.int .i32,1,4,[.int .i32 0],[.int .i32]⟩),
 (22,⟨.slice 5,1,24,[.slice none 0 0],[.sl]⟩),
 (25,⟨.struct [(0,3),(1,3),(2,22)],3,40,[.int .i64 0,.int .i64 0,.slice none 0 0],[.int .i64,.int .i64,.sl]⟩),
 (26,⟨.ptr,1,8,[.pointer none],[.ptr]⟩),
 (28,⟨.slice 51,1,24,[.slice none 0 0],[.sl]⟩),
 (29,⟨.slice 3,1,24,[.slice none 0 0],[.sl]⟩),
 (30,⟨.int .u64,1,8,[.int .u64 0],[.int .u64]⟩),
 (32,⟨.struct [(0,30),(1,30),(2,30),(3,30),(4,30),(5,30)],6,48,[.int .u64 0,.int .u64 0,.int .u64 0,.int .u64 0,.int .u64 0,.int .u64 0],[.int .u64,.int .u64,.int .u64,.int .u64,.int .u64,.int .u64]⟩),
 (34,⟨.struct [(0,3),(1,3),(2,3),(3,3),(4,28),(5,29),(6,32)],12,128,[.int .i64 0,.int .i64 0,.int .i64 0,.int .i64 0,.slice none 0 0,.slice none 0 0,.int .u64 0,.int .u64 0,.int .u64 0,.int .u64 0,.int .u64 0,.int .u64 0],[.int .i64,.int .i64,.int .i64,.int .i64,.sl,.sl,.int .u64,.int .u64,.int .u64,.int .u64,.int .u64,.int .u64]⟩),
 (38,⟨.struct [(0,3),(1,3),(2,3),(3,22)],4,48,[.int .i64 0,.int .i64 0,.int .i64 0,.slice none 0 0],[.int .i64,.int .i64,.int .i64,.sl]⟩),
 (39,⟨.slice 43,1,24,[.slice none 0 0],[.sl]⟩),
 (43,⟨.struct [(0,3),(1,3),(2,3)],3,24,[.int .i64 0,.int .i64 0,.int .i64 0],[.int .i64,.int .i64,.int .i64]⟩),
 (45,⟨.slice 90,1,24,[.slice none 0 0],[.sl]⟩),
 (46,⟨.slice 38,1,24,[.slice none 0 0],[.sl]⟩),
 (49,⟨.slice 4,1,24,[.slice none 0 0],[.sl]⟩),
 (51,⟨.struct [(0,3),(1,3)],2,16,[.int .i64 0,.int .i64 0],[.int .i64,.int .i64]⟩),
 (55,⟨.vk [3,3,4],1,0,[.tuple #[.int .i64 0,.int .i64 0,.bool false]],[]⟩),
 (64,⟨.slice 34,1,24,[.slice none 0 0],[.sl]⟩),
 (68,⟨.ptr,1,8,[.pointer none],[.ptr]⟩),
 (70,⟨.ptr,1,8,[.pointer none],[.ptr]⟩),
 (72,⟨.struct [(0,3),(1,68),(2,70)],3,24,[.int .i64 0,.pointer none,.pointer none],[.int .i64,.ptr,.ptr]⟩),
 (74,⟨.iface,1,16,[.nilIface],[.any]⟩),
 (76,⟨.ptr,1,8,[.pointer none],[.ptr]⟩),
 (78,⟨.ptr,1,8,[.pointer none],[.ptr]⟩),
 (80,⟨.struct [(0,3),(1,74)],2,24,[.int .i64 0,.nilIface],[.int .i64,.any]⟩),
 (81,⟨.int .u64,1,8,[.int .u64 0],[.int .u64]⟩),
 (82,⟨.vk [3,22],1,0,[.tuple #[.int .i64 0,.slice none 0 0]],[]⟩),
 (84,⟨.struct [(0,3),(1,3),(2,22)],3,40,[.int .i64 0,.int .i64 0,.slice none 0 0],[.int .i64,.int .i64,.sl]⟩),
 (90,⟨.struct [(0,3),(1,3),(2,3)],3,24,[.int .i64 0,.int .i64 0,.int .i64 0],[.int .i64,.int .i64,.int .i64]⟩),
 (95,⟨.vk [3,3],1,0,[.tuple #[.int .i64 0,.int .i64 0]],[]⟩),
 (100,⟨.ptr,1,8,[.pointer none],[.ptr]⟩),
 (102,⟨.ptr,1,8,[.pointer none],[.ptr]⟩),
 (103,⟨.ptr,1,8,[.pointer none],[.ptr]⟩),
 (104,⟨.ptr,1,8,[.pointer none],[.ptr]⟩),
 (106,⟨.struct [(0,102),(1,103),(2,104),(3,100),(4,32)],10,80,[.pointer none,.pointer none,.pointer none,.pointer none,.int .u64 0,.int .u64 0,.int .u64 0,.int .u64 0,.int .u64 0,.int .u64 0],[.ptr,.ptr,.ptr,.ptr,.int .u64,.int .u64,.int .u64,.int .u64,.int .u64,.int .u64]⟩),
 (108,⟨.int .i64,1,8,[.int .i64 0],[.int .i64]⟩),
 (112,⟨.vk [3,74],1,0,[.tuple #[.int .i64 0,.nilIface]],[]⟩),
 (120,⟨.ptr,1,8,[.pointer none],[.ptr]⟩),
 (122,⟨.ptr,1,8,[.pointer none],[.ptr]⟩),
 (123,⟨.ptr,1,8,[.pointer none],[.ptr]⟩),
 (125,⟨.struct [(0,3),(1,3),(2,3),(3,122),(4,123)],5,40,[.int .i64 0,.int .i64 0,.int .i64 0,.pointer none,.pointer none],[.int .i64,.int .i64,.int .i64,.ptr,.ptr]⟩),
 (131,⟨.ptr,1,8,[.pointer none],[.ptr]⟩),
 (133,⟨.slice 303,1,24,[.slice none 0 0],[.sl]⟩),
 (135,⟨.struct [(0,131),(1,133),(2,32)],8,80,[.pointer none,.slice none 0 0,.int .u64 0,.int .u64 0,.int .u64 0,.int .u64 0,.int .u64 0,.int .u64 0],[.ptr,.sl,.int .u64,.int .u64,.int .u64,.int .u64,.int .u64,.int .u64]⟩),
 (137,⟨.struct [(0,3),(1,3),(2,4)],3,24,[.int .i64 0,.int .i64 0,.bool false],[.int .i64,.int .i64,.bool]⟩),
 (138,⟨.vk [137,4],1,0,[.tuple #[.agg #[.int .i64 0,.int .i64 0,.bool false],.bool false]],[]⟩),
 (140,⟨.vk [25,3],1,0,[.tuple #[.agg #[.int .i64 0,.int .i64 0,.slice none 0 0],.int .i64 0]],[]⟩),
 (144,⟨.vk [43,4],1,0,[.tuple #[.agg #[.int .i64 0,.int .i64 0,.int .i64 0],.bool false]],[]⟩),
 (146,⟨.func,1,8,[.nilFunc],[.any]⟩),
 (148,⟨.vk [3,3,3],1,0,[.tuple #[.int .i64 0,.int .i64 0,.int .i64 0]],[]⟩),
 (150,⟨.vk [29,74],1,0,[.tuple #[.slice none 0 0,.nilIface]],[]⟩),
 (152,⟨.vk [28,29,3],1,0,[.tuple #[.slice none 0 0,.slice none 0 0,.int .i64 0]],[]⟩),
 (155,⟨.iface,1,16,[.nilIface],[.any]⟩),
 (158,⟨.other,1,8,[.pointer none],[.ptr]⟩),
 (159,⟨.int .u64,1,8,[.int .u64 0],[.int .u64]⟩),
 (161,⟨.struct [(0,17),(1,158),(2,159)],3,24,[.pointer none,.pointer none,.int .u64 0],[.ptr,.ptr,.int .u64]⟩),
 (164,⟨.int .u8,1,1,[.int .u8 0],[.int .u8]⟩),
 (169,⟨.map,1,8,[.map none],[.map]⟩),
 (171,⟨.struct [(0,3),(1,3),(2,169),(3,29)],4,48,[.int .i64 0,.int .i64 0,.map none,.slice none 0 0],[.int .i64,.int .i64,.map,.sl]⟩),
 (172,⟨.slice 2,1,24,[.slice none 0 0],[.sl]⟩),
 (174,⟨.struct [(0,25),(3,2),(4,172)],5,72,[.int .i64 0,.int .i64 0,.slice none 0 0,.int .i64 0,.slice none 0 0],[.int .i64,.int .i64,.sl,.int .i64,.sl]⟩),
 (175,⟨.arr 6 30,6,48,[.int .u64 0,.int .u64 0,.int .u64 0,.int .u64 0,.int .u64 0,.int .u64 0],[.int .u64,.int .u64,.int .u64,.int .u64,.int .u64,.int .u64]⟩),
 (179,⟨.slice 334,1,24,[.slice none 0 0],[.sl]⟩),
 (180,⟨.map,1,8,[.map none],[.map]⟩),
 (182,⟨.struct [(0,3),(1,179),(2,180),(3,3),(4,3)],5,56,[.int .i64 0,.slice none 0 0,.map none,.int .i64 0,.int .i64 0],[.int .i64,.sl,.map,.int .i64,.int .i64]⟩),
 (183,⟨.vk [38,3],1,0,[.tuple #[.agg #[.int .i64 0,.int .i64 0,.int .i64 0,.slice none 0 0],.int .i64 0]],[]⟩),
 (185,⟨.vk [25,74],1,0,[.tuple #[.agg #[.int .i64 0,.int .i64 0,.slice none 0 0],.nilIface]],[]⟩),
 (187,⟨.int .i64,1,8,[.int .i64 0],[.int .i64]⟩),
 (188,⟨.ptr,1,8,[.pointer none],[.ptr]⟩),
 (195,⟨.ptr,1,8,[.pointer none],[.ptr]⟩),
 (197,⟨.struct [(0,103),(1,102),(2,195),(3,30)],4,32,[.pointer none,.pointer none,.pointer none,.int .u64 0],[.ptr,.ptr,.ptr,.int .u64]⟩),
 (198,⟨.vk [3,4],1,0,[.tuple #[.int .i64 0,.bool false]],[]⟩),
 (202,⟨.ptr,1,8,[.pointer none],[.ptr]⟩),
 (203,⟨.func,1,8,[.nilFunc],[.any]⟩),
 (204,⟨.vk [3,3,74],1,0,[.tuple #[.int .i64 0,.int .i64 0,.nilIface]],[]⟩),
 (207,⟨.map,1,8,[.map none],[.map]⟩),
 (208,⟨.slice 211,1,24,[.slice none 0 0],[.sl]⟩),
 (211,⟨.struct [(0,3),(1,3),(2,29)],3,40,[.int .i64 0,.int .i64 0,.slice none 0 0],[.int .i64,.int .i64,.sl]⟩),
 (213,⟨.struct [(0,29),(1,29)],2,48,[.slice none 0 0,.slice none 0 0],[.sl,.sl]⟩),
 (214,⟨.vk [213,3],1,0,[.tuple #[.agg #[.slice none 0 0,.slice none 0 0],.int .i64 0]],[]⟩),
 (216,⟨.vk [39,28,29,3],1,0,[.tuple #[.slice none 0 0,.slice none 0 0,.slice none 0 0,.int .i64 0]],[]⟩),
 (221,⟨.iface,1,16,[.nilIface],[.any]⟩),
 (224,⟨.iface,1,16,[.nilIface],[.any]⟩),
 (226,⟨.iface,1,16,[.nilIface],[.any]⟩),
 (227,⟨.slice 74,1,24,[.slice none 0 0],[.sl]⟩),
 (231,⟨.iface,1,16,[.nilIface],[.any]⟩),
 (234,⟨.slice 319,1,24,[.slice none 0 0],[.sl]⟩),
 (236,⟨.struct [(0,102),(1,234),(2,2),(3,30)],4,48,[.pointer none,.slice none 0 0,.int .i64 0,.int .u64 0],[.ptr,.sl,.int .i64,.int .u64]⟩),
 (238,⟨.vk [84,3,3],1,0,[.tuple #[.agg #[.int .i64 0,.int .i64 0,.slice none 0 0],.int .i64 0,.int .i64 0]],[]⟩),
 (240,⟨.ptr,1,8,[.pointer none],[.ptr]⟩),
 (242,⟨.struct [(0,3),(1,74)],2,24,[.int .i64 0,.nilIface],[.int .i64,.any]⟩),
 (245,⟨.slice 248,1,24,[.slice none 0 0],[.sl]⟩),
 (247,⟨.struct [(0,245),(1,3)],2,32,[.slice none 0 0,.int .i64 0],[.sl,.int .i64]⟩),
 (248,⟨.int .u32,1,4,[.int .u32 0],[.int .u32]⟩),
 (249,⟨.vk [213,74],1,0,[.tuple #[.agg #[.slice none 0 0,.slice none 0 0],.nilIface]],[]⟩),
 (253,⟨.arr 2 3,2,16,[.int .i64 0,.int .i64 0],[.int .i64,.int .i64]⟩),
 (257,⟨.ptr,1,8,[.pointer none],[.ptr]⟩),
 (258,⟨.map,1,8,[.map none],[.map]⟩),
 (260,⟨.struct [(0,3),(1,3),(2,258),(3,28),(4,29)],5,72,[.int .i64 0,.int .i64 0,.map none,.slice none 0 0,.slice none 0 0],[.int .i64,.int .i64,.map,.sl,.sl]⟩),
 (263,⟨.ptr,1,8,[.pointer none],[.ptr]⟩),
 (265,⟨.struct [(0,22),(1,3)],2,32,[.slice none 0 0,.int .i64 0],[.sl,.int .i64]⟩),
 (266,⟨.vk [84,74],1,0,[.tuple #[.agg #[.int .i64 0,.int .i64 0,.slice none 0 0],.nilIface]],[]⟩),
 (268,⟨.ptr,1,8,[.pointer none],[.ptr]⟩),
 (269,⟨.ptr,1,8,[.pointer none],[.ptr]⟩),
 (271,⟨.struct [(0,3),(1,3),(2,74)],3,32,[.int .i64 0,.int .i64 0,.nilIface],[.int .i64,.int .i64,.any]⟩),
 (273,⟨.ptr,1,8,[.pointer none],[.ptr]⟩),
 (275,⟨.struct [(0,3),(1,74)],2,24,[.int .i64 0,.nilIface],[.int .i64,.any]⟩),
 (276,⟨.vk [84,4],1,0,[.tuple #[.agg #[.int .i64 0,.int .i64 0,.slice none 0 0],.bool false]],[]⟩),
 (278,⟨.slice 294,1,24,[.slice none 0 0],[.sl]⟩),
 (284,⟨.vk [22,74],1,0,[.tuple #[.slice none 0 0,.nilIface]],[]⟩),
 (286,⟨.vk [22,3],1,0,[.tuple #[.slice none 0 0,.int .i64 0]],[]⟩),
 (289,⟨.slice 292,1,24,[.slice none 0 0],[.sl]⟩),
 (292,⟨.struct [(0,3),(1,3)],2,16,[.int .i64 0,.int .i64 0],[.int .i64,.int .i64]⟩),
 (294,⟨.struct [(0,3),(1,3),(2,3)],3,24,[.int .i64 0,.int .i64 0,.int .i64 0],[.int .i64,.int .i64,.int .i64]⟩),
 (296,⟨.slice 21,1,24,[.slice none 0 0],[.sl]⟩),
 (298,⟨.struct [(0,3),(1,2),(2,296)],3,40,[.int .i64 0,.int .i64 0,.slice none 0 0],[.int .i64,.int .i64,.sl]⟩),
 (300,⟨.vk [3,4,4],1,0,[.tuple #[.int .i64 0,.bool false,.bool false]],[]⟩),
 (303,⟨.struct [(0,2),(1,278),(2,213)],4,80,[.int .i64 0,.slice none 0 0,.slice none 0 0,.slice none 0 0],[.int .i64,.sl,.sl,.sl]⟩),
 (307,⟨.ptr,1,8,[.pointer none],[.ptr]⟩),
 (314,⟨.arr 4 3,4,32,[.int .i64 0,.int .i64 0,.int .i64 0,.int .i64 0],[.int .i64,.int .i64,.int .i64,.int .i64]⟩),
 (317,⟨.func,1,8,[.nilFunc],[.any]⟩),
 (319,⟨.struct [(0,2),(1,29),(2,296)],3,56,[.int .i64 0,.slice none 0 0,.slice none 0 0],[.int .i64,.sl,.sl]⟩),
 (322,⟨.ptr,1,8,[.pointer none],[.ptr]⟩),
 (331,⟨.func,1,8,[.nilFunc],[.any]⟩),
 (334,⟨.struct [(0,253),(2,3),(3,3)],4,32,[.int .i64 0,.int .i64 0,.int .i64 0,.int .i64 0],[.int .i64,.int .i64,.int .i64,.int .i64]⟩),
 (336,⟨.vk [29,3],1,0,[.tuple #[.slice none 0 0,.int .i64 0]],[]⟩),
 (338,⟨.ptr,1,8,[.pointer none],[.ptr]⟩),
 (340,⟨.struct [(0,84),(3,278),(4,29)],5,88,[.int .i64 0,.int .i64 0,.slice none 0 0,.slice none 0 0,.slice none 0 0],[.int .i64,.int .i64,.sl,.sl,.sl]⟩),
 (341,⟨.vk [81,81],1,0,[.tuple #[.int .u64 0,.int .u64 0]],[]⟩),
 (349,⟨.slice 353,1,24,[.slice none 0 0],[.sl]⟩),
 (351,⟨.struct [(0,349)],1,24,[.slice none 0 0],[.sl]⟩),
 (353,⟨.struct [(0,3),(1,3)],2,16,[.int .i64 0,.int .i64 0],[.int .i64,.int .i64]⟩),
 (354,⟨.ptr,1,8,[.pointer none],[.ptr]⟩),
 (355,⟨.vk [354,3,4],1,0,[.tuple #[.pointer none,.int .i64 0,.bool false]],[]⟩),
 (358,⟨.ptr,1,8,[.pointer none],[.ptr]⟩),
 (359,⟨.ptr,1,8,[.pointer none],[.ptr]⟩),
 (363,⟨.struct [(0,84),(3,359),(4,278),(5,29)],6,96,[.int .i64 0,.int .i64 0,.slice none 0 0,.pointer none,.slice none 0 0,.slice none 0 0],[.int .i64,.int .i64,.sl,.ptr,.sl,.sl]⟩),
 (367,⟨.vk [30,30],1,0,[.tuple #[.int .u64 0,.int .u64 0]],[]⟩),
 (370,⟨.func,1,8,[.nilFunc],[.any]⟩),
 (372,⟨.int .i64,1,8,[.int .i64 0],[.int .i64]⟩),
 (373,⟨.vk [3,372],1,0,[.tuple #[.int .i64 0,.int .i64 0]],[]⟩),
 (385,⟨.struct [(0,29),(1,3)],2,32,[.slice none 0 0,.int .i64 0],[.sl,.int .i64]⟩),
 (386,⟨.arr 256 385,512,8192,([]++(List.replicate 256 [.slice none 0 0,.int .i64 0]).flatten),([]++(List.replicate 256 [.sl,.int .i64]).flatten)⟩),
 (388,⟨.struct [(0,3),(1,3),(2,386)],514,8208,([.int .i64 0,.int .i64 0]++(List.replicate 256 [.slice none 0 0,.int .i64 0]).flatten),([.int .i64,.int .i64]++(List.replicate 256 [.sl,.int .i64]).flatten)⟩),
 (390,⟨.int .u64,1,8,[.int .u64 0],[.int .u64]⟩),
 (393,⟨.ptr,1,8,[.pointer none],[.ptr]⟩),
 (397,⟨.ptr,1,8,[.pointer none],[.ptr]⟩),
 (400,⟨.ptr,1,8,[.pointer none],[.ptr]⟩)]
noncomputable def T:uY:=abj rows
noncomputable def fns:List Nat:=[3,4,5,6,7,8,9,10,11,12,13,14,15,16,17,18,19,20,21,22,23,24,25,26,27,28,29,30,31,32,33,34,35,36,37,38,39,40,41,42,43,44,45,46,47,48,49,50,51,52,53,54,55,56,57,58,59,60,61,62,63,64,65,66,67,68,69,70,71,72,73,74,75,76,77,78,79,80,81,82,83,84,85,86,87,88,89,90,91,92,93,94,96,100,101,102,103,104,105,106,107,108,109,110,111,112,113,114,115,116,117,118,119,120,121,122,123,124,125,126,127,128,129,130,131,132,133,134,135,136,137,140,141,142,143,144,145,146,147,148,149,150,151,152,153,154,155,156,157,158,159,160,161,162,163,164,165,166,167,168,169,170,171,172,173,174,175,176,177,178,179,180,181,182,183,184,185,186,187,188,189,190,191,192,193,194,195,196,197,198,199,200,201,202,203,204,205,206,207,208,209,210,211,212,213,214,215,216,217,218,220,221,222,223,224,225,226,227,228,229,230,231,232,233,234,235,236,237,238,240,241,242,243,244,245,246,247,248,249,250,252,253,254,255,256,257,258,259,260,261,262,263,264,265,266,267,268,269,270,271,272,273,274,275,276,277,278,279,280,281,282,302,321,323,325]
noncomputable def cx (n:Nat):Cx:=⟨P,T,λf=>pz f fns,n⟩
def Ic:rows.map (λp=>Vh P p.1)=rows.map (λp=>some (p.2.d,p.2.size,p.2.bytes,p.2.zero)):=by kernel_rfl
def au1:al0 P fns=true:=by kernel_rfl
def aqN:P.follows .mixedOrders=true:=by kernel_rfl
def ok (n:Nat):m7 (cx n):=atu Ic au1 aqN n
abbrev Bk (n:Nat)(fn:Func)(K:Value->World->Prop)(j:Nat)(l:List (Nat×Kd))(B:KP l):Prop:=ZH (cx n) fn (aik (cx n) fn K) j l B
def bZ:=bF (.o .b)
def A6:=λb c d e f g i j l w (Q:Bool->WP)=>aq P 8 #[ae b,ae c,.slice d e f,.slice g i j,ae l] w (bZ Q)
def MU:=bF (.o (.i .i64))
def a_:=λb c d w (Q:Int->WP)=>aq P 10 #[ae b,ae c,ae d] w (MU Q)
def akn:=bF (.o .p)
def EU:=λb c w (Q:OA->WP)=>aq P 11 #[ae b,ae c] w (akn Q)
def Ji:=bF (.g [.i .i64,.i .i64,.i .i64,.i .i64,.l,.l,.i .u64,.i .u64,.i .u64,.i .u64,.i .u64,.i .u64])
def gC:=λb c d e f g i w (Q:Int->Int->Int->Int->L3 (L3 (Int->Int->Int->Int->Int->Int->WP)))=>aq P 12 #[.pointer b,.agg #[ae c,ae d,ae e,.slice f g i]] w (Ji Q)
def DH:=bF (.o .l)
def lR:=λb c d e f w (Q:L3 WP)=>aq P 13 #[.agg #[ae b,ae c,.slice d e f]] w (DH Q)
def PN:=bF (.o .l)
def je:=λb w (Q:L3 WP)=>aq P 14 #[.pointer b] w (PN Q)
def PO:=bF (.o .b)
def wI:=λw (Q:Bool->WP)=>aq P 15 #[] w (PO Q)
def fO:=bF (.o .l)
def vq:=λb c d e f g i j w (Q:L3 WP)=>aq P 16 #[ae b,ae c,.slice d e f,.slice g i j] w (fO Q)
def Um:=bF (.o .l)
def y8:=λb c d e w (Q:L3 WP)=>aq P 17 #[.slice b c d,ae e] w (Um Q)
def Es:=bF (.o .p)
def vr:=λb c d e f g i j l m w (Q:OA->WP)=>aq P 18 #[ae b,ae c,ae d,ae e,.slice f g i,.slice j l m] w (Es Q)
def Un:=bF (.g [.i .i64,.i .i64,.l])
def oz:=λb w (Q:Int->Int->L3 WP)=>aq P 19 #[.pointer b] w (Un Q)
def PR:=gd [.o (.i .i64),.o (.i .i64),.o .b]
def wJ:=λb c d w (Q:Int->Int->Bool->WP)=>aq P 20 #[.pointer b,ae c,ae d] w (PR Q)
def C_:=bF (.o (.i .i64))
def mF:=λb c d e w (Q:Int->WP)=>aq P 21 #[ae b,ae c,ae d,ae e] w (C_ Q)
def PS:=bF (.g [.i .u64,.i .u64,.i .u64,.i .u64,.i .u64,.i .u64])
def wK:=λb w (Q:Int->Int->Int->Int->Int->Int->WP)=>aq P 22 #[.pointer b] w (PS Q)
def OL:=bF (.o (.i .i64))
def pK:=λb c w (Q:Int->WP)=>aq P 23 #[ae b,ae c] w (OL Q)
def ako:=bF (.o .p)
def JP:=λb w (Q:OA->WP)=>aq P 27 #[ae b] w (ako Q)
def Cj:=bF (.o .w)
def Ao:=λb c d e f g i j w (Q:Value->WP)=>aq P 28 #[.pointer b,.agg #[ae c,ae d,ae e,.slice f g i],.pointer j] w (Cj Q)
def aim:=bF (.o (.i .i64))
def Da:=λb w (Q:Int->WP)=>aq P 29 #[b] w (aim Q)
def LA:=gd [.o (.i .i64),.o .l]
def tu:=λb c d e f w (Q:Int->L3 WP)=>aq P 30 #[.agg #[ae b,ae c,.slice d e f]] w (LA Q)
def DI:=bF (.g [.i .i64,.i .i64,.l])
def uk:=λb c d e f g w (Q:Int->Int->L3 WP)=>aq P 31 #[.agg #[ae b,ae c,.slice d e f],ae g] w (DI Q)
def Uo:=bF (.o .p)
def FJ:=λb w (Q:OA->WP)=>aq P 32 #[.pointer b] w (Uo Q)
def PT:=bF (.o .l)
def nA:=λb w (Q:L3 WP)=>aq P 33 #[.pointer b] w (PT Q)
def DJ:=bF (.o .b)
def um:=λb c d e f g w (Q:Bool->WP)=>aq P 34 #[.slice b c d,.slice e f g] w (DJ Q)
def sE:=bF (.g [.i .i64,.i .i64,.l])
def qC:=λb c d e f w (Q:Int->Int->L3 WP)=>aq P 35 #[ae b,ae c,.slice d e f] w (sE Q)
def PU:=bF (.o (.i .u8))
def qD:=λb w (Q:Int->WP)=>aq P 36 #[.int .u8 b] w (PU Q)
def FK:=bF (.g [.i .i64,.i .i64,.i .i64,.l])
def wL:=λb c d e w (Q:Int->Int->Int->L3 WP)=>aq P 37 #[.agg #[ae b,ae c,ae d],ae e] w (FK Q)
def MV:=bF (.o .b)
def uo:=λb c d e f w (Q:Bool->WP)=>aq P 38 #[.agg #[ae b,ae c,.slice d e f]] w (MV Q)
def Up:=bF (.o .p)
def y9:=λb w (Q:OA->WP)=>aq P 39 #[.pointer b] w (Up Q)
def abA:=bF (.g [.i .i64,.i .i64,.l])
def DZ:=λb w (Q:Int->Int->L3 WP)=>aq P 40 #[.pointer b] w (abA Q)
def abB:=gd [.o (.i .i64),.o (.i .i64)]
def tH:=λb c d w (Q:Int->Int->WP)=>aq P 41 #[ae b,ae c,ae d] w (abB Q)
def adH:=bF (.o (.i .i64))
def Ap:=λb c d e w (Q:Int->WP)=>aq P 42 #[ae b,ae c,ae d,ae e] w (adH Q)
def X7:=bF (.g [.i .u64,.i .u64,.i .u64,.i .u64,.i .u64,.i .u64])
def Bs:=λb w (Q:Int->Int->Int->Int->Int->Int->WP)=>aq P 43 #[.pointer b] w (X7 Q)
def LB:=gd [.o (.i .i64),.o (.i .i64)]
def kV:=λb c w (Q:Int->Int->WP)=>aq P 44 #[ae b,ae c] w (LB Q)
def agy:=bF (.o .p)
def Gv:=λb w (Q:OA->WP)=>aq P 47 #[ae b] w (agy Q)
def al5:=bF (.o .b)
def LC:=λb c d e f g w (Q:Bool->WP)=>aq P 48 #[.agg #[ae b,ae c,ae d,.slice e f g]] w (al5 Q)
def FL:=bF (.o .w)
def wM:=λb c d e f g i w (Q:Value->WP)=>aq P 49 #[.pointer b,.agg #[ae c,ae d,ae e,.slice f g i]] w (FL Q)
def Sg:=bF (.o .w)
def yf:=λb c d e w (Q:Value->WP)=>aq P 50 #[.pointer b,.slice c d e] w (Sg Q)
def X8:=gd []
def vW:=λb w (Q:WP)=>aq P 51 #[.pointer b] w (X8 Q)
def Gw:=bF (.o .w)
def yg:=λb c d w (Q:Value->WP)=>aq P 52 #[.pointer b,ae c,ae d] w (Gw Q)
def PV:=gd [.o (.i .i64),.o .w]
def wN:=λb c d w (Q:Int->Value->WP)=>aq P 53 #[.pointer b,ae c,ae d] w (PV Q)
def adI:=bF (.o .w)
def gw:=λb w (Q:Value->WP)=>aq P 54 #[ae b] w (adI Q)
def LD:=bF (.o (.i .i64))
def tA:=λb c d w (Q:Int->WP)=>aq P 55 #[.pointer b,ae c,ae d] w (LD Q)
def MW:=bF (.o (.i .i64))
def uu:=λb c w (Q:Int->WP)=>aq P 56 #[.pointer b,ae c] w (MW Q)
def PW:=bF (.o .w)
def wO:=λb c d e w (Q:Value->WP)=>aq P 57 #[.pointer b,.pointer c,ae d,ae e] w (PW Q)
def Si:=bF (.o .w)
def yh:=λb c w (Q:Value->WP)=>aq P 58 #[.pointer b,.pointer c] w (Si Q)
def agz:=bF (.o .b)
def pL:=λb c w (Q:Bool->WP)=>aq P 59 #[b,c] w (agz Q)
def JQ:=bF (.o .b)
def nM:=λb c w (Q:Bool->WP)=>aq P 60 #[b,c] w (JQ Q)
def mj:=bF (.o .l)
def wP:=λb c d w (Q:L3 WP)=>aq P 61 #[.slice b c d] w (mj Q)
def PX:=gd [.o (.i .i64),.o (.i .i64)]
def qE:=λb c d w (Q:Int->Int->WP)=>aq P 62 #[ae b,ae c,ae d] w (PX Q)
def MX:=bF (.o (.i .i64))
def uw:=λb c d e w (Q:Int->WP)=>aq P 63 #[ae b,ae c,ae d,ae e] w (MX Q)
def HK:=bF (.o .l)
def y_:=λb w (Q:L3 WP)=>aq P 64 #[.pointer b] w (HK Q)
def Sj:=bF (.o .b)
def rK:=λb c w (Q:Bool->WP)=>aq P 65 #[ae b,ae c] w (Sj Q)
def FM:=bF (.o .b)
def DK:=λb c d w (Q:Bool->WP)=>aq P 66 #[.slice b c d] w (FM Q)
def X9:=bF (.g [.i .i64,.i .i64,.l])
def Bt:=λb w (Q:Int->Int->L3 WP)=>aq P 67 #[.pointer b] w (X9 Q)
def ain:=bF (.o .b)
def za:=λb c d w (Q:Bool->WP)=>aq P 68 #[ae b,ae c,ae d] w (ain Q)
def agA:=bF (.o .b)
def lT:=λb c w (Q:Bool->WP)=>aq P 69 #[ae b,ae c] w (agA Q)
def JR:=bF (.g [.i .u64,.i .u64,.i .u64,.i .u64,.i .u64,.i .u64])
def xp:=λb c d e f g i j l m n o w (Q:Int->Int->Int->Int->Int->Int->WP)=>aq P 70 #[.agg #[.int .u64 b,.int .u64 c,.int .u64 d,.int .u64 e,.int .u64 f,.int .u64 g],.agg #[.int .u64 i,.int .u64 j,.int .u64 l,.int .u64 m,.int .u64 n,.int .u64 o]] w (JR Q)
def VH:=bF (.g [.i .u64,.i .u64,.i .u64,.i .u64,.i .u64,.i .u64])
def ux:=λb w (Q:Int->Int->Int->Int->Int->Int->WP)=>aq P 71 #[.pointer b] w (VH Q)
def PY:=bF (.g [.i .u64,.i .u64,.i .u64,.i .u64,.i .u64,.i .u64])
def wQ:=λb w (Q:Int->Int->Int->Int->Int->Int->WP)=>aq P 72 #[.pointer b] w (PY Q)
def akp:=bF (.o .p)
def JS:=λb w (Q:OA->WP)=>aq P 74 #[ae b] w (akp Q)
def al6:=bF (.o .b)
def LF:=λb c d w (Q:Bool->WP)=>aq P 75 #[.slice b c d] w (al6 Q)
def JT:=gd [.g [.i .i64,.i .i64,.b],.o .b]
def xq:=λb w (Q:Int->Int->Bool->Bool->WP)=>aq P 76 #[ae b] w (JT Q)
def akq:=bF (.o .b)
def A7:=λb c w (Q:Bool->WP)=>aq P 77 #[ae b,ae c] w (akq Q)
def ZI:=bF (.o (.i .i64))
def rZ:=λb c w (Q:Int->WP)=>aq P 78 #[.pointer b,ae c] w (ZI Q)
def agB:=gd [.g [.i .i64,.i .i64,.l],.o (.i .i64)]
def Gx:=λb c d w (Q:Int->Int->L3 (Int->WP))=>aq P 79 #[.slice b c d] w (agB Q)
def ZJ:=bF (.o (.i .i64))
def Ck:=λb c d e f g w (Q:Int->WP)=>aq P 80 #[.pointer b,.agg #[ae c,ae d,.slice e f g]] w (ZJ Q)
def agC:=bF (.o .p)
def Gy:=λb c d w (Q:OA->WP)=>aq P 81 #[ae b,ae c,ae d] w (agC Q)
def PZ:=gd []
def qF:=λb w (Q:WP)=>aq P 82 #[.pointer b] w (PZ Q)
def P0:=gd []
def qG:=λb w (Q:WP)=>aq P 83 #[.pointer b] w (P0 Q)
def Uq:=bF (.o (.i .i64))
def ze:=λb c w (Q:Int->WP)=>aq P 84 #[.pointer b,ae c] w (Uq Q)
def ZK:=bF (.o (.i .i64))
def Cl:=λb c d w (Q:Int->WP)=>aq P 85 #[.pointer b,ae c,ae d] w (ZK Q)
def P9:=gd [.o (.i .i64),.o (.i .i64)]
def wR:=λb c d w (Q:Int->Int->WP)=>aq P 86 #[.pointer b,ae c,ae d] w (P9 Q)
def Ur:=gd [.g [.i .i64,.i .i64,.i .i64],.o .b]
def iU:=λb c w (Q:Int->Int->Int->Bool->WP)=>aq P 87 #[.pointer b,ae c] w (Ur Q)
def VI:=bF (.o .b)
def pM:=λb c w (Q:Bool->WP)=>aq P 88 #[.pointer b,ae c] w (VI Q)
def sF:=bF (.o (.i .i64))
def nB:=λb c d e w (Q:Int->WP)=>aq P 89 #[.pointer b,ae c,ae d,ae e] w (sF Q)
def Sk:=gd []
def nW:=λb c d e w (Q:WP)=>aq P 90 #[.pointer b,.agg #[ae c,ae d,ae e]] w (Sk Q)
def Us:=bF (.o .b)
def zf:=λb c d w (Q:Bool->WP)=>aq P 91 #[.pointer b,ae c,ae d] w (Us Q)
def ZL:=gd [.o (.i .i64),.o (.i .i64),.o (.i .i64)]
def Cm:=λb c d w (Q:Int->Int->Int->WP)=>aq P 92 #[.pointer b,ae c,ae d] w (ZL Q)
def jm:=gd [.o .l,.o .w]
def yj:=λb c d e w (Q:L3 (Value->WP))=>aq P 93 #[.pointer b,.slice c d e] w (jm Q)
def uy:=gd [.o .l,.o .l,.o (.i .i64)]
def yl:=λb c d e w (Q:L3 (L3 (Int->WP)))=>aq P 94 #[.pointer b,.slice c d e] w (uy Q)
def qm:=bF (.o .b)
def xu:=λb c d w (Q:Bool->WP)=>aq P 96 #[b,c,.bool d] w (qm Q)
def w_:=bF (.o .b)
def Gz:=λb c d e f g w (Q:Bool->WP)=>aq P 100 #[b,c,.agg #[.pointer d,.pointer e,.int .u64 f],g] w (w_ Q)
def Ut:=bF (.o .b)
def mq:=λb c d w (Q:Bool->WP)=>aq P 101 #[ae b,ae c,ae d] w (Ut Q)
def FN:=bF (.o .l)
def qH:=λb w (Q:L3 WP)=>aq P 102 #[.pointer b] w (FN Q)
def JU:=bF (.o .l)
def jR:=λb c d w (Q:L3 WP)=>aq P 103 #[.slice b c d] w (JU Q)
def ZM:=bF (.g [.i .u64,.i .u64,.i .u64,.i .u64,.i .u64,.i .u64])
def cY:=λb c d e f g w (Q:Int->Int->Int->Int->Int->Int->WP)=>aq P 104 #[.agg #[.int .u64 b,.int .u64 c,.int .u64 d,.int .u64 e,.int .u64 f,.int .u64 g]] w (ZM Q)
def agD:=bF (.o (.i .u64))
def sG:=λb c w (Q:Int->WP)=>aq P 105 #[.int .u64 b,.int .u64 c] w (agD Q)
def Uu:=bF (.o (.i .u64))
def sH:=λb w (Q:Int->WP)=>aq P 106 #[.pointer b] w (Uu Q)
def OM:=bF (.o (.i .u64))
def pN:=λb w (Q:Int->WP)=>aq P 107 #[.pointer b] w (OM Q)
def X_:=gd []
def vX:=λb w (Q:WP)=>aq P 108 #[.pointer b] w (X_ Q)
def akr:=gd [.g [.i .i64,.i .i64,.i .i64,.l],.o (.i .i64)]
def JV:=λb c d w (Q:Int->Int->Int->L3 (Int->WP))=>aq P 109 #[.slice b c d] w (akr Q)
def VJ:=bF (.o (.i .i64))
def fg:=λb c w (Q:Int->WP)=>aq P 110 #[.pointer b,ae c] w (VJ Q)
def P_:=gd [.g [.i .i64,.i .i64,.l],.o .w]
def Ff:=λb c d w (Q:Int->Int->L3 (Value->WP))=>aq P 111 #[.slice b c d] w (P_ Q)
def agE:=bF (.o .b)
def BL:=λb c d e f w (Q:Bool->WP)=>aq P 112 #[.agg #[ae b,ae c,.slice d e f]] w (agE Q)
def VK:=bF (.o .p)
def Ie:=λb c d e f g w (Q:OA->WP)=>aq P 113 #[.agg #[ae b,ae c,.slice d e f],ae g] w (VK Q)
def Uv:=bF (.o (.i .i64))
def gf:=λb w (Q:Int->WP)=>aq P 114 #[.pointer b] w (Uv Q)
def aio:=bF (.o .p)
def Ig:=λb w (Q:OA->WP)=>aq P 115 #[.pointer b] w (aio Q)
def agF:=bF (.o .p)
def GA:=λb c w (Q:OA->WP)=>aq P 116 #[.pointer b,.pointer c] w (agF Q)
def agG:=bF (.o .p)
def GB:=λb w (Q:OA->WP)=>aq P 117 #[ae b] w (agG Q)
def agH:=bF (.o .p)
def GC:=λb w (Q:OA->WP)=>aq P 118 #[ae b] w (agH Q)
def Uw:=bF (.o (.i .i64))
def mu:=λb c w (Q:Int->WP)=>aq P 119 #[.pointer b,ae c] w (Uw Q)
def VL:=bF (.o (.i .i64))
def Aq:=λb c d w (Q:Int->WP)=>aq P 120 #[.pointer b,ae c,ae d] w (VL Q)
def Ux:=gd [.o (.i .i64),.o .b]
def zg:=λb c d w (Q:Int->Bool->WP)=>aq P 121 #[.pointer b,ae c,ae d] w (Ux Q)
def Uy:=bF (.o .b)
def sI:=λb c d w (Q:Bool->WP)=>aq P 122 #[.pointer b,ae c,ae d] w (Uy Q)
def ZN:=bF (.o (.i .i64))
def d_:=λb c d w (Q:Int->WP)=>aq P 123 #[ae b,ae c,ae d] w (ZN Q)
def Uz:=bF (.o (.i .i64))
def zh:=λb w (Q:Int->WP)=>aq P 124 #[.pointer b] w (Uz Q)
def Sm:=bF (.o .b)
def ym:=λb c w (Q:Bool->WP)=>aq P 125 #[.pointer b,ae c] w (Sm Q)
def Sn:=bF (.o (.i .i64))
def rL:=λb c w (Q:Int->WP)=>aq P 126 #[.pointer b,ae c] w (Sn Q)
def UA:=bF (.o .b)
def sJ:=λb c d w (Q:Bool->WP)=>aq P 127 #[.pointer b,ae c,d] w (UA Q)
def Qa:=gd []
def DL:=λb c w (Q:WP)=>aq P 128 #[.pointer b,.pointer c] w (Qa Q)
def ZO:=gd [.o (.i .i64),.o (.i .i64),.o .w]
def Cn:=λb c d w (Q:Int->Int->Value->WP)=>aq P 129 #[.pointer b,ae c,ae d] w (ZO Q)
def aip:=bF (.o (.i .i64))
def zi:=λb w (Q:Int->WP)=>aq P 130 #[b] w (aip Q)
def ZP:=gd [.o (.i .i64),.o (.i .i64)]
def xw:=λb w (Q:Int->Int->WP)=>aq P 131 #[.pointer b] w (ZP Q)
def abC:=bF (.o (.i .i64))
def nJ:=λb c d w (Q:Int->WP)=>aq P 132 #[ae b,ae c,ae d] w (abC Q)
def zj:=bF (.o .l)
def Fg:=λb c d e f w (Q:L3 WP)=>aq P 133 #[ae b,ae c,.slice d e f] w (zj Q)
def Ya:=gd [.g [.l,.l],.o (.i .i64)]
def vY:=λb c d w (Q:L3 (L3 (Int->WP)))=>aq P 134 #[.pointer b,ae c,ae d] w (Ya Q)
def LG:=gd [.o .l,.o .l,.o .l,.o (.i .i64)]
def Ih:=λb c d e f g i j w (Q:L3 (L3 (L3 (Int->WP))))=>aq P 135 #[ae b,ae c,.slice d e f,.slice g i j] w (LG Q)
def Qb:=bF (.o .b)
def wS:=λb c d w (Q:Bool->WP)=>aq P 136 #[.pointer b,ae c,ae d] w (Qb Q)
def So:=bF (.o .b)
def yn:=λb c d w (Q:Bool->WP)=>aq P 137 #[.pointer b,ae c,ae d] w (So Q)
def TY:=bF (.o (.i .i64))
def xx:=λb c d w (Q:Int->WP)=>aq P 140 #[.slice b c d] w (TY Q)
def adJ:=bF (.o (.i .i64))
def Fh:=λb c w (Q:Int->WP)=>aq P 141 #[ae b,ae c] w (adJ Q)
def adK:=gd [.o (.i .i64),.o (.i .i64)]
def ot:=λb c d w (Q:Int->Int->WP)=>aq P 142 #[ae b,ae c,ae d] w (adK Q)
def VM:=gd [.g [.i .i64,.i .i64,.l],.o (.i .i64),.o (.i .i64)]
def Ii:=λb c d e f w (Q:Int->Int->L3 (Int->Int->WP))=>aq P 143 #[.slice b c d,ae e,ae f] w (VM Q)
def TZ:=gd []
def GD:=λb c d e f g i j l m n w (Q:WP)=>aq P 144 #[.agg #[ae b,ae c,.slice d e f],ae g,.agg #[ae i,ae j,.slice l m n]] w (TZ Q)
def HE:=bF (.o .b)
def iZ:=λb c d e w (Q:Bool->WP)=>aq P 145 #[.slice b c d,.int .u8 e] w (HE Q)
def Yb:=gd [.o (.i .i64),.o (.i .i64)]
def lF:=λb c w (Q:Int->Int->WP)=>aq P 146 #[ae b,ae c] w (Yb Q)
def VN:=gd [.o (.i .i64),.o (.i .i64)]
def eU:=λb w (Q:Int->Int->WP)=>aq P 147 #[.pointer b] w (VN Q)
def VO:=bF (.o .b)
def uz:=λb c w (Q:Bool->WP)=>aq P 148 #[.pointer b,ae c] w (VO Q)
def Sp:=bF (.o .b)
def rM:=λb c w (Q:Bool->WP)=>aq P 149 #[.pointer b,ae c] w (Sp Q)
def yN:=gd [.g [.l,.l],.o .w]
def vZ:=λb c d w (Q:L3 (L3 (Value->WP)))=>aq P 150 #[.pointer b,ae c,ae d] w (yN Q)
def VP:=bF (.o .b)
def Db:=λb c d e f w (Q:Bool->WP)=>aq P 151 #[ae b,ae c,.slice d e f] w (VP Q)
def Qc:=bF (.o .l)
def Fi:=λb c d w (Q:L3 WP)=>aq P 152 #[.slice b c d] w (Qc Q)
def adL:=bF (.o .b)
def LH:=λb w (Q:Bool->WP)=>aq P 153 #[ae b] w (adL Q)
def Ge:=bF (.o .b)
def nX:=λb c d e w (Q:Bool->WP)=>aq P 154 #[.slice b c d,e] w (Ge Q)
def GF:=bF (.o .b)
def yo:=λb c d w (Q:Bool->WP)=>aq P 155 #[.pointer b,.pointer c,ae d] w (GF Q)
def OO:=gd []
def Co:=λb c w (Q:WP)=>aq P 156 #[.pointer b,.pointer c] w (OO Q)
def ZQ:=gd [.o (.i .i64),.o (.i .i64),.o .b]
def xy:=λb c d w (Q:Int->Int->Bool->WP)=>aq P 157 #[ae b,ae c,ae d] w (ZQ Q)
def Ar:=gd [.g [.i .i64,.i .i64,.l],.o .w]
def yp:=λb c d w (Q:Int->Int->L3 (Value->WP))=>aq P 158 #[.pointer b,ae c,ae d] w (Ar Q)
def ZR:=bF (.o (.i .i64))
def oA:=λb c d e w (Q:Int->WP)=>aq P 159 #[ae b,ae c,ae d,ae e] w (ZR Q)
def A8:=bF (.o (.i .i64))
def zk:=λb c d e w (Q:Int->WP)=>aq P 160 #[.slice b c d,.int .u8 e] w (A8 Q)
def Jj:=gd [.g [.i .i64,.i .i64,.l],.o .b]
def uA:=λb c w (Q:Int->Int->L3 (Bool->WP))=>aq P 161 #[.pointer b,ae c] w (Jj Q)
def Au:=bF (.o .l)
def Cp:=λb c d w (Q:L3 WP)=>aq P 162 #[.pointer b,.pointer c,ae d] w (Au Q)
def zl:=bF (.o .p)
def wT:=λb c w (Q:OA->WP)=>aq P 163 #[.pointer b,ae c] w (zl Q)
def nR:=gd [.g [.l,.l],.o (.i .i64)]
def oB:=λb c d e f g i j l m n o w (Q:L3 (L3 (Int->WP)))=>aq P 164 #[.pointer b,ae c,ae d,ae e,.agg #[ae f,ae g,.slice i j l],.slice m n o] w (nR Q)
def Qd:=bF (.o (.i .i64))
def jf:=λb c w (Q:Int->WP)=>aq P 165 #[.pointer b,ae c] w (Qd Q)
def zm:=bF (.o (.i .i64))
def xz:=λb c d e w (Q:Int->WP)=>aq P 166 #[.slice b c d,e] w (zm Q)
def Sq:=gd [.o .l,.o .w]
def yq:=λb c w (Q:L3 (Value->WP))=>aq P 167 #[.pointer b,ae c] w (Sq Q)
def aiq:=gd [.o .l,.o (.i .i64)]
def Ij:=λb c d e f w (Q:L3 (Int->WP))=>aq P 168 #[.agg #[ae b,ae c,.slice d e f]] w (aiq Q)
def abD:=bF (.o .b)
def D0:=λb c d e f g w (Q:Bool->WP)=>aq P 169 #[.slice b c d,.slice e f g] w (abD Q)
def Qe:=bF (.o (.i .i64))
def wU:=λb w (Q:Int->WP)=>aq P 170 #[.pointer b] w (Qe Q)
def LI:=bF (.o .l)
def oC:=λb c w (Q:L3 WP)=>aq P 171 #[.pointer b,ae c] w (LI Q)
def LJ:=bF (.o .l)
def Cq:=λb c w (Q:L3 WP)=>aq P 172 #[.pointer b,ae c] w (LJ Q)
def VQ:=bF (.o (.i .i64))
def Av:=λb c w (Q:Int->WP)=>aq P 173 #[.pointer b,ae c] w (VQ Q)
def Qf:=bF (.o (.i .i64))
def Fj:=λb c d e w (Q:Int->WP)=>aq P 174 #[ae b,ae c,ae d,ae e] w (Qf Q)
def Sr:=bF (.o (.i .i64))
def yu:=λb w (Q:Int->WP)=>aq P 175 #[.pointer b] w (Sr Q)
def adM:=bF (.o .l)
def kM:=λb c d w (Q:L3 WP)=>aq P 176 #[.slice b c d] w (adM Q)
def FO:=bF (.o (.i .i64))
def wV:=λb w (Q:Int->WP)=>aq P 177 #[.pointer b] w (FO Q)
def jg:=bF (.o .p)
def uB:=λb c w (Q:OA->WP)=>aq P 178 #[.pointer b,ae c] w (jg Q)
def agI:=bF (.o .b)
def BM:=λb c d e f g i j w (Q:Bool->WP)=>aq P 179 #[.agg #[ae b,ae c,.slice d e f],.slice g i j] w (agI Q)
def NP:=gd [.o (.i .i64),.o .b,.o .b]
def D1:=λb c d w (Q:Int->Bool->Bool->WP)=>aq P 180 #[.pointer b,ae c,ae d] w (NP Q)
def adN:=bF (.o .b)
def Fk:=λb c d e f g w (Q:Bool->WP)=>aq P 181 #[.slice b c d,.slice e f g] w (adN Q)
def agJ:=gd []
def sK:=λb w (Q:WP)=>aq P 182 #[.pointer b] w (agJ Q)
def agK:=bF (.g [.l,.l])
def BN:=λb c d e f g w (Q:L3 (L3 WP))=>aq P 183 #[.agg #[.slice b c d,.slice e f g]] w (agK Q)
def NQ:=gd [.g [.l,.l],.o (.i .i64)]
def D2:=λb c d e f g i j w (Q:L3 (L3 (Int->WP)))=>aq P 184 #[.agg #[ae b,ae c,.slice d e f],.slice g i j] w (NQ Q)
def D3:=bF (.o .l)
def jn:=λb c d w (Q:L3 WP)=>aq P 185 #[.slice b c d] w (D3 Q)
def Ss:=gd [.o .l,.o .w]
def nY:=λb c w (Q:L3 (Value->WP))=>aq P 186 #[.pointer b,ae c] w (Ss Q)
def Qg:=gd [.o .l,.o .w]
def qI:=λb c w (Q:L3 (Value->WP))=>aq P 187 #[.pointer b,ae c] w (Qg Q)
def Aw:=bF (.o .l)
def r6:=λb c d e w (Q:L3 WP)=>aq P 188 #[.slice b c d,ae e] w (Aw Q)
def uC:=gd [.o .l,.o .w]
def yw:=λb c w (Q:L3 (Value->WP))=>aq P 189 #[.pointer b,ae c] w (uC Q)
def air:=bF (.o .b)
def u9:=λb c d e f w (Q:Bool->WP)=>aq P 190 #[.agg #[ae b,ae c,.slice d e f]] w (air Q)
def Dc:=gd [.o (.i .i64),.o .l]
def Fl:=λb c d e f w (Q:Int->L3 WP)=>aq P 191 #[.agg #[ae b,ae c,.slice d e f]] w (Dc Q)
def vu:=bF (.o .l)
def Cr:=λb c d w (Q:L3 WP)=>aq P 192 #[ae b,ae c,ae d] w (vu Q)
def abE:=bF (.o .b)
def tI:=λb c w (Q:Bool->WP)=>aq P 193 #[.pointer b,ae c] w (abE Q)
def ZS:=bF (.g [.i .i64,.i .i64,.i .i64,.i .i64])
def xA:=λw (Q:Int->Int->Int->Int->WP)=>aq P 194 #[] w (ZS Q)
def abF:=bF (.o (.i .i64))
def yO:=λb c d e w (Q:Int->WP)=>aq P 195 #[ae b,ae c,ae d,ae e] w (abF Q)
def B4:=gd []
def kW:=λb c d e w (Q:WP)=>aq P 196 #[.slice b c d,e] w (B4 Q)
def abG:=bF (.o (.i .i64))
def D4:=λb c d e f g w (Q:Int->WP)=>aq P 197 #[.agg #[ae b,ae c,ae d],.agg #[ae e,ae f,ae g]] w (abG Q)
def jo:=bF (.o .l)
def lG:=λb c d w (Q:L3 WP)=>aq P 198 #[.slice b c d] w (jo Q)
def HL:=bF (.o .l)
def zn:=λb w (Q:L3 WP)=>aq P 199 #[.pointer b] w (HL Q)
def xB:=bF (.g [.i .i64,.l,.l])
def Ax:=λb c w (Q:Int->L3 (L3 WP))=>aq P 200 #[.pointer b,ae c] w (xB Q)
def qw:=bF (.o .l)
def pA:=λb c d e w (Q:L3 WP)=>aq P 201 #[.slice b c d,ae e] w (qw Q)
def ais:=bF (.o .p)
def Dd:=λw (Q:OA->WP)=>aq P 202 #[] w (ais Q)
def kG:=bF (.o .m)
def uD:=λb c w (Q:ON->WP)=>aq P 203 #[.pointer b,ae c] w (kG Q)
def UB:=bF (.o .l)
def zo:=λb c w (Q:L3 WP)=>aq P 204 #[.pointer b,ae c] w (UB Q)
def Su:=bF (.o .b)
def rN:=λb c d w (Q:Bool->WP)=>aq P 205 #[.pointer b,ae c,ae d] w (Su Q)
def VR:=gd []
def m9:=λb c d w (Q:WP)=>aq P 206 #[.pointer b,ae c,ae d] w (VR Q)
def D5 (Q:Int->Int->Bool->World->Prop)(v:Value)(w:World):Prop:=
 dT v λc=>dJ c λd e=>dI .i64 d λf=>dJ e λg i=>dI .i64 g λj=>dJ i λl m=>dB l λn=>kU m<|Q f j n w
def jL:=λb w (Q:Int->Int->Bool->WP)=>aq P 207 #[.pointer b] w (D5 Q)
def HM {b:Option Addr}{w:World}{Q Q':Int->Int->Bool->World->Prop}(hq:∀a b c w,Q a b c w->Q' a b c w)(h:jL b w Q):jL b w Q':=by
 refine aq.mono ?_ h
 intro v w' h0
 unfold D5 at h0⊢
 obtain⟨c,rfl,h1⟩:=adt h0
 obtain⟨d,e,rfl,h2⟩:=jN h1
 obtain⟨f,rfl,h3⟩:=C3 h2
 obtain⟨g,i,rfl,h4⟩:=jN h3
 obtain⟨j,rfl,h5⟩:=C3 h4
 obtain⟨l,m,rfl,h6⟩:=jN h5
 obtain⟨n,rfl,h7⟩:=HV h6
 obtain⟨rfl,h8⟩:=rV h7
 exact hq _ _ _ w' h8
def Cs:=bF (.o .l)
def Ay:=λb c w (Q:L3 WP)=>aq P 208 #[.pointer b,ae c] w (Cs Q)
def z0:=bF (.o .b)
def om:=λb c d e w (Q:Bool->WP)=>aq P 209 #[.slice b c d,e] w (z0 Q)
def abH:=bF (.o .b)
def D6:=λb c d e w (Q:Bool->WP)=>aq P 210 #[.agg #[ae b,ae c,ae d],.pointer e] w (abH Q)
def agL:=bF (.o .b)
def GG:=λb c d e f g i w (Q:Bool->WP)=>aq P 211 #[.agg #[ae b,ae c,.slice d e f],ae g,ae i] w (agL Q)
def Jk:=gd []
def uE:=λb c w (Q:WP)=>aq P 212 #[.pointer b,ae c] w (Jk Q)
def LK:=gd []
def xC:=λb c w (Q:WP)=>aq P 213 #[.pointer b,ae c] w (LK Q)
def tJ:=bF (.o .b)
def r7:=λb c d e f g w (Q:Bool->WP)=>aq P 214 #[.slice b c d,.slice e f g] w (tJ Q)
def LL:=bF (.o .l)
def kX:=λb c d w (Q:L3 WP)=>aq P 215 #[.slice b c d] w (LL Q)
def LM:=gd [.o .l,.o (.i .i64)]
def xD:=λb c d e f g i j w (Q:L3 (Int->WP))=>aq P 216 #[.agg #[ae b,ae c,.slice d e f],.slice g i j] w (LM Q)
def VS:=bF (.o (.i .i64))
def Az:=λb c w (Q:Int->WP)=>aq P 217 #[.pointer b,ae c] w (VS Q)
def Yc:=gd [.o (.i .u64),.o (.i .u64)]
def qO:=λb c w (Q:Int->Int->WP)=>aq P 218 #[.int .u64 b,.int .u64 c] w (Yc Q)
def adO:=bF (.o .b)
def AA:=λb w (Q:Bool->WP)=>aq P 220 #[ae b] w (adO Q)
def zp:=bF (.o .l)
def Ik:=λb c d e f g w (Q:L3 WP)=>aq P 221 #[.agg #[ae b,ae c,.slice d e f],ae g] w (zp Q)
def Fm:=bF (.o .l)
def Ct:=λb c d w (Q:L3 WP)=>aq P 222 #[ae b,ae c,ae d] w (Fm Q)
def cM:=gd []
def fq:=λb c d e f g i w (Q:WP)=>aq P 223 #[.slice b c d,ae e,ae f,ae g,i] w (cM Q)
def Yd:=bF (.o (.i .i64))
def v7:=λb w (Q:Int->WP)=>aq P 224 #[.int .u64 b] w (Yd Q)
def Qh:=bF (.o (.i .i64))
def Fo:=λb c d w (Q:Int->WP)=>aq P 225 #[.slice b c d] w (Qh Q)
def UC:=bF (.o (.i .i64))
def oD:=λb c w (Q:Int->WP)=>aq P 226 #[ae b,ae c] w (UC Q)
def De:=gd [.o .l,.o (.i .i64)]
def Fp:=λb c d e f g i j w (Q:L3 (Int->WP))=>aq P 227 #[.agg #[ae b,ae c,.slice d e f],.slice g i j] w (De Q)
def LN:=gd []
def Cu:=λb w (Q:WP)=>aq P 228 #[.pointer b] w (LN Q)
def Ye:=gd [.o (.i .i64),.o (.i .i64),.o .b]
def Bu:=λb w (Q:Int->Int->Bool->WP)=>aq P 229 #[.pointer b] w (Ye Q)
def oE:=gd []
def AB:=λb w (Q:WP)=>aq P 230 #[.pointer b] w (oE Q)
def VT:=gd [.o .p,.o (.i .i64),.o .b]
def uF:=λb c w (Q:OA->Int->Bool->WP)=>aq P 231 #[.pointer b,ae c] w (VT Q)
def Qi:=bF (.o (.i .i64))
def wW:=λb c d w (Q:Int->WP)=>aq P 232 #[.pointer b,ae c,ae d] w (Qi Q)
def qP:=bF (.o (.i .i64))
def pO:=λb c d e w (Q:Int->WP)=>aq P 233 #[.slice b c d,e] w (qP Q)
def ait:=bF (.o .p)
def Df:=λb w (Q:OA->WP)=>aq P 234 #[ae b] w (ait Q)
def uG:=bF (.o .l)
def kE:=λb c d e w (Q:L3 WP)=>aq P 235 #[.slice b c d,ae e] w (uG Q)
def FP:=gd []
def DM:=λb w (Q:WP)=>aq P 236 #[.pointer b] w (FP Q)
def Dg:=bF (.o (.i .i64))
def AD:=λb c d e f w (Q:Int->WP)=>aq P 237 #[.slice b c d,ae e,ae f] w (Dg Q)
def uH:=bF (.o (.i .i64))
def Et:=λb c d w (Q:Int->WP)=>aq P 238 #[.pointer b,ae c,ae d] w (uH Q)
def UD:=gd [.o (.i .u64),.o (.i .u64)]
def FQ:=λb c w (Q:Int->Int->WP)=>aq P 240 #[.int .u64 b,.int .u64 c] w (UD Q)
def Eu:=bF (.o .b)
def m_:=λb c d e w (Q:Bool->WP)=>aq P 241 #[.slice b c d,e] w (Eu Q)
def adP:=bF (.o .b)
def LO:=λb c w (Q:Bool->WP)=>aq P 242 #[.int .u8 b,.pointer c] w (adP Q)
def iz:=gd []
def jS:=λb c d e f g w (Q:WP)=>aq P 243 #[.slice b c d,ae e,ae f,g] w (iz Q)
def nf:=gd []
def l_:=λb c d e f g w (Q:WP)=>aq P 244 #[.slice b c d,ae e,ae f,g] w (nf Q)
def iA:=gd []
def jT:=λb c d e f g w (Q:WP)=>aq P 245 #[.slice b c d,ae e,ae f,g] w (iA Q)
def lH:=gd [.o (.i .i64),.o (.i .i64)]
def kN:=λb c d e f g w (Q:Int->Int->WP)=>aq P 246 #[.slice b c d,ae e,ae f,g] w (lH Q)
def qo:=gd []
def ku:=λb c d e f g w (Q:WP)=>aq P 247 #[.slice b c d,ae e,ae f,g] w (qo Q)
def bt:=bF (.o .b)
def iG:=λb c d e f g w (Q:Bool->WP)=>aq P 248 #[.slice b c d,ae e,ae f,g] w (bt Q)
def eI:=bF (.o (.i .i64))
def jK:=λb c d e f g i w (Q:Int->WP)=>aq P 249 #[.slice b c d,ae e,ae f,ae g,i] w (eI Q)
def cU:=gd [.o (.i .i64),.o .b]
def lJ:=λb c d e f g i w (Q:Int->Bool->WP)=>aq P 250 #[.slice b c d,ae e,ae f,ae g,i] w (cU Q)
def v8:=bF (.o (.i .i64))
def FR:=λb w (Q:Int->WP)=>aq P 252 #[.int .u64 b] w (v8 Q)
def Yf:=bF (.o .b)
def qQ:=λb w (Q:Bool->WP)=>aq P 253 #[ae b] w (Yf Q)
def T0:=bF (.o .b)
def GH:=λb c d e f g i j w (Q:Bool->WP)=>aq P 254 #[.agg #[ae b,ae c,.slice d e f],.slice g i j] w (T0 Q)
def aiu:=gd [.o .l,.o (.i .i64)]
def Il:=λb c d e f g w (Q:L3 (Int->WP))=>aq P 255 #[.agg #[ae b,ae c,.slice d e f],ae g] w (aiu Q)
def UE:=bF (.o .b)
def sM:=λb c d e w (Q:Bool->WP)=>aq P 256 #[.agg #[ae b,ae c],.agg #[ae d,ae e]] w (UE Q)
def Yg:=bF (.o (.i .i64))
def Bv:=λb w (Q:Int->WP)=>aq P 257 #[.pointer b] w (Yg Q)
def UF:=gd [.o (.i .i64),.o .b]
def FT:=λb c w (Q:Int->Bool->WP)=>aq P 258 #[.pointer b,ae c] w (UF Q)
def Ev:=gd []
def jU:=λb w (Q:WP)=>aq P 259 #[.pointer b] w (Ev Q)
def Yh:=bF (.o (.i .i64))
def qR:=λb w (Q:Int->WP)=>aq P 260 #[.pointer b] w (Yh Q)
def Ko:=gd [.o (.i .i64),.o (.i .i64),.o .b]
def Bw:=λb w (Q:Int->Int->Bool->WP)=>aq P 261 #[.pointer b] w (Ko Q)
def pP:=gd []
def tB:=λb c w (Q:WP)=>aq P 262 #[.pointer b,ae c] w (pP Q)
def Yi:=bF (.o .b)
def nS:=λb c d w (Q:Bool->WP)=>aq P 263 #[.pointer b,ae c,ae d] w (Yi Q)
def xE:=bF (.o (.i .i64))
def vv:=λb c d e w (Q:Int->WP)=>aq P 264 #[.slice b c d,e] w (xE Q)
def jB:=gd []
def jb:=λb c d e f g i w (Q:WP)=>aq P 265 #[.slice b c d,ae e,ae f,ae g,i] w (jB Q)
def KM:=bF (.o (.i .u64))
def Ac:=λb w (Q:Int->WP)=>aq P 266 #[ae b] w (KM Q)
def LP:=bF (.o (.i .u64))
def tC:=λb w (Q:Int->WP)=>aq P 267 #[.pointer b] w (LP Q)
def z6:=bF (.o (.i .i64))
def fo:=λb c d e f g w (Q:Int->WP)=>aq P 268 #[.slice b c d,ae e,.pointer f,g] w (z6 Q)
def Ew:=bF (.o (.i .i64))
def jC:=λb c d e f g i j w (Q:Int->WP)=>aq P 269 #[.slice b c d,ae e,ae f,ae g,.pointer i,j] w (Ew Q)
def aks:=bF (.o (.i .i64))
def JW:=λb c d e f g w (Q:Int->WP)=>aq P 270 #[.agg #[ae b,ae c,.slice d e f],ae g] w (aks Q)
def wC:=gd [.o (.i .i64),.o .b]
def nZ:=λb c d e w (Q:Int->Bool->WP)=>aq P 271 #[.slice b c d,ae e] w (wC Q)
def VU:=bF (.o .b)
def AE:=λb c w (Q:Bool->WP)=>aq P 272 #[.pointer b,ae c] w (VU Q)
def Yj:=bF (.o .b)
def v9:=λb c d w (Q:Bool->WP)=>aq P 273 #[.pointer b,ae c,ae d] w (Yj Q)
def Qj:=bF (.o .b)
def qJ:=λb w (Q:Bool->WP)=>aq P 274 #[.pointer b] w (Qj Q)
def UG:=bF (.o (.i .i64))
def zq:=λb w (Q:Int->WP)=>aq P 275 #[.pointer b] w (UG Q)
def MY:=gd []
def iB:=λb c d w (Q:WP)=>aq P 276 #[.pointer b,ae c,ae d] w (MY Q)
def v_:=bF (.o (.i .i64))
def zu:=λb c d w (Q:Int->WP)=>aq P 277 #[.pointer b,ae c,ae d] w (v_ Q)
def Ex:=gd [.o (.i .i64),.o (.i .i64)]
def gT:=λb c d e f g i w (Q:Int->Int->WP)=>aq P 278 #[.slice b c d,ae e,ae f,.pointer g,i] w (Ex Q)
def akt:=bF (.o .b)
def JX:=λb c d e f g w (Q:Bool->WP)=>aq P 279 #[.agg #[ae b,ae c,.slice d e f],ae g] w (akt Q)
def ZT:=bF (.o .b)
def Jl:=λb c w (Q:Bool->WP)=>aq P 280 #[ae b,ae c] w (ZT Q)
def Sv:=bF (.o .b)
def n6:=λb w (Q:Bool->WP)=>aq P 281 #[ae b] w (Sv Q)
def UH:=gd []
def zv:=λb c w (Q:WP)=>aq P 282 #[.pointer b,ae c] w (UH Q)
def VV:=bF (.o .w)
def GI:=λb w (Q:Value->WP)=>aq P 302 #[.pointer b] w (VV Q)
def Qk:=bF (.o .w)
def DN:=λb w (Q:Value->WP)=>aq P 321 #[.pointer b] w (Qk Q)
def UI:=bF (.o .w)
def FU:=λb w (Q:Value->WP)=>aq P 325 #[.pointer b] w (UI Q)
def uI:=λa b c w Q=>bB (a_ a b c w Q) (NZ (IntKind.wrap .i64 ((IntKind.wrap .i64 (c-b))+1))<|cond (decide ((Int.tmod a (IntKind.wrap .i64 ((IntKind.wrap .i64 (c-b))+1)))<0)) (Q (IntKind.wrap .i64 (b+(IntKind.wrap .i64 ((IntKind.wrap .i64 ((IntKind.wrap .i64 ((Int.tmod a (IntKind.wrap .i64 ((IntKind.wrap .i64 (c-b))+1)))+c))-b))+1)))) w) (Q (IntKind.wrap .i64 (b+(Int.tmod a (IntKind.wrap .i64 ((IntKind.wrap .i64 (c-b))+1))))) w)) (ok 24) [] [] Tryz.func10
def UJ:=λa w Q=>bB (vX a w Q) (cond (!a.isNone) (cB P 180 none w λb w=>wA a λc=>St (c.add 1) (.slice none 0 0) w λw=>wA a λd=>St (d.add 2) (.map b) w λw=>wA a λe=>St (e.add 3) (ae (-1)) w λw=>wA a λf=>St (f.add 4) (ae (-1)) w λw=>Q w) (Q w)) (ok 17) [] [] Tryz.func108
def agM:=λa w Q=>bB (JS a w Q) (cond (decide (a<1)) (Q none w) (Bx [ae a,.slice none 0 0,.map none,ae 0,ae 0] 182 w λb w=>vX (some b) w λw=>Q (some b) w)) (ok 12) [] [] Tryz.func74
def abI:=λa w Q=>bB (Gv a w Q) (cond (decide (a<1)) (Q none w) (JS a w λb w=>Bx [.pointer b,.slice none 0 0,.int .u64 0,.int .u64 0,.int .u64 0,.int .u64 0,.int .u64 0,.int .u64 0] 135 w λc w=>Q (some c) w)) (ok 9) [] [] Tryz.func47
def agN:=λa w Q=>bB (JP a w Q) (cond (decide (a<1)) (Q none w) (Gv a w λb w=>Bx [.pointer none,.pointer none,.pointer none,.pointer b,.int .u64 0,.int .u64 0,.int .u64 0,.int .u64 0,.int .u64 0,.int .u64 0] 106 w λc w=>Q (some c) w)) (ok 9) [] [] Tryz.func27
def agO:=λa b w Q=>bB (EU a b w Q) (cond (decide (a<1)) (Q none w) (cond (decide (b<1)) (Q none w) (cond (decide (b>65536)) (Q none w) (JP a w λc w=>Bx [ae b,.pointer c,.pointer none] 72 w λd w=>Q (some d) w)))) (ok 20) [] [] Tryz.func11
def FV:=λa w Q=>bB (y9 a w Q) (cond a.isNone (Q none w) (wA a λb=>bg (b.add 1) w λc=>Q c w)) (ok 9) [] [] Tryz.func39
def VW:=λa b c d e f w Q=>bB (cY a b c d e f w Q) (Bx [.int .u64 a,.int .u64 b,.int .u64 c,.int .u64 d,.int .u64 e,.int .u64 f] 32 w λg w=>Al T 175 w λi w=>af .u64 g w λj=>af .u64 (g.add 1) w λl=>af .u64 (g.add 2) w λm=>af .u64 (g.add 3) w λn=>af .u64 (g.add 4) w λo=>af .u64 (g.add 5) w λp=>St (i.add 0) (.int .u64 j) w λw=>St (i.add 1) (.int .u64 l) w λw=>St (i.add 2) (.int .u64 m) w λw=>St (i.add 3) (.int .u64 n) w λw=>St (i.add 4) (.int .u64 o) w λw=>St (i.add 5) (.int .u64 p) w λw=>af .u64 (i.add 0) w λq=>af .u64 (i.add 1) w λr=>af .u64 (i.add 2) w λs=>af .u64 (i.add 3) w λt=>af .u64 (i.add 4) w λu=>af .u64 (i.add 5) w λv=>Q q r s t u v w) (ok 16) [] [] Tryz.func104
def abJ:=λa b w Q=>bB (sG a b w Q) (cond (decide (a>(IntKind.wrap .u64 (18446744073709551615-b)))) (Q 18446744073709551615 w) (Q (IntKind.wrap .u64 (a+b)) w)) (ok 12) [] [] Tryz.func105
def tD (Q:Int->Int->Int->Int->Int->Int->WP)(R3:Addr->Addr->Addr->Int->WP)(a b c:Addr)(d:Int)(w:World):Prop:=cond (decide (d<6)) (aJ d 6<|af .u64 (b.add (d.toNat*1)) w.drew λe=>aJ d 6<|af .u64 (c.add (d.toNat*1)) w.drew λf=>sG e f w.drew λg w=>aJ d 6<|St (b.add (d.toNat*1)) (.int .u64 g) w λw=>R3 a b c (IntKind.wrap .i64 (d+1)) w) (aJ 0 6<|af .u64 (b.add (((0:Int).toNat)*1)) w λi=>aJ 1 6<|af .u64 (b.add (((1:Int).toNat)*1)) w λj=>aJ 2 6<|af .u64 (b.add (((2:Int).toNat)*1)) w λl=>aJ 3 6<|af .u64 (b.add (((3:Int).toNat)*1)) w λm=>aJ 4 6<|af .u64 (b.add (((4:Int).toNat)*1)) w λn=>aJ 5 6<|af .u64 (b.add (((5:Int).toNat)*1)) w λo=>St (a.add 0) (.int .u64 i) w λw=>St (a.add 1) (.int .u64 j) w λw=>St (a.add 2) (.int .u64 l) w λw=>St (a.add 3) (.int .u64 m) w λw=>St (a.add 4) (.int .u64 n) w λw=>St (a.add 5) (.int .u64 o) w λw=>af .u64 (a.add 0) w λp=>af .u64 (a.add 1) w λq=>af .u64 (a.add 2) w λr=>af .u64 (a.add 3) w λs=>af .u64 (a.add 4) w λt=>af .u64 (a.add 5) w λu=>Q p q r s t u w)
def qp (Q:Int->Int->Int->Int->Int->Int->WP):Nat->Addr->Addr->Addr->Int->WP
 |0,_,_,_,_,_=>False
 |k+1,a,b,c,d,w=>tD Q (qp Q k) a b c d w
def g6 (Q:Int->Int->Int->Int->Int->Int->WP)(a b c:Addr)(w:World):Prop:=∃k',qp Q k' a b c 0 w
noncomputable def Im:cz:=[(1,.op 0 (.op 2 (.br (.op 1 (.br (.op 3 (.br (.op 4 (.op 5 (.op 6 (.op 7 .done)))) (.op 5 (.op 4 (.op 6 (.op 7 .done)))))) (.br (.op 4 (.br (.op 3 (.op 5 (.op 6 (.op 7 .done)))) (.op 5 (.op 3 (.op 6 (.op 7 .done)))))) (.op 5 (.br (.op 3 (.op 4 (.op 6 (.op 7 .done)))) (.op 4 (.op 3 (.op 6 (.op 7 .done))))))))) (.br (.op 4 (.br (.op 1 (.br (.op 3 (.op 5 (.op 6 (.op 7 .done)))) (.op 5 (.op 3 (.op 6 (.op 7 .done)))))) (.op 5 (.op 1 (.op 3 (.op 6 (.op 7 .done))))))) (.op 5 (.br (.op 1 (.br (.op 3 (.op 4 (.op 6 (.op 7 .done)))) (.op 4 (.op 3 (.op 6 (.op 7 .done)))))) (.op 4 (.op 1 (.op 3 (.op 6 (.op 7 .done))))))))))),(5,sp 0 7 (.op 7 (.op 8 (.op 9 .done))))]
def agP (Q):∀k,Bk 38 Tryz.f70 (JR Q) 3 [(4,.a),(5,.a),(6,.a),(12,.i .i64)] (qp Q k):=bL λk h=>aU (ok 38) Im [aO h]
def agQ (Q):Bk 38 Tryz.f70 (JR Q) 2 [(4,.a),(5,.a),(6,.a)] (g6 Q):=aU (ok 38) Im [cq (agP Q)]
def abK:=λa b c d e f g i j l m n w Q=>bB (xp a b c d e f g i j l m n w Q) (Bx [.int .u64 a,.int .u64 b,.int .u64 c,.int .u64 d,.int .u64 e,.int .u64 f] 32 w λo w=>Bx [.int .u64 g,.int .u64 i,.int .u64 j,.int .u64 l,.int .u64 m,.int .u64 n] 32 w λp w=>Al T 32 w λq w=>af .u64 (o.add 0) w.drew λr=>af .u64 (o.add 1) w.drew λs=>af .u64 (o.add 2) w.drew λt=>af .u64 (o.add 3) w.drew λu=>af .u64 (o.add 4) w.drew λv=>af .u64 (o.add 5) w.drew λx=>af .u64 (p.add 0) w.drew λy=>af .u64 (p.add 1) w.drew λz=>af .u64 (p.add 2) w.drew λa1=>af .u64 (p.add 3) w.drew λb1=>af .u64 (p.add 4) w.drew λc1=>af .u64 (p.add 5) w.drew λd1=>(cY r s t u v x w.drew λe1 f1 g1 i1 j1 l1 w=>w.cell? (p.add 0)=some (.int .u64 y)/\w.cell? (p.add 1)=some (.int .u64 z)/\w.cell? (p.add 2)=some (.int .u64 a1)/\w.cell? (p.add 3)=some (.int .u64 b1)/\w.cell? (p.add 4)=some (.int .u64 c1)/\w.cell? (p.add 5)=some (.int .u64 d1)/\(cY y z a1 b1 c1 d1 w λm1 n1 o1 p1 q1 r1 w=>(Al T 175 w λs1 w=>w.cell? (p.add 0)=some (.int .u64 y)/\w.cell? (p.add 1)=some (.int .u64 z)/\w.cell? (p.add 2)=some (.int .u64 a1)/\w.cell? (p.add 3)=some (.int .u64 b1)/\w.cell? (p.add 4)=some (.int .u64 c1)/\w.cell? (p.add 5)=some (.int .u64 d1)/\w.cell? (o.add 0)=some (.int .u64 r)/\w.cell? (o.add 1)=some (.int .u64 s)/\w.cell? (o.add 2)=some (.int .u64 t)/\w.cell? (o.add 3)=some (.int .u64 u)/\w.cell? (o.add 4)=some (.int .u64 v)/\w.cell? (o.add 5)=some (.int .u64 x)/\Al T 175 w λt1 w=>w.cell? (p.add 0)=some (.int .u64 y)/\w.cell? (p.add 1)=some (.int .u64 z)/\w.cell? (p.add 2)=some (.int .u64 a1)/\w.cell? (p.add 3)=some (.int .u64 b1)/\w.cell? (p.add 4)=some (.int .u64 c1)/\w.cell? (p.add 5)=some (.int .u64 d1)/\w.cell? (o.add 0)=some (.int .u64 r)/\w.cell? (o.add 1)=some (.int .u64 s)/\w.cell? (o.add 2)=some (.int .u64 t)/\w.cell? (o.add 3)=some (.int .u64 u)/\w.cell? (o.add 4)=some (.int .u64 v)/\w.cell? (o.add 5)=some (.int .u64 x)/\St (s1.add 0) (.int .u64 e1) w λw=>St (s1.add 1) (.int .u64 f1) w λw=>St (s1.add 2) (.int .u64 g1) w λw=>St (s1.add 3) (.int .u64 i1) w λw=>St (s1.add 4) (.int .u64 j1) w λw=>St (s1.add 5) (.int .u64 l1) w λw=>St (t1.add 0) (.int .u64 m1) w λw=>St (t1.add 1) (.int .u64 n1) w λw=>St (t1.add 2) (.int .u64 o1) w λw=>St (t1.add 3) (.int .u64 p1) w λw=>St (t1.add 4) (.int .u64 q1) w λw=>St (t1.add 5) (.int .u64 r1) w λw=>g6 Q q s1 t1 w)/\(Al T 175 w λu1 w=>w.cell? (p.add 0)=some (.int .u64 y)/\w.cell? (p.add 1)=some (.int .u64 z)/\w.cell? (p.add 2)=some (.int .u64 a1)/\w.cell? (p.add 3)=some (.int .u64 b1)/\w.cell? (p.add 4)=some (.int .u64 c1)/\w.cell? (p.add 5)=some (.int .u64 d1)/\w.cell? (o.add 0)=some (.int .u64 r)/\w.cell? (o.add 1)=some (.int .u64 s)/\w.cell? (o.add 2)=some (.int .u64 t)/\w.cell? (o.add 3)=some (.int .u64 u)/\w.cell? (o.add 4)=some (.int .u64 v)/\w.cell? (o.add 5)=some (.int .u64 x)/\Al T 175 w λv1 w=>w.cell? (p.add 0)=some (.int .u64 y)/\w.cell? (p.add 1)=some (.int .u64 z)/\w.cell? (p.add 2)=some (.int .u64 a1)/\w.cell? (p.add 3)=some (.int .u64 b1)/\w.cell? (p.add 4)=some (.int .u64 c1)/\w.cell? (p.add 5)=some (.int .u64 d1)/\w.cell? (o.add 0)=some (.int .u64 r)/\w.cell? (o.add 1)=some (.int .u64 s)/\w.cell? (o.add 2)=some (.int .u64 t)/\w.cell? (o.add 3)=some (.int .u64 u)/\w.cell? (o.add 4)=some (.int .u64 v)/\w.cell? (o.add 5)=some (.int .u64 x)/\St (v1.add 0) (.int .u64 e1) w λw=>St (v1.add 1) (.int .u64 f1) w λw=>St (v1.add 2) (.int .u64 g1) w λw=>St (v1.add 3) (.int .u64 i1) w λw=>St (v1.add 4) (.int .u64 j1) w λw=>St (v1.add 5) (.int .u64 l1) w λw=>St (u1.add 0) (.int .u64 m1) w λw=>St (u1.add 1) (.int .u64 n1) w λw=>St (u1.add 2) (.int .u64 o1) w λw=>St (u1.add 3) (.int .u64 p1) w λw=>St (u1.add 4) (.int .u64 q1) w λw=>St (u1.add 5) (.int .u64 r1) w λw=>g6 Q q v1 u1 w))/\((Al T 175 w λx1 w=>w.cell? (p.add 0)=some (.int .u64 y)/\w.cell? (p.add 1)=some (.int .u64 z)/\w.cell? (p.add 2)=some (.int .u64 a1)/\w.cell? (p.add 3)=some (.int .u64 b1)/\w.cell? (p.add 4)=some (.int .u64 c1)/\w.cell? (p.add 5)=some (.int .u64 d1)/\w.cell? (o.add 0)=some (.int .u64 r)/\w.cell? (o.add 1)=some (.int .u64 s)/\w.cell? (o.add 2)=some (.int .u64 t)/\w.cell? (o.add 3)=some (.int .u64 u)/\w.cell? (o.add 4)=some (.int .u64 v)/\w.cell? (o.add 5)=some (.int .u64 x)/\(cY y z a1 b1 c1 d1 w λy1 z1 a2 b2 c2 d2 w=>Al T 175 w λe2 w=>w.cell? (p.add 0)=some (.int .u64 y)/\w.cell? (p.add 1)=some (.int .u64 z)/\w.cell? (p.add 2)=some (.int .u64 a1)/\w.cell? (p.add 3)=some (.int .u64 b1)/\w.cell? (p.add 4)=some (.int .u64 c1)/\w.cell? (p.add 5)=some (.int .u64 d1)/\w.cell? (o.add 0)=some (.int .u64 r)/\w.cell? (o.add 1)=some (.int .u64 s)/\w.cell? (o.add 2)=some (.int .u64 t)/\w.cell? (o.add 3)=some (.int .u64 u)/\w.cell? (o.add 4)=some (.int .u64 v)/\w.cell? (o.add 5)=some (.int .u64 x)/\St (x1.add 0) (.int .u64 e1) w λw=>St (x1.add 1) (.int .u64 f1) w λw=>St (x1.add 2) (.int .u64 g1) w λw=>St (x1.add 3) (.int .u64 i1) w λw=>St (x1.add 4) (.int .u64 j1) w λw=>St (x1.add 5) (.int .u64 l1) w λw=>St (e2.add 0) (.int .u64 y1) w λw=>St (e2.add 1) (.int .u64 z1) w λw=>St (e2.add 2) (.int .u64 a2) w λw=>St (e2.add 3) (.int .u64 b2) w λw=>St (e2.add 4) (.int .u64 c2) w λw=>St (e2.add 5) (.int .u64 d2) w λw=>g6 Q q x1 e2 w)/\(Al T 175 w λf2 w=>w.cell? (p.add 0)=some (.int .u64 y)/\w.cell? (p.add 1)=some (.int .u64 z)/\w.cell? (p.add 2)=some (.int .u64 a1)/\w.cell? (p.add 3)=some (.int .u64 b1)/\w.cell? (p.add 4)=some (.int .u64 c1)/\w.cell? (p.add 5)=some (.int .u64 d1)/\w.cell? (o.add 0)=some (.int .u64 r)/\w.cell? (o.add 1)=some (.int .u64 s)/\w.cell? (o.add 2)=some (.int .u64 t)/\w.cell? (o.add 3)=some (.int .u64 u)/\w.cell? (o.add 4)=some (.int .u64 v)/\w.cell? (o.add 5)=some (.int .u64 x)/\cY y z a1 b1 c1 d1 w λg2 i2 j2 l2 m2 n2 w=>St (x1.add 0) (.int .u64 e1) w λw=>St (x1.add 1) (.int .u64 f1) w λw=>St (x1.add 2) (.int .u64 g1) w λw=>St (x1.add 3) (.int .u64 i1) w λw=>St (x1.add 4) (.int .u64 j1) w λw=>St (x1.add 5) (.int .u64 l1) w λw=>St (f2.add 0) (.int .u64 g2) w λw=>St (f2.add 1) (.int .u64 i2) w λw=>St (f2.add 2) (.int .u64 j2) w λw=>St (f2.add 3) (.int .u64 l2) w λw=>St (f2.add 4) (.int .u64 m2) w λw=>St (f2.add 5) (.int .u64 n2) w λw=>g6 Q q x1 f2 w))/\(Al T 175 w λo2 w=>w.cell? (p.add 0)=some (.int .u64 y)/\w.cell? (p.add 1)=some (.int .u64 z)/\w.cell? (p.add 2)=some (.int .u64 a1)/\w.cell? (p.add 3)=some (.int .u64 b1)/\w.cell? (p.add 4)=some (.int .u64 c1)/\w.cell? (p.add 5)=some (.int .u64 d1)/\w.cell? (o.add 0)=some (.int .u64 r)/\w.cell? (o.add 1)=some (.int .u64 s)/\w.cell? (o.add 2)=some (.int .u64 t)/\w.cell? (o.add 3)=some (.int .u64 u)/\w.cell? (o.add 4)=some (.int .u64 v)/\w.cell? (o.add 5)=some (.int .u64 x)/\(cY y z a1 b1 c1 d1 w λp2 q2 r2 s2 t2 u2 w=>Al T 175 w λv2 w=>w.cell? (p.add 0)=some (.int .u64 y)/\w.cell? (p.add 1)=some (.int .u64 z)/\w.cell? (p.add 2)=some (.int .u64 a1)/\w.cell? (p.add 3)=some (.int .u64 b1)/\w.cell? (p.add 4)=some (.int .u64 c1)/\w.cell? (p.add 5)=some (.int .u64 d1)/\w.cell? (o.add 0)=some (.int .u64 r)/\w.cell? (o.add 1)=some (.int .u64 s)/\w.cell? (o.add 2)=some (.int .u64 t)/\w.cell? (o.add 3)=some (.int .u64 u)/\w.cell? (o.add 4)=some (.int .u64 v)/\w.cell? (o.add 5)=some (.int .u64 x)/\St (v2.add 0) (.int .u64 e1) w λw=>St (v2.add 1) (.int .u64 f1) w λw=>St (v2.add 2) (.int .u64 g1) w λw=>St (v2.add 3) (.int .u64 i1) w λw=>St (v2.add 4) (.int .u64 j1) w λw=>St (v2.add 5) (.int .u64 l1) w λw=>St (o2.add 0) (.int .u64 p2) w λw=>St (o2.add 1) (.int .u64 q2) w λw=>St (o2.add 2) (.int .u64 r2) w λw=>St (o2.add 3) (.int .u64 s2) w λw=>St (o2.add 4) (.int .u64 t2) w λw=>St (o2.add 5) (.int .u64 u2) w λw=>g6 Q q v2 o2 w)/\(Al T 175 w λx2 w=>w.cell? (p.add 0)=some (.int .u64 y)/\w.cell? (p.add 1)=some (.int .u64 z)/\w.cell? (p.add 2)=some (.int .u64 a1)/\w.cell? (p.add 3)=some (.int .u64 b1)/\w.cell? (p.add 4)=some (.int .u64 c1)/\w.cell? (p.add 5)=some (.int .u64 d1)/\w.cell? (o.add 0)=some (.int .u64 r)/\w.cell? (o.add 1)=some (.int .u64 s)/\w.cell? (o.add 2)=some (.int .u64 t)/\w.cell? (o.add 3)=some (.int .u64 u)/\w.cell? (o.add 4)=some (.int .u64 v)/\w.cell? (o.add 5)=some (.int .u64 x)/\cY y z a1 b1 c1 d1 w λy2 z2 a3 b3 c3 d3 w=>St (x2.add 0) (.int .u64 e1) w λw=>St (x2.add 1) (.int .u64 f1) w λw=>St (x2.add 2) (.int .u64 g1) w λw=>St (x2.add 3) (.int .u64 i1) w λw=>St (x2.add 4) (.int .u64 j1) w λw=>St (x2.add 5) (.int .u64 l1) w λw=>St (o2.add 0) (.int .u64 y2) w λw=>St (o2.add 1) (.int .u64 z2) w λw=>St (o2.add 2) (.int .u64 a3) w λw=>St (o2.add 3) (.int .u64 b3) w λw=>St (o2.add 4) (.int .u64 c3) w λw=>St (o2.add 5) (.int .u64 d3) w λw=>g6 Q q x2 o2 w))))/\((Al T 175 w.drew λe3 w=>w.cell? (p.add 0)=some (.int .u64 y)/\w.cell? (p.add 1)=some (.int .u64 z)/\w.cell? (p.add 2)=some (.int .u64 a1)/\w.cell? (p.add 3)=some (.int .u64 b1)/\w.cell? (p.add 4)=some (.int .u64 c1)/\w.cell? (p.add 5)=some (.int .u64 d1)/\w.cell? (o.add 0)=some (.int .u64 r)/\w.cell? (o.add 1)=some (.int .u64 s)/\w.cell? (o.add 2)=some (.int .u64 t)/\w.cell? (o.add 3)=some (.int .u64 u)/\w.cell? (o.add 4)=some (.int .u64 v)/\w.cell? (o.add 5)=some (.int .u64 x)/\(cY r s t u v x w λf3 g3 i3 j3 l3 m3 w=>w.cell? (p.add 0)=some (.int .u64 y)/\w.cell? (p.add 1)=some (.int .u64 z)/\w.cell? (p.add 2)=some (.int .u64 a1)/\w.cell? (p.add 3)=some (.int .u64 b1)/\w.cell? (p.add 4)=some (.int .u64 c1)/\w.cell? (p.add 5)=some (.int .u64 d1)/\(cY y z a1 b1 c1 d1 w λn3 o3 p3 q3 r3 s3 w=>Al T 175 w λt3 w=>w.cell? (p.add 0)=some (.int .u64 y)/\w.cell? (p.add 1)=some (.int .u64 z)/\w.cell? (p.add 2)=some (.int .u64 a1)/\w.cell? (p.add 3)=some (.int .u64 b1)/\w.cell? (p.add 4)=some (.int .u64 c1)/\w.cell? (p.add 5)=some (.int .u64 d1)/\w.cell? (o.add 0)=some (.int .u64 r)/\w.cell? (o.add 1)=some (.int .u64 s)/\w.cell? (o.add 2)=some (.int .u64 t)/\w.cell? (o.add 3)=some (.int .u64 u)/\w.cell? (o.add 4)=some (.int .u64 v)/\w.cell? (o.add 5)=some (.int .u64 x)/\St (e3.add 0) (.int .u64 f3) w λw=>St (e3.add 1) (.int .u64 g3) w λw=>St (e3.add 2) (.int .u64 i3) w λw=>St (e3.add 3) (.int .u64 j3) w λw=>St (e3.add 4) (.int .u64 l3) w λw=>St (e3.add 5) (.int .u64 m3) w λw=>St (t3.add 0) (.int .u64 n3) w λw=>St (t3.add 1) (.int .u64 o3) w λw=>St (t3.add 2) (.int .u64 p3) w λw=>St (t3.add 3) (.int .u64 q3) w λw=>St (t3.add 4) (.int .u64 r3) w λw=>St (t3.add 5) (.int .u64 s3) w λw=>g6 Q q e3 t3 w)/\(Al T 175 w λu3 w=>w.cell? (p.add 0)=some (.int .u64 y)/\w.cell? (p.add 1)=some (.int .u64 z)/\w.cell? (p.add 2)=some (.int .u64 a1)/\w.cell? (p.add 3)=some (.int .u64 b1)/\w.cell? (p.add 4)=some (.int .u64 c1)/\w.cell? (p.add 5)=some (.int .u64 d1)/\w.cell? (o.add 0)=some (.int .u64 r)/\w.cell? (o.add 1)=some (.int .u64 s)/\w.cell? (o.add 2)=some (.int .u64 t)/\w.cell? (o.add 3)=some (.int .u64 u)/\w.cell? (o.add 4)=some (.int .u64 v)/\w.cell? (o.add 5)=some (.int .u64 x)/\cY y z a1 b1 c1 d1 w λv3 x3 y3 z3 a4 b4 w=>St (e3.add 0) (.int .u64 f3) w λw=>St (e3.add 1) (.int .u64 g3) w λw=>St (e3.add 2) (.int .u64 i3) w λw=>St (e3.add 3) (.int .u64 j3) w λw=>St (e3.add 4) (.int .u64 l3) w λw=>St (e3.add 5) (.int .u64 m3) w λw=>St (u3.add 0) (.int .u64 v3) w λw=>St (u3.add 1) (.int .u64 x3) w λw=>St (u3.add 2) (.int .u64 y3) w λw=>St (u3.add 3) (.int .u64 z3) w λw=>St (u3.add 4) (.int .u64 a4) w λw=>St (u3.add 5) (.int .u64 b4) w λw=>g6 Q q e3 u3 w))/\(Al T 175 w λc4 w=>w.cell? (p.add 0)=some (.int .u64 y)/\w.cell? (p.add 1)=some (.int .u64 z)/\w.cell? (p.add 2)=some (.int .u64 a1)/\w.cell? (p.add 3)=some (.int .u64 b1)/\w.cell? (p.add 4)=some (.int .u64 c1)/\w.cell? (p.add 5)=some (.int .u64 d1)/\w.cell? (o.add 0)=some (.int .u64 r)/\w.cell? (o.add 1)=some (.int .u64 s)/\w.cell? (o.add 2)=some (.int .u64 t)/\w.cell? (o.add 3)=some (.int .u64 u)/\w.cell? (o.add 4)=some (.int .u64 v)/\w.cell? (o.add 5)=some (.int .u64 x)/\cY r s t u v x w λd4 e4 f4 g4 i4 j4 w=>w.cell? (p.add 0)=some (.int .u64 y)/\w.cell? (p.add 1)=some (.int .u64 z)/\w.cell? (p.add 2)=some (.int .u64 a1)/\w.cell? (p.add 3)=some (.int .u64 b1)/\w.cell? (p.add 4)=some (.int .u64 c1)/\w.cell? (p.add 5)=some (.int .u64 d1)/\cY y z a1 b1 c1 d1 w λl4 m4 n4 o4 p4 q4 w=>St (e3.add 0) (.int .u64 d4) w λw=>St (e3.add 1) (.int .u64 e4) w λw=>St (e3.add 2) (.int .u64 f4) w λw=>St (e3.add 3) (.int .u64 g4) w λw=>St (e3.add 4) (.int .u64 i4) w λw=>St (e3.add 5) (.int .u64 j4) w λw=>St (c4.add 0) (.int .u64 l4) w λw=>St (c4.add 1) (.int .u64 m4) w λw=>St (c4.add 2) (.int .u64 n4) w λw=>St (c4.add 3) (.int .u64 o4) w λw=>St (c4.add 4) (.int .u64 p4) w λw=>St (c4.add 5) (.int .u64 q4) w λw=>g6 Q q e3 c4 w))/\(Al T 175 w.drew λr4 w=>w.cell? (p.add 0)=some (.int .u64 y)/\w.cell? (p.add 1)=some (.int .u64 z)/\w.cell? (p.add 2)=some (.int .u64 a1)/\w.cell? (p.add 3)=some (.int .u64 b1)/\w.cell? (p.add 4)=some (.int .u64 c1)/\w.cell? (p.add 5)=some (.int .u64 d1)/\w.cell? (o.add 0)=some (.int .u64 r)/\w.cell? (o.add 1)=some (.int .u64 s)/\w.cell? (o.add 2)=some (.int .u64 t)/\w.cell? (o.add 3)=some (.int .u64 u)/\w.cell? (o.add 4)=some (.int .u64 v)/\w.cell? (o.add 5)=some (.int .u64 x)/\(cY r s t u v x w λs4 t4 u4 v4 x4 y4 w=>w.cell? (p.add 0)=some (.int .u64 y)/\w.cell? (p.add 1)=some (.int .u64 z)/\w.cell? (p.add 2)=some (.int .u64 a1)/\w.cell? (p.add 3)=some (.int .u64 b1)/\w.cell? (p.add 4)=some (.int .u64 c1)/\w.cell? (p.add 5)=some (.int .u64 d1)/\(cY y z a1 b1 c1 d1 w λz4 a5 b5 c5 d5 e5 w=>Al T 175 w λf5 w=>w.cell? (p.add 0)=some (.int .u64 y)/\w.cell? (p.add 1)=some (.int .u64 z)/\w.cell? (p.add 2)=some (.int .u64 a1)/\w.cell? (p.add 3)=some (.int .u64 b1)/\w.cell? (p.add 4)=some (.int .u64 c1)/\w.cell? (p.add 5)=some (.int .u64 d1)/\w.cell? (o.add 0)=some (.int .u64 r)/\w.cell? (o.add 1)=some (.int .u64 s)/\w.cell? (o.add 2)=some (.int .u64 t)/\w.cell? (o.add 3)=some (.int .u64 u)/\w.cell? (o.add 4)=some (.int .u64 v)/\w.cell? (o.add 5)=some (.int .u64 x)/\St (f5.add 0) (.int .u64 s4) w λw=>St (f5.add 1) (.int .u64 t4) w λw=>St (f5.add 2) (.int .u64 u4) w λw=>St (f5.add 3) (.int .u64 v4) w λw=>St (f5.add 4) (.int .u64 x4) w λw=>St (f5.add 5) (.int .u64 y4) w λw=>St (r4.add 0) (.int .u64 z4) w λw=>St (r4.add 1) (.int .u64 a5) w λw=>St (r4.add 2) (.int .u64 b5) w λw=>St (r4.add 3) (.int .u64 c5) w λw=>St (r4.add 4) (.int .u64 d5) w λw=>St (r4.add 5) (.int .u64 e5) w λw=>g6 Q q f5 r4 w)/\(Al T 175 w λg5 w=>w.cell? (p.add 0)=some (.int .u64 y)/\w.cell? (p.add 1)=some (.int .u64 z)/\w.cell? (p.add 2)=some (.int .u64 a1)/\w.cell? (p.add 3)=some (.int .u64 b1)/\w.cell? (p.add 4)=some (.int .u64 c1)/\w.cell? (p.add 5)=some (.int .u64 d1)/\w.cell? (o.add 0)=some (.int .u64 r)/\w.cell? (o.add 1)=some (.int .u64 s)/\w.cell? (o.add 2)=some (.int .u64 t)/\w.cell? (o.add 3)=some (.int .u64 u)/\w.cell? (o.add 4)=some (.int .u64 v)/\w.cell? (o.add 5)=some (.int .u64 x)/\cY y z a1 b1 c1 d1 w λi5 j5 l5 m5 n5 o5 w=>St (g5.add 0) (.int .u64 s4) w λw=>St (g5.add 1) (.int .u64 t4) w λw=>St (g5.add 2) (.int .u64 u4) w λw=>St (g5.add 3) (.int .u64 v4) w λw=>St (g5.add 4) (.int .u64 x4) w λw=>St (g5.add 5) (.int .u64 y4) w λw=>St (r4.add 0) (.int .u64 i5) w λw=>St (r4.add 1) (.int .u64 j5) w λw=>St (r4.add 2) (.int .u64 l5) w λw=>St (r4.add 3) (.int .u64 m5) w λw=>St (r4.add 4) (.int .u64 n5) w λw=>St (r4.add 5) (.int .u64 o5) w λw=>g6 Q q g5 r4 w))/\(Al T 175 w λp5 w=>w.cell? (p.add 0)=some (.int .u64 y)/\w.cell? (p.add 1)=some (.int .u64 z)/\w.cell? (p.add 2)=some (.int .u64 a1)/\w.cell? (p.add 3)=some (.int .u64 b1)/\w.cell? (p.add 4)=some (.int .u64 c1)/\w.cell? (p.add 5)=some (.int .u64 d1)/\w.cell? (o.add 0)=some (.int .u64 r)/\w.cell? (o.add 1)=some (.int .u64 s)/\w.cell? (o.add 2)=some (.int .u64 t)/\w.cell? (o.add 3)=some (.int .u64 u)/\w.cell? (o.add 4)=some (.int .u64 v)/\w.cell? (o.add 5)=some (.int .u64 x)/\cY r s t u v x w λq5 r5 s5 t5 u5 v5 w=>w.cell? (p.add 0)=some (.int .u64 y)/\w.cell? (p.add 1)=some (.int .u64 z)/\w.cell? (p.add 2)=some (.int .u64 a1)/\w.cell? (p.add 3)=some (.int .u64 b1)/\w.cell? (p.add 4)=some (.int .u64 c1)/\w.cell? (p.add 5)=some (.int .u64 d1)/\cY y z a1 b1 c1 d1 w λx5 y5 z5 a6 b6 c6 w=>St (p5.add 0) (.int .u64 q5) w λw=>St (p5.add 1) (.int .u64 r5) w λw=>St (p5.add 2) (.int .u64 s5) w λw=>St (p5.add 3) (.int .u64 t5) w λw=>St (p5.add 4) (.int .u64 u5) w λw=>St (p5.add 5) (.int .u64 v5) w λw=>St (r4.add 0) (.int .u64 x5) w λw=>St (r4.add 1) (.int .u64 y5) w λw=>St (r4.add 2) (.int .u64 z5) w λw=>St (r4.add 3) (.int .u64 a6) w λw=>St (r4.add 4) (.int .u64 b6) w λw=>St (r4.add 5) (.int .u64 c6) w λw=>g6 Q q p5 r4 w)))) (ok 38) Im [aO (agQ Q)] Tryz.func70
def FW:=λa w Q=>bB (sH a w Q) (cond a.isNone (Q 0 w) (wA a λb=>af .u64 (b.add 3) w λc=>Q c w)) (ok 9) [] [] Tryz.func106
def Cw:=λa w Q=>bB (pN a w Q) (cond a.isNone (Q 0 w) (wA a λb=>af .u64 (b.add 3) w λc=>Q c w)) (ok 9) [] [] Tryz.func107
noncomputable def UK:cz:=[(1,sp 0 4 (sp 5 4 (.op 4 (.op 9 (.op 10 (.op 11 .done))))))]
def Sw:=λa w Q=>bB (ux a w Q) (Al T 32 w λb w=>wA a λc=>bg (c.add 1) w.drew λd=>wA a λe=>bg (e.add 2) w.drew λf=>sH d w.drew λg w=>w.cell? (e.add 2)=some (.pointer f)/\pN f w λi w=>St (b.add 0) (.int .u64 g) w λw=>St (b.add 1) (.int .u64 i) w λw=>St (b.add 2) (.int .u64 0) w λw=>St (b.add 3) (.int .u64 0) w λw=>St (b.add 4) (.int .u64 0) w λw=>St (b.add 5) (.int .u64 0) w λw=>af .u64 (b.add 0) w λj=>af .u64 (b.add 1) w λl=>af .u64 (b.add 2) w λm=>af .u64 (b.add 3) w λn=>af .u64 (b.add 4) w λo=>af .u64 (b.add 5) w λp=>Q j l m n o p w) (ok 14) UK [] Tryz.func71
def MZ:=λa w Q=>bB (wQ a w Q) (Al T 32 w λb w=>cond a.isNone (St (b.add 0) (.int .u64 0) w λw=>St (b.add 1) (.int .u64 0) w λw=>St (b.add 2) (.int .u64 0) w λw=>St (b.add 3) (.int .u64 0) w λw=>St (b.add 4) (.int .u64 0) w λw=>St (b.add 5) (.int .u64 0) w λw=>af .u64 (b.add 0) w λc=>af .u64 (b.add 1) w λd=>af .u64 (b.add 2) w λe=>af .u64 (b.add 3) w λf=>af .u64 (b.add 4) w λg=>af .u64 (b.add 5) w λi=>Q c d e f g i w) (wA a λj=>af .u64 ((j.add 2).add 0) w λl=>af .u64 ((j.add 2).add 1) w λm=>af .u64 ((j.add 2).add 2) w λn=>af .u64 ((j.add 2).add 3) w λo=>af .u64 ((j.add 2).add 4) w λp=>af .u64 ((j.add 2).add 5) w λq=>St (b.add 0) (.int .u64 l) w λw=>St (b.add 1) (.int .u64 m) w λw=>St (b.add 2) (.int .u64 n) w λw=>St (b.add 3) (.int .u64 o) w λw=>St (b.add 4) (.int .u64 p) w λw=>St (b.add 5) (.int .u64 q) w λw=>af .u64 (b.add 0) w λr=>af .u64 (b.add 1) w λs=>af .u64 (b.add 2) w λt=>af .u64 (b.add 3) w λu=>af .u64 (b.add 4) w λv=>af .u64 (b.add 5) w λx=>Q r s t u v x w)) (ok 10) [] [] Tryz.func72
noncomputable def VX:cz:=[(3,sp 0 5 (sp 7 4 (.op 5 (.op 6 (.op 11 (.op 12 (.op 13 .done)))))))]
def UL:=λa w Q=>bB (Bs a w Q) (Al T 32 w λb w=>cond a.isNone (St (b.add 0) (.int .u64 0) w λw=>St (b.add 1) (.int .u64 0) w λw=>St (b.add 2) (.int .u64 0) w λw=>St (b.add 3) (.int .u64 0) w λw=>St (b.add 4) (.int .u64 0) w λw=>St (b.add 5) (.int .u64 0) w λw=>af .u64 (b.add 0) w λc=>af .u64 (b.add 1) w λd=>af .u64 (b.add 2) w λe=>af .u64 (b.add 3) w λf=>af .u64 (b.add 4) w λg=>af .u64 (b.add 5) w λi=>Q c d e f g i w) (wA a λj=>af .u64 ((j.add 4).add 0) w.drew λl=>af .u64 ((j.add 4).add 1) w.drew λm=>af .u64 ((j.add 4).add 2) w.drew λn=>af .u64 ((j.add 4).add 3) w.drew λo=>af .u64 ((j.add 4).add 4) w.drew λp=>af .u64 ((j.add 4).add 5) w.drew λq=>wA a λr=>bg (r.add 3) w.drew λs=>ux a w.drew λt u v x y z w=>w.cell? (r.add 3)=some (.pointer s)/\w.cell? ((j.add 4).add 0)=some (.int .u64 l)/\w.cell? ((j.add 4).add 1)=some (.int .u64 m)/\w.cell? ((j.add 4).add 2)=some (.int .u64 n)/\w.cell? ((j.add 4).add 3)=some (.int .u64 o)/\w.cell? ((j.add 4).add 4)=some (.int .u64 p)/\w.cell? ((j.add 4).add 5)=some (.int .u64 q)/\xp l m n o p q t u v x y z w λa1 b1 c1 d1 e1 f1 w=>w.cell? (r.add 3)=some (.pointer s)/\wQ s w λg1 i1 j1 l1 m1 n1 w=>xp a1 b1 c1 d1 e1 f1 g1 i1 j1 l1 m1 n1 w λo1 p1 q1 r1 s1 t1 w=>St (b.add 0) (.int .u64 o1) w λw=>St (b.add 1) (.int .u64 p1) w λw=>St (b.add 2) (.int .u64 q1) w λw=>St (b.add 3) (.int .u64 r1) w λw=>St (b.add 4) (.int .u64 s1) w λw=>St (b.add 5) (.int .u64 t1) w λw=>af .u64 (b.add 0) w λu1=>af .u64 (b.add 1) w λv1=>af .u64 (b.add 2) w λx1=>af .u64 (b.add 3) w λy1=>af .u64 (b.add 4) w λz1=>af .u64 (b.add 5) w λa2=>Q u1 v1 x1 y1 z1 a2 w)) (ok 19) VX [] Tryz.func43
def M0:=λa w Q=>bB (wK a w Q) (Al T 32 w λb w=>y9 a w λc w=>Bs c w λd e f g i j w=>St (b.add 0) (.int .u64 d) w λw=>St (b.add 1) (.int .u64 e) w λw=>St (b.add 2) (.int .u64 f) w λw=>St (b.add 3) (.int .u64 g) w λw=>St (b.add 4) (.int .u64 i) w λw=>St (b.add 5) (.int .u64 j) w λw=>af .u64 (b.add 0) w λl=>af .u64 (b.add 1) w λm=>af .u64 (b.add 2) w λn=>af .u64 (b.add 3) w λo=>af .u64 (b.add 4) w λp=>af .u64 (b.add 5) w λq=>Q l m n o p q w) (ok 6) [] [] Tryz.func22
def ng (Q:Int->Int->Bool->Bool->WP)(a b:Addr)(w:World):Prop:=af .i64 (b.add 0) w λc=>af .i64 (b.add 1) w λd=>cD (b.add 2) w λe=>St (a.add 0) (ae c) w λw=>St (a.add 1) (ae d) w λw=>St (a.add 2) (.bool e) w λw=>af .i64 (a.add 0) w λf=>af .i64 (a.add 1) w λg=>cD (a.add 2) w λi=>Q f g i true w
def u_ (Q:Int->Int->Bool->Bool->WP)(a b:Addr)(w:World):Prop:=St (b.add 1) (ae 4) w λw=>St b (ae 4) w λw=>ng Q a b w
def Ql (Q):Bk 26 Tryz.f76 (JT Q) 16 [(2,.a),(4,.a)] (ng Q):=aU (ok 26) [] []
def adR (Q):Bk 26 Tryz.f76 (JT Q) 13 [(2,.a),(4,.a)] (u_ Q):=aU (ok 26) [] [aO (Ql Q)]
def abL:=λa w Q=>bB (xq a w Q) (Al T 137 w λb w=>Al T 137 w λc w=>cond (a==1) (St (c.add 2) (.bool true) w λw=>ng Q b c w) (cond (a==2) (St c (ae 4) w λw=>St (c.add 1) (ae 1) w λw=>ng Q b c w) (cond (a==3) (u_ Q b c w) (cond (a==4) (u_ Q b c w) (cond (a==6) (u_ Q b c w) (cond (a==5) (St c (ae 4) w λw=>ng Q b c w) (cond (a==7) (ng Q b c w) (cond (a==8) (ng Q b c w) (St (b.add 0) (ae 0) w λw=>St (b.add 1) (ae 0) w λw=>St (b.add 2) (.bool false) w λw=>af .i64 (b.add 0) w λd=>af .i64 (b.add 1) w λe=>cD (b.add 2) w λf=>Q d e f false w))))))))) (ok 26) [] [aO (adR Q),aO (Ql Q)] Tryz.func76
def A9 (Q:Int->WP)(R3:Int->L3 (Int->Int->WP))(a:Int)(b:OA)(c d:Nat)(e f:Int)(w:World):Prop:=cond (decide (f<e)) (aJ f c<|wA b λg=>af .u8 (g.add (f.toNat*1)) w λi=>En (IntKind.wrap .i64 (8*f))<|R3 (ior .i64 a (Ca .i64 (IntKind.wrap .i64 i) (IntKind.wrap .i64 (8*f)))) b c d e (IntKind.wrap .i64 (f+1)) w) (Q a w)
def xd (Q:Int->WP):Nat->Int->L3 (Int->Int->WP)
 |0,_,_,_,_,_,_,_=>False
 |k+1,a,b,c,d,e,f,w=>A9 Q (xd Q k) a b c d e f w
def agS (Q):∀k,Bk 22 Tryz.f140 (TY Q) 3 [(3,.i .i64),(6,.l),(7,.i .i64),(8,.i .i64)] (xd Q k):=bL λk h=>aU (ok 22) [] [aO h]
def abM:=λa b c w Q=>bB (xx a b c w Q) (∃k',xd Q k' 0 a b c (b:Int) 0 w) (ok 22) [] [cq (agS Q)] Tryz.func140
noncomputable def aiy:cz:=[(1,sp 0 6 (.op 6 (.op 7 .done))),(14,sp 0 5 (sp 6 9 (sp 17 6 (.op 5 (.op 15 (.op 16 (.op 23 (.op 24 .done))))))))]
def agT:=λa b c w Q=>bB (JV a b c w Q) (Al T 38 w λd w=>aJ 0 b<|wA a λe=>af .u8 (e.add (((0:Int).toNat)*1)) w.drew λf=>bT a b c 1 (some 1) none λg i j=>xq (IntKind.wrap .i64 f) w.drew λl m n o w=>Al T 137 w λp w=>St (p.add 0) (ae l) w λw=>St (p.add 1) (ae m) w λw=>St (p.add 2) (.bool n) w λw=>cond (!o) (St (d.add 0) (ae 0) w λw=>St (d.add 1) (ae (IntKind.wrap .i64 f)) w λw=>St (d.add 2) (ae 0) w λw=>St (d.add 3) (.slice none 0 0) w λw=>af .i64 (d.add 0) w λq=>af .i64 (d.add 1) w λr=>af .i64 (d.add 2) w λs=>aA (d.add 3) w λt u v=>Q q r s t u v 1 w) (cD (p.add 2) w λx=>cond x (cond (decide ((i:Int)<4)) (St (d.add 0) (ae 0) w λw=>St (d.add 1) (ae 0) w λw=>St (d.add 2) (ae 0) w λw=>St (d.add 3) (.slice none 0 0) w λw=>af .i64 (d.add 0) w λy=>af .i64 (d.add 1) w λz=>af .i64 (d.add 2) w λa1=>aA (d.add 3) w λb1 c1 d1=>Q y z a1 b1 c1 d1 0 w) (bT g i j 1 none (some 4) λe1 f1 g1=>xx e1 f1 g1 w λi1 w=>cond (decide ((IntKind.wrap .i64 ((i:Int)-4))<i1)) (St (d.add 0) (ae 0) w λw=>St (d.add 1) (ae 0) w λw=>St (d.add 2) (ae 0) w λw=>St (d.add 3) (.slice none 0 0) w λw=>af .i64 (d.add 0) w λj1=>af .i64 (d.add 1) w λl1=>af .i64 (d.add 2) w λm1=>aA (d.add 3) w λn1 o1 p1=>Q j1 l1 m1 n1 o1 p1 0 w) (bT g i j 1 (some 4) (some (IntKind.wrap .i64 (4+i1))) λq1 r1 s1=>App P #[22,22] 22 (.slice none 0 0) (.slice q1 r1 s1) w λt1 u1 v1 w=>St (d.add 0) (ae (IntKind.wrap .i64 f)) w λw=>St (d.add 1) (ae 0) w λw=>St (d.add 2) (ae 0) w λw=>St (d.add 3) (.slice t1 u1 v1) w λw=>af .i64 (d.add 0) w λx1=>af .i64 (d.add 1) w λy1=>af .i64 (d.add 2) w λz1=>aA (d.add 3) w λa2 b2 c2=>Q x1 y1 z1 a2 b2 c2 (IntKind.wrap .i64 (5+i1)) w))) (af .i64 p w λd2=>af .i64 (p.add 1) w λe2=>cond (decide ((i:Int)<(IntKind.wrap .i64 (d2+e2)))) (St (d.add 0) (ae 0) w λw=>St (d.add 1) (ae 0) w λw=>St (d.add 2) (ae 0) w λw=>St (d.add 3) (.slice none 0 0) w λw=>af .i64 (d.add 0) w λf2=>af .i64 (d.add 1) w λg2=>af .i64 (d.add 2) w λi2=>aA (d.add 3) w λj2 l2 m2=>Q f2 g2 i2 j2 l2 m2 0 w) (af .i64 p w.drew λn2=>bT g i j 1 none (some n2) λo2 p2 q2=>af .i64 p w.drew λr2=>af .i64 p w.drew λs2=>af .i64 (p.add 1) w.drew λt2=>bT g i j 1 (some r2) (some (IntKind.wrap .i64 (s2+t2))) λu2 v2 x2=>af .i64 p w.drew λy2=>af .i64 (p.add 1) w.drew λz2=>xx o2 p2 q2 w.drew λa3 w=>w.cell? (p.add 1)=some (ae z2)/\w.cell? p=some (ae y2)/\w.cell? (p.add 1)=some (ae t2)/\w.cell? p=some (ae s2)/\w.cell? p=some (ae r2)/\xx u2 v2 x2 w λb3 w=>w.cell? (p.add 1)=some (ae z2)/\w.cell? p=some (ae y2)/\St (d.add 0) (ae (IntKind.wrap .i64 f)) w λw=>St (d.add 1) (ae a3) w λw=>St (d.add 2) (ae b3) w λw=>St (d.add 3) (.slice none 0 0) w λw=>w.cell? (p.add 1)=some (ae z2)/\w.cell? p=some (ae y2)/\af .i64 (d.add 0) w λc3=>af .i64 (d.add 1) w λd3=>af .i64 (d.add 2) w λe3=>aA (d.add 3) w λf3 g3 i3=>Q c3 d3 e3 f3 g3 i3 (IntKind.wrap .i64 ((IntKind.wrap .i64 (1+y2))+z2)) w)))) (ok 80) aiy [] Tryz.func109
def aiz:=λa b c w Q=>bB (LF a b c w Q) (cond ((b:Int)==0) (Q false w) (JV a b c w λd e f g i j l w=>Al T 38 w λm w=>St (m.add 0) (ae d) w λw=>St (m.add 1) (ae e) w λw=>St (m.add 2) (ae f) w λw=>St (m.add 3) (.slice g i j) w λw=>Q (l==0) w)) (ok 15) [] [] Tryz.func75
def agU:=λa b w Q=>bB (A7 a b w Q) (cond (decide (a≥0)) (En (IntKind.wrap .i64 (8*b))<|Q (decide (a<(Ca .i64 1 (IntKind.wrap .i64 (8*b))))) w) (Q false w)) (ok 14) [] [] Tryz.func77
def aiA:=λa b c d e f w Q=>bB (LC a b c d e f w Q) (Bx [ae a,ae b,ae c,.slice d e f] 38 w λg w=>af .i64 g w λi=>cond (i==0) (af .i64 (g.add 1) w λj=>cond (j==(-1)) (af .i64 (g.add 2) w λl=>cond (l==0) (aA (g.add 3) w λm n o=>LF m n o w λp w=>Q p w) (Q false w)) (af .i64 (g.add 1) w λq=>xq q w λr s t u w=>Al T 137 w λv w=>St (v.add 0) (ae r) w λw=>St (v.add 1) (ae s) w λw=>St (v.add 2) (.bool t) w λw=>af .i64 (g.add 1) w λx=>A7 x 1 w λy w=>cond y (cond (!u) (af .i64 (g.add 2) w λz=>cond (z==0) (aA (g.add 3) w λa1 b1 c1=>Q ((b1:Int)==0) w) (Q false w)) (Q false w)) (Q false w))) (af .i64 g w λd1=>xq d1 w λe1 f1 g1 i1 w=>Al T 137 w λj1 w=>St (j1.add 0) (ae e1) w λw=>St (j1.add 1) (ae f1) w λw=>St (j1.add 2) (.bool g1) w λw=>cond i1 (af .i64 (g.add 1) w λl1=>af .i64 j1 w λm1=>A7 l1 m1 w λn1 w=>cond n1 (af .i64 (g.add 2) w λo1=>af .i64 (j1.add 1) w λp1=>A7 o1 p1 w λq1 w=>cond q1 (aA (g.add 3) w λr1 s1 t1=>cond ((s1:Int)==0) (Q true w) (cD (j1.add 2) w λu1=>cond u1 (aA (g.add 3) w λv1 x1 y1=>Q (decide ((x1:Int)<=4294967295)) w) (Q false w))) (Q false w)) (Q false w)) (Q false w))) (ok 82) [] [] Tryz.func48
def Sy:=λa b w Q=>bB (fg a b w Q) (cond a.isNone (Q 0 w) (cond (decide (b<0)) (Q 0 w) (wA a λc=>aA (c.add 2) w λd e f=>cond (decide (b≥(e:Int))) (Q 0 w) (wA a λg=>aA (g.add 2) w λi j l=>aJ b j<|wA i λm=>af .u8 (m.add (b.toNat*1)) w λn=>Q (IntKind.wrap .i64 n) w)))) (ok 30) [] [] Tryz.func110
def VY:=λa b w Q=>bB (rZ a b w Q) (cond a.isNone (Q 0 w) (wA a λc=>bg c w λd=>fg d b w λe w=>Q e w)) (ok 13) [] [] Tryz.func78
def sO (Q:Value->WP)(a:OA)(b:Addr)(w:World):Prop:=wA a λc=>bg (c.add 1) w.drew λd=>af .i64 (b.add 1) w.drew λe=>rZ d e w.drew λf w=>cond (f==0) (Q (.iface 108 (ae 7)) w) (Q (.nilIface) w)
noncomputable def Ey:cz:=[(4,sp 0 6 (.op 6 (.op 7 .done))),(6,sp 0 6 (.op 6 (.op 7 .done)))]
def Qm (Q):Bk 29 Tryz.f49 (FL Q) 6 [(0,.p),(3,.a)] (sO Q):=aU (ok 29) Ey []
def M1:=λa b c d e f g w Q=>bB (wM a b c d e f g w Q) (Bx [ae b,ae c,ae d,.slice e f g] 38 w λi w=>af .i64 i w λj=>cond (j==3) (wA a λl=>bg (l.add 1) w.drew λm=>af .i64 (i.add 2) w.drew λn=>rZ m n w.drew λo w=>cond (o==0) (Q (.iface 108 (ae 7)) w) (sO Q a i w)) (cond (j==2) (sO Q a i w) (Q (.nilIface) w))) (ok 29) Ey [aO (Qm Q)] Tryz.func49
def Fq:=λa w Q=>bB (gw a w Q) (cond (a==0) (Q (.nilIface) w) (Q (.iface 108 (ae a)) w)) (ok 7) [] [] Tryz.func54
def adS (P1:Value->Value->Value->Addr->WP)(Q:Bool->WP)(R18:Value->Value->Addr->L3 (Int->Int->WP))(a b:Value)(c:Addr)(d:OA)(e f:Nat)(g i:Int)(w:World):Prop:=cond (decide (i<g)) (aJ i e<|wA d λj=>b_ (j.add (i.toNat*1)) w λl=>Cb l λm=>cond m (R18 a b c d e f g (IntKind.wrap .i64 (i+1)) w) (bg (c.add 0) w λn=>bg (c.add 1) w λo=>af .u64 (c.add 2) w λp=>Gz l a n o p b w λq w=>cond q (Q true w) (R18 a b c d e f g (IntKind.wrap .i64 (i+1)) w))) (Q false w)
def Io (P1:Value->Value->Value->Addr->WP)(Q:Bool->WP):Nat->Value->Value->Addr->L3 (Int->Int->WP)
 |0,_,_,_,_,_,_,_,_,_=>False
 |k+1,a,b,c,d,e,f,g,i,w=>adS P1 Q (Io P1 Q k) a b c d e f g i w
def JY (P1:Value->Value->Value->Addr->WP)(Q:Bool->WP)(a b c:Value)(d:Addr)(w:World):Prop:=aN P (Instr.typeAssert a 74 224 true) w λe w=>dT e λf=>dJ f λg i=>dV g λj=>dJ i λl m=>dB l λn=>kU m<|cond n (yY (cx 62) j "Unwrap" [] w λo w=>dV o λp=>Cb p λq=>cond q (Q false w) (P1 p b c d w)) (aN P (Instr.typeAssert a 74 226 true) w λr w=>dT r λs=>dJ s λt u=>dV t λv=>dJ u λx y=>dB x λz=>kU y<|cond z (yY (cx 62) v "Unwrap" [] w λa1 w=>dS a1 λb1 c1 d1=>∃k',Io P1 Q k' b c d b1 c1 d1 (c1:Int) 0 w) (Q false w))
def xe (Q:Bool->WP)(R1:Value->Value->Value->Addr->WP)(a b c:Value)(d:Addr)(w:World):Prop:=tX P 95 #[a] w λe w=>dV e λf=>yY (cx 62) f "AssignableTo" [c] w λg w=>dB g λi=>cond i (bg (d.add 0) w λj=>bg (d.add 1) w λl=>af .u64 (d.add 2) w λm=>tX P 138 #[.agg #[.pointer j,.pointer l,.int .u64 m]] w λn w=>dL n λo=>dJ o λp q=>dP p λr=>dJ q λs t=>dP s λu=>dJ t λv x=>dI .u64 v λy=>kU x<|tX P 97 #[a] w λz w=>dL z λa1=>dJ a1 λb1 c1=>dP b1 λd1=>dJ c1 λe1 f1=>dP e1 λg1=>dJ f1 λi1 j1=>dI .u64 i1 λl1=>kU j1<|tX P 139 #[.agg #[.pointer r,.pointer u,.int .u64 y],.agg #[.pointer d1,.pointer g1,.int .u64 l1]] w λm1 w=>dT m1 λn1=>kU n1<|Q true w) (aN P (Instr.typeAssert a 74 231 true) w λo1 w=>dT o1 λp1=>dJ p1 λq1 r1=>dV q1 λs1=>dJ r1 λt1 u1=>dB t1 λv1=>kU u1<|cond v1 (yY (cx 62) s1 "As" [b] w λx1 w=>dB x1 λy1=>cond y1 (Q true w) (JY R1 Q a b c d w)) (JY R1 Q a b c d w))
def jk (Q:Bool->WP):Nat->Value->Value->Value->Addr->WP
 |0,_,_,_,_,_=>False
 |k+1,a,b,c,d,w=>xe Q (jk Q k) a b c d w
def adT {P1}(Q)(H1:Bk 62 Tryz.f100 (w_ Q) 1 [(0,.v),(1,.v),(3,.v),(6,.a)] P1):∀k,Bk 62 Tryz.f100 (w_ Q) 18 [(1,.v),(3,.v),(6,.a),(48,.l),(49,.i .i64),(50,.i .i64)] (Io P1 Q k):=bL λk h=>aU (ok 62) [] [aO h]
def agV {P1}(Q)(H1:Bk 62 Tryz.f100 (w_ Q) 1 [(0,.v),(1,.v),(3,.v),(6,.a)] P1):Bk 62 Tryz.f100 (w_ Q) 7 [(0,.v),(1,.v),(3,.v),(6,.a)] (JY P1 Q):=aU (ok 62) [] [aO H1,cq (adT Q H1)]
def agW (Q):∀k,Bk 62 Tryz.f100 (w_ Q) 1 [(0,.v),(1,.v),(3,.v),(6,.a)] (jk Q k):=bL λk h=>aU (ok 62) [] [aO (agV Q h)]
def GJ:=λa b c d e f w Q=>bB (Gz a b c d e f w Q) (Bx [.pointer c,.pointer d,.int .u64 e] 161 w λg w=>∃k',jk Q k' a b f g w) (ok 62) [] [cq (agW Q)] Tryz.func100
def Ip (Q:Bool->WP)(a b:Value)(c:Addr)(d:Value)(w:World):Prop:=bg (c.add 0) w λe=>bg (c.add 1) w λf=>af .u64 (c.add 2) w λg=>Gz a b e f g d w λi w=>Q i w
def JZ (Q:Bool->WP)(a b:Value)(c:Addr)(d:Value)(w:World):Prop:=False
def Qn (Q):Bk 42 Tryz.f60 (JQ Q) 12 [(0,.v),(1,.v),(5,.a),(7,.v)] (Ip Q):=aU (ok 42) [] []
def agX (Q):Bk 42 Tryz.f60 (JQ Q) 8 [(0,.v),(1,.v),(5,.a),(6,.v)] (JZ Q):=aU (ok 42) [] [aO (Qn Q)]
def BO:=λa b w Q=>bB (nM a b w Q) (Cb a λc=>cond c (Q false w) (Cb b λd=>cond d (False) (tX P 97 #[b] w λe w=>dL e λf=>dJ f λg i=>dP g λj=>dJ i λl m=>dP l λn=>dJ m λo p=>dI .u64 o λq=>kU p<|Al T 161 w λr w=>St (r.add 0) (.pointer j) w λw=>St (r.add 1) (.pointer n) w λw=>St (r.add 2) (.int .u64 q) w λw=>bg (r.add 0) w λs=>bg (r.add 1) w λt=>af .u64 (r.add 2) w λu=>tX P 98 #[.agg #[.pointer s,.pointer t,.int .u64 u]] w λv w=>dV v λx=>yY (cx 42) x "Kind" [] w λy w=>dI .u8 y λz=>cond (z !=22) (JZ Q a b r x w) (bg (r.add 0) w λa1=>bg (r.add 1) w λb1=>af .u64 (r.add 2) w λc1=>tX P 99 #[.agg #[.pointer a1,.pointer b1,.int .u64 c1]] w λd1 w=>dB d1 λe1=>cond e1 (JZ Q a b r x w) (yY (cx 42) x "Elem" [] w λf1 w=>dV f1 λg1=>yY (cx 42) g1 "Kind" [] w λi1 w=>dI .u8 i1 λj1=>cond (j1 !=20) (b_ (aZ 1) w λl1=>yY (cx 42) g1 "Implements" [l1] w λm1 w=>dB m1 λn1=>cond (!n1) (False) (Ip Q a b r g1 w)) (Ip Q a b r g1 w)))))) (ok 42) [] [aO (agX Q),aO (Qn Q)] Tryz.func60
def abN:=λa b w Q=>bB (lT a b w Q) (cond (decide (a≥1)) (cond (decide (a<=1024)) (cond (decide (b≥1)) (Q (decide (b<=1024)) w) (Q false w)) (Q false w)) (Q false w)) (ok 19) [] [] Tryz.func69
def UN:=λa b w Q=>bB (lF a b w Q) (lT a b w λc w=>cond (!c) (Q 0 0 w) (NZ 16<|NZ 16<|Q (IntKind.wrap .i64 (Int.tdiv (IntKind.wrap .i64 ((IntKind.wrap .i64 (a+16))-1)) 16)) (IntKind.wrap .i64 (Int.tdiv (IntKind.wrap .i64 ((IntKind.wrap .i64 (b+16))-1)) 16)) w)) (ok 18) [] [] Tryz.func146
def ZU:=λa b w Q=>bB (Fh a b w Q) (lF a b w λc d w=>Q (IntKind.wrap .i64 (c*d)) w) (ok 16) [] [] Tryz.func141
noncomputable def Yk:cz:=[(4,sp 0 8 (.op 8 (.op 9 (.op 10 .done))))]
def VZ:=λa b c w Q=>bB (xy a b c w Q) (lF a b w λd e w=>cond (decide (c<0)) (Q 0 0 false w) (cond (decide (c≥(IntKind.wrap .i64 (d*e)))) (Q 0 0 false w) (NZ d<|NZ d<|Q (IntKind.wrap .i64 ((Int.tmod c d)*16)) (IntKind.wrap .i64 ((IntKind.wrap .i64 (Int.tdiv c d))*16)) true w.drew))) (ok 34) Yk [] Tryz.func157
def ZV:=λa b c w Q=>bB (ot a b c w Q) (xy a b c w λd e f w=>cond (!f) (Q 0 0 w) (Q (DW 16 (IntKind.wrap .i64 (a-d))) (DW 16 (IntKind.wrap .i64 (b-e))) w)) (ok 29) [] [] Tryz.func142
def adU (P1:Value->Value->Bool->WP)(Q:Bool->WP)(R17:Value->Bool->L3 (Int->Int->WP))(a:Value)(b:Bool)(c:OA)(d e:Nat)(f g:Int)(w:World):Prop:=cond (decide (g<f)) (aJ g d<|wA c λi=>b_ (i.add (g.toNat*1)) w λj=>xu j a b w λl w=>cond l (Q true w) (R17 a b c d e f (IntKind.wrap .i64 (g+1)) w)) (Q false w)
def Iq (P1:Value->Value->Bool->WP)(Q:Bool->WP):Nat->Value->Bool->L3 (Int->Int->WP)
 |0,_,_,_,_,_,_,_,_=>False
 |k+1,a,b,c,d,e,f,g,w=>adU P1 Q (Iq P1 Q k) a b c d e f g w
def J0 (P1:Value->Value->Bool->WP)(Q:Bool->WP)(a b:Value)(c:Bool)(w:World):Prop:=aN P (Instr.typeAssert a 74 224 true) w λd w=>dT d λe=>dJ e λf g=>dV f λi=>dJ g λj l=>dB j λm=>kU l<|cond m (yY (cx 54) i "Unwrap" [] w λn w=>dV n λo=>Cb o λp=>cond p (Q false w) (P1 o b c w)) (aN P (Instr.typeAssert a 74 226 true) w λq w=>dT q λr=>dJ r λs t=>dV s λu=>dJ t λv x=>dB v λy=>kU x<|cond y (yY (cx 54) u "Unwrap" [] w λz w=>dS z λa1 b1 c1=>∃k',Iq P1 Q k' b c a1 b1 c1 (b1:Int) 0 w) (Q false w))
def J4 (P1:Value->Value->Bool->WP)(Q:Bool->WP)(a b:Value)(c:Bool)(w:World):Prop:=aN P (Instr.typeAssert a 74 221 true) w λd w=>dT d λe=>dJ e λf g=>dV f λi=>dJ g λj l=>dB j λm=>kU l<|cond m (yY (cx 54) i "Is" [b] w λn w=>dB n λo=>cond o (Q true w) (J0 P1 Q a b c w)) (J0 P1 Q a b c w)
def A_ (Q:Bool->WP)(R1:Value->Value->Bool->WP)(a b:Value)(c:Bool)(w:World):Prop:=cond c (bV P .eql 74 (.tmp 16) (.tmp 17) a b w λd w=>cond d (Q true w) (J4 R1 Q a b c w)) (J4 R1 Q a b c w)
def qq (Q:Bool->WP):Nat->Value->Value->Bool->WP
 |0,_,_,_,_=>False
 |k+1,a,b,c,w=>A_ Q (qq Q k) a b c w
def adV {P1}(Q)(H1:Bk 54 Tryz.f96 (qm Q) 1 [(0,.v),(1,.v),(2,.b)] P1):∀k,Bk 54 Tryz.f96 (qm Q) 17 [(1,.v),(2,.b),(43,.l),(44,.i .i64),(45,.i .i64)] (Iq P1 Q k):=bL λk h=>aU (ok 54) [] [aO h]
def agY {P1}(Q)(H1:Bk 54 Tryz.f96 (qm Q) 1 [(0,.v),(1,.v),(2,.b)] P1):Bk 54 Tryz.f96 (qm Q) 6 [(0,.v),(1,.v),(2,.b)] (J0 P1 Q):=aU (ok 54) [] [aO H1,cq (adV Q H1)]
def agZ {P1}(Q)(H1:Bk 54 Tryz.f96 (qm Q) 1 [(0,.v),(1,.v),(2,.b)] P1):Bk 54 Tryz.f96 (qm Q) 3 [(0,.v),(1,.v),(2,.b)] (J4 P1 Q):=aU (ok 54) [] [aO (agY Q H1)]
def ag0 (Q):∀k,Bk 54 Tryz.f96 (qm Q) 1 [(0,.v),(1,.v),(2,.b)] (qq Q k):=bL λk h=>aU (ok 54) [] [aO (agZ Q h)]
def NR:=λa b c w Q=>bB (xu a b c w Q) (∃k',qq Q k' a b c w) (ok 54) [] [cq (ag0 Q)] Tryz.func96
def NS:=λa b w Q=>bB (pL a b w Q) (Cb a λc=>cond c (bV P .eql 74 (.tmp 12) (.tmp 13) a b w λd w=>Q d w) (Cb b λe=>cond e (bV P .eql 74 (.tmp 12) (.tmp 13) a b w λf w=>Q f w) (tX P 95 #[b] w λg w=>dV g λi=>yY (cx 22) i "Comparable" [] w λj w=>dB j λl=>xu a b l w λm w=>Q m w))) (ok 22) [] [] Tryz.func59
def Ir:=λa b c w Q=>bB (jR a b c w Q) (cond a.isNone (Q none 0 0 w) (Bx [] 5 w λd w=>App P #[22,22] 22 (.slice (some d) 0 0) (.slice a b c) w λe f g w=>Q e f g w)) (ok 8) [] [] Tryz.func103
noncomputable def Qo:cz:=[(1,sp 0 12 .done),(2,.op 0 (.op 1 (.op 2 .done))),(4,sp 0 15 (.op 15 (.op 16 .done)))]
def OP:=λa b w Q=>bB (nY a b w Q) (wA a λc=>aA c w.drew λd e f=>wA a λg=>af .i64 (g.add 1) w.drew λi=>cond (decide ((IntKind.wrap .i64 ((e:Int)-i))<b)) (b_ (aZ 6) w.drew.drew λj=>w.drew.drew.cell? (aZ 6)=some j/\dV j λl=>Q none 0 0 l w.drew.drew) (wA a λm=>af .i64 (m.add 1) w.drew λn=>wA a λo=>St (o.add 1) (ae (IntKind.wrap .i64 (n+b))) w.drew λw=>wA a λp=>aA p w.drew λq r s=>wA a λt=>af .i64 (t.add 1) w.drew λu=>wA a λv=>af .i64 (v.add 1) w.drew λx=>bT q r s 1 (some (IntKind.wrap .i64 (u-b))) (some x) λy z a1=>Q y z a1 (.nilIface) w.drew)) (ok 42) Qo [] Tryz.func186
def kY (Q:Int->WP)(R2:L3 (Int->Int->Int->WP))(a:OA)(b c:Nat)(d e f:Int)(w:World):Prop:=cond (decide (f<e)) (aJ f b<|wA a λg=>af .u8 (g.add (f.toNat*1)) w λi=>cond (d==i) (Q f w) (R2 a b c d e (IntKind.wrap .i64 (f+1)) w)) (Q (-1) w)
def jl (Q:Int->WP):Nat->L3 (Int->Int->Int->WP)
 |0,_,_,_,_,_,_,_=>False
 |k+1,a,b,c,d,e,f,w=>kY Q (jl Q k) a b c d e f w
def J5 (Q):∀k,Bk 19 Tryz.f160 (A8 Q) 2 [(0,.l),(1,.i .u8),(7,.i .i64),(8,.i .i64)] (jl Q k):=bL λk h=>aU (ok 19) [] [aO h]
def Is:=λa b c d w Q=>bB (zk a b c d w Q) (∃k',jl Q k' a b c d (b:Int) 0 w) (ok 19) [] [cq (J5 Q)] Tryz.func160
def Gf:=λa b c d w Q=>bB (iZ a b c d w Q) (zk a b c d w λe w=>Q (decide (e≥0)) w) (ok 9) [] [] Tryz.func145
def M4:=λa b w Q=>bB (qI a b w Q) (nY a b w λc d e f w=>Cb f λg=>cond g (iZ c d e 0 w λi w=>cond i (b_ (aZ 5) w λj=>dV j λl=>Q c d e l w) (dV f λm=>Q c d e m w)) (dV f λn=>Q c d e n w)) (ok 23) [] [] Tryz.func187
def Qp:=λa b w Q=>bB (FQ a b w Q) (En 32<|En 32<|En 32<|En 32<|En 32<|Q (IntKind.wrap .u64 ((IntKind.wrap .u64 ((IntKind.wrap .u64 ((pE .u64 a 32)*(pE .u64 b 32)))+(pE .u64 (IntKind.wrap .u64 ((IntKind.wrap .u64 ((pE .u64 a 32)*(B_ .u64 b 4294967295)))+(pE .u64 (IntKind.wrap .u64 ((B_ .u64 a 4294967295)*(B_ .u64 b 4294967295))) 32))) 32)))+(pE .u64 (IntKind.wrap .u64 ((B_ .u64 (IntKind.wrap .u64 ((IntKind.wrap .u64 ((pE .u64 a 32)*(B_ .u64 b 4294967295)))+(pE .u64 (IntKind.wrap .u64 ((B_ .u64 a 4294967295)*(B_ .u64 b 4294967295))) 32))) 4294967295)+(IntKind.wrap .u64 ((B_ .u64 a 4294967295)*(pE .u64 b 32))))) 32))) (IntKind.wrap .u64 (a*b)) w) (ok 51) [] [] Tryz.func240
def UO:=λa b w Q=>bB (qO a b w Q) (FQ a b w λc d w=>Q c d w) (ok 30) [] [] Tryz.func218
def tK (Q:L3 WP)(R18:Int->Int->L3 (Int->WP))(a b:Int)(c:OA)(d e:Nat)(f:Int)(w:World):Prop:=cond (decide (f<a)) (bT c d e 1 (some f) none λg i j=>bT c d e 1 none (some (DW f b)) λl m n=>cK P #[22,22] 3 (.slice g i j) (.slice l m n) w.drew λo w=>R18 a b c d e (IntKind.wrap .i64 (f+o)) w) (Q c d e w)
def tL (Q:L3 WP):Nat->Int->Int->L3 (Int->WP)
 |0,_,_,_,_,_,_,_=>False
 |k+1,a,b,c,d,e,f,w=>tK Q (tL Q k) a b c d e f w
def yP (Q:L3 WP)(a:OA)(b c:Nat)(d e:Int)(w:World):Prop:=tX P 219 #[ae d] w λf w=>dS f λg i j=>aN P (Instr.sliceAt 22 (.slice g i j) none (some (ae d)) (some (ae d))) w λo w=>dS o λl m n=>cK P #[22,22] 3 (.slice l m n) (.slice a b c) w λp w=>∃k',tL Q k' d e l m n p w
def Fs (Q:L3 WP)(a:OA)(b c:Nat)(d:Int)(w:World):Prop:=False
noncomputable def yQ:cz:=[(20,sp 0 7 (.op 7 (.op 8 (.op 9 .done))))]
def Yl (Q):∀k,Bk 77 Tryz.f188 (Aw Q) 18 [(7,.i .i64),(8,.i .i64),(9,.l),(10,.i .i64)] (tL Q k):=bL λk h=>aU (ok 77) yQ [aO h]
def Kq (Q):Bk 77 Tryz.f188 (Aw Q) 16 [(0,.l),(7,.i .i64),(8,.i .i64)] (yP Q):=aU (ok 77) yQ [cq (Yl Q)]
def ZW (Q):Bk 77 Tryz.f188 (Aw Q) 7 [(0,.l),(6,.i .u64)] (Fs Q):=aU (ok 77) yQ [aO (Kq Q)]
def Jn:=λa b c d w Q=>bB (r6 a b c d w Q) (cond (d==0) (Bx [] 5 w λe w=>Q (some e) 0 0 w) (cond (decide (d<0)) (False) (qO (IntKind.wrap .u64 (b:Int)) (IntKind.wrap .u64 d) w λf g w=>cond (decide (f>0)) (Fs Q a b c g w) (cond (decide (g>9223372036854775807)) (Fs Q a b c g w) (cond ((b:Int)==0) (Bx [] 5 w λi w=>Q (some i) 0 0 w) (cond (decide ((IntKind.wrap .i64 g)>8192)) (NZ (b:Int)<|cond ((IntKind.wrap .i64 ((IntKind.wrap .i64 (Int.tdiv 8192 (b:Int)))*(b:Int)))==0) (yP Q a b c (IntKind.wrap .i64 g) (b:Int) w) (yP Q a b c (IntKind.wrap .i64 g) (IntKind.wrap .i64 ((IntKind.wrap .i64 (Int.tdiv 8192 (b:Int)))*(b:Int))) w)) (yP Q a b c (IntKind.wrap .i64 g) (IntKind.wrap .i64 g) w))))))) (ok 77) yQ [aO (ZW Q),aO (Kq Q)] Tryz.func188
def uJ (P2:OA->Int->L3 WP)(Q:L3 (Value->WP))(a:OA)(b:Int)(c:OA)(d e:Nat)(f g:Int)(w:World):Prop:=Bx [.int .u8 g] 5 w λi w=>r6 (some i) 1 1 f w λj l m w=>App P #[22,22] 22 (.slice c d e) (.slice j l m) w λn o p w=>P2 a b n o p w
def pQ (Q:L3 (Value->WP))(R2:OA->Int->L3 WP)(a:OA)(b:Int)(c:OA)(d e:Nat)(w:World):Prop:=cond (decide ((d:Int)<b)) (nY a 2 w λf g i j w=>Cb j λl=>cond (!l) (dV j λm=>Q none 0 0 m w) (aJ 0 g<|wA f λn=>af .u8 (n.add (((0:Int).toNat)*1)) w.drew λo=>aJ 1 g<|wA f λp=>af .u8 (p.add (((1:Int).toNat)*1)) w.drew λq=>w.drew.cell? (p.add (((1:Int).toNat)*1))=some (.int .u8 q)/\cond (q==0) (b_ (aZ 5) w.drew.drew λr=>w.drew.drew.cell? (aZ 5)=some r/\dV r λs=>Q none 0 0 s w.drew.drew) (cond (decide ((IntKind.wrap .i64 ((IntKind.wrap .i64 o)+1))>(IntKind.wrap .i64 (b-(d:Int))))) (b_ (aZ 5) w.drew.drew λt=>w.drew.drew.cell? (aZ 5)=some t/\dV t λu=>Q none 0 0 u w.drew.drew) (cond (decide ((d:Int)>0)) (aJ (IntKind.wrap .i64 ((d:Int)-1)) d<|wA c λv=>af .u8 (v.add (((IntKind.wrap .i64 ((d:Int)-1))).toNat*1)) w.drew λx=>cond (x==q) (b_ (aZ 5) w.drew.drew λy=>w.drew.drew.cell? (aZ 5)=some y/\dV y λz=>Q none 0 0 z w.drew.drew) (uJ R2 Q a b c d e (IntKind.wrap .i64 ((IntKind.wrap .i64 o)+1)) q w.drew)) (uJ R2 Q a b c d e (IntKind.wrap .i64 ((IntKind.wrap .i64 o)+1)) q w.drew))))) (Q c d e (.nilIface) w)
def pR (Q:L3 (Value->WP)):Nat->OA->Int->L3 WP
 |0,_,_,_,_,_,_=>False
 |k+1,a,b,c,d,e,w=>pQ Q (pR Q k) a b c d e w
noncomputable def zw:cz:=[(6,sp 0 8 (.op 8 (.op 9 .done))),(8,.op 0 (.op 1 (.op 2 .done)))]
def Sz {P2}(Q)(H2:Bk 64 Tryz.f189 (uC Q) 2 [(0,.p),(1,.i .i64),(6,.l)] P2):Bk 64 Tryz.f189 (uC Q) 9 [(0,.p),(1,.i .i64),(6,.l),(9,.i .i64),(10,.i .u8)] (uJ P2 Q):=aU (ok 64) zw [aO H2]
def SA (Q):∀k,Bk 64 Tryz.f189 (uC Q) 2 [(0,.p),(1,.i .i64),(6,.l)] (pR Q k):=bL λk h=>aU (ok 64) zw [aO (Sz Q h)]
def OQ:=λa b w Q=>bB (yw a b w Q) (∃k',pR Q k' a b none 0 0 w) (ok 64) zw [cq (SA Q)] Tryz.func189
noncomputable def Qq:cz:=[(12,.op 0 (.op 1 (.op 2 .done)))]
def OR:=λa b w Q=>bB (yq a b w Q) (nY a 1 w λc d e f w=>Cb f λg=>cond (!g) (dV f λi=>Q none 0 0 i w) (aJ 0 d<|wA c λj=>af .u8 (j.add (((0:Int).toNat)*1)) w λl=>cond (l==0) (qI a 1 w λm n o p w=>r6 m n o b w λq r s w=>dV p λt=>Q q r s t w) (cond (l==1) (qI a b w λu v x y w=>dV y λz=>Q u v x z w) (cond (l==2) (yw a b w λa1 b1 c1 d1 w=>dV d1 λe1=>Q a1 b1 c1 e1 w) (b_ (aZ 5) w.drew λf1=>w.drew.cell? (aZ 5)=some f1/\dV f1 λg1=>Q none 0 0 g1 w.drew))))) (ok 47) Qq [] Tryz.func167
def ZX:=λa w Q=>bB (AA a w Q) (cond (decide (a≥1)) (Q (decide (a<=16)) w) (Q false w)) (ok 9) [] [] Tryz.func220
def adW:=λa b c d e w Q=>bB (u9 a b c d e w Q) (Bx [ae a,ae b,.slice c d e] 84 w λf w=>af .i64 f w λg=>AA g w λi w=>cond i (af .i64 (f.add 1) w λj=>AA j w λl w=>cond l (aA (f.add 2) w λm n o=>af .i64 f w λp=>af .i64 (f.add 1) w λq=>cond ((n:Int)==(IntKind.wrap .i64 (p*q))) (aA (f.add 2) w λr s t=>iZ r s t 0 w λu w=>Q (!u) w) (Q false w)) (Q false w)) (Q false w)) (ok 28) [] [] Tryz.func190
def jq (Q:Int->WP)(R2:L3 (Value->Int->Int->WP))(a:OA)(b c:Nat)(d:Value)(e f:Int)(w:World):Prop:=cond (decide (f<e)) (aJ f b<|wA a λg=>af .u8 (g.add (f.toNat*1)) w λi=>iw (cx 19) d [.int .u8 i] w λj w=>dB j λl=>cond l (Q f w) (R2 a b c d e (IntKind.wrap .i64 (f+1)) w)) (Q (-1) w)
def jr (Q:Int->WP):Nat->L3 (Value->Int->Int->WP)
 |0,_,_,_,_,_,_,_=>False
 |k+1,a,b,c,d,e,f,w=>jq Q (jr Q k) a b c d e f w
def GK (Q):∀k,Bk 19 Tryz.f264 (xE Q) 2 [(0,.l),(1,.v),(7,.i .i64),(8,.i .i64)] (jr Q k):=bL λk h=>aU (ok 19) [] [aO h]
def Ft:=λa b c d w Q=>bB (vv a b c d w Q) (∃k',jr Q k' a b c d (b:Int) 0 w) (ok 19) [] [cq (GK Q)] Tryz.func264
def Dh:=λa b c d w Q=>bB (m_ a b c d w Q) (vv a b c d w λe w=>Q (decide (e≥0)) w) (ok 9) [] [] Tryz.func241
def ZY:=λa b w Q=>bB (LO a b w Q) (wA b λc=>aA (c.add 2) w λd e f=>aJ 0 e<|wA d λg=>af .u8 (g.add (((0:Int).toNat)*1)) w λi=>Q (a !=i) w) (ok 10) [] [] Tryz.func242
def EV (vw:Addr->L3 (Int->WP))(Q:L3 WP)(a:Addr)(b:OA)(c d:Nat)(e f:Int)(w:World):Prop:=aA (a.add 2) w λg i j=>aJ e i<|wA g λl=>af .u8 (l.add (e.toNat*1)) w λm=>Bx [.int .u8 (IntKind.wrap .u8 (IntKind.wrap .i64 (f-1))),.int .u8 m] 5 w λn w=>App P #[22,22] 22 (.slice b c d) (.slice (some n) 2 2) w λo p q w=>vw a o p q (IntKind.wrap .i64 (e+f)) w
def J6 (vw:Addr->L3 (Int->WP))(Q:L3 WP)(R12:Addr->L3 (Int->Int->WP))(a:Addr)(b:OA)(c d:Nat)(e f:Int)(w:World):Prop:=aA (a.add 2) w.drew λg i j=>cond (decide ((IntKind.wrap .i64 (e+f))<(i:Int))) (aA (a.add 2) w.drew λl m n=>aJ (IntKind.wrap .i64 (e+f)) m<|wA l λo=>af .u8 (o.add (((IntKind.wrap .i64 (e+f))).toNat*1)) w.drew λp=>aA (a.add 2) w.drew λq r s=>aJ e r<|wA q λt=>af .u8 (t.add (e.toNat*1)) w.drew λu=>cond (p==u) (R12 a b c d e (IntKind.wrap .i64 (f+1)) w.drew) (EV vw Q a b c d e f w.drew)) (EV vw Q a b c d e f w.drew)
def xg (vw:Addr->L3 (Int->WP))(Q:L3 WP):Nat->Addr->L3 (Int->Int->WP)
 |0,_,_,_,_,_,_,_=>False
 |k+1,a,b,c,d,e,f,w=>J6 vw Q (xg vw Q k) a b c d e f w
def J7 (Q:L3 WP)(R10:Addr->L3 (Int->WP))(a:Addr)(b:OA)(c d:Nat)(e:Int)(w:World):Prop:=aA (a.add 2) w λf g i=>cond (decide (e<(g:Int))) (∃k',xg R10 Q k' a b c d e 1 w) (Q b c d w)
def xh (Q:L3 WP):Nat->Addr->L3 (Int->WP)
 |0,_,_,_,_,_,_=>False
 |k+1,a,b,c,d,e,w=>J7 Q (xh Q k) a b c d e w
noncomputable def EW:cz:=[(12,sp 0 22 .done)]
def ag1 {vw}(Q)(H10:Bk 75 Tryz.f221 (zp Q) 10 [(2,.a),(5,.l),(6,.i .i64)] vw):Bk 75 Tryz.f221 (zp Q) 14 [(2,.a),(5,.l),(6,.i .i64),(7,.i .i64)] (EV vw Q):=aU (ok 75) EW [aO H10]
def ag2 {vw}(Q)(H10:Bk 75 Tryz.f221 (zp Q) 10 [(2,.a),(5,.l),(6,.i .i64)] vw):∀k,Bk 75 Tryz.f221 (zp Q) 12 [(2,.a),(5,.l),(6,.i .i64),(7,.i .i64)] (xg vw Q k):=bL λk h=>aU (ok 75) EW [aO h,aO (ag1 Q H10)]
def ag3 (Q):∀k,Bk 75 Tryz.f221 (zp Q) 10 [(2,.a),(5,.l),(6,.i .i64)] (xh Q k):=bL λk h=>aU (ok 75) EW [cq (ag2 Q h)]
def adX:=λa b c d e f w Q=>bB (Ik a b c d e f w Q) (Bx [ae a,ae b,.slice c d e] 84 w λg w=>Bx [.int .u8 (IntKind.wrap .u8 f)] 5 w λi w=>cond (f==0) (aA (g.add 2) w λj l m=>m_ j l m (.func (.func 242) #[] #[.pointer (some g)]) w λn w=>cond n (Q none 0 0 w) (aA (g.add 2) w λo p q=>aJ 0 p<|wA o λr=>af .u8 (r.add (((0:Int).toNat)*1)) w λs=>Bx [.int .u8 s] 5 w λt w=>App P #[22,22] 22 (.slice (some i) 1 1) (.slice (some t) 1 1) w λu v x w=>Q u v x w)) (cond (f==1) (aA (g.add 2) w λy z a1=>App P #[22,22] 22 (.slice (some i) 1 1) (.slice y z a1) w λb1 c1 d1 w=>Q b1 c1 d1 w) (∃k',xh Q k' g (some i) 1 1 0 w))) (ok 75) EW [cq (ag3 Q)] Tryz.func221
def zx (P3:Addr->Int->L3 (Int->WP))(Q:Int->L3 WP)(a:Addr)(b:Int)(c:OA)(d e:Nat)(f:Int)(w:World):Prop:=P3 a b c d e (IntKind.wrap .i64 (f+1)) w
def jV (Q:Int->L3 WP)(R3:Addr->Int->L3 (Int->WP))(a:Addr)(b:Int)(c:OA)(d e:Nat)(f:Int)(w:World):Prop:=cond (decide (f<3)) (af .i64 (a.add 0) w λg=>af .i64 (a.add 1) w λi=>aA (a.add 2) w λj l m=>Ik g i j l m f w λn o p w=>cond (!n.isNone) (cond c.isNone (zx R3 Q a f n o p f w) (cond (decide ((o:Int)<(d:Int))) (zx R3 Q a f n o p f w) (R3 a b c d e (IntKind.wrap .i64 (f+1)) w))) (R3 a b c d e (IntKind.wrap .i64 (f+1)) w)) (Q b c d e w)
def oF (Q:Int->L3 WP):Nat->Addr->Int->L3 (Int->WP)
 |0,_,_,_,_,_,_,_=>False
 |k+1,a,b,c,d,e,f,w=>jV Q (oF Q k) a b c d e f w
def adY {P3}(Q)(H3:Bk 32 Tryz.f191 (Dc Q) 3 [(1,.a),(4,.i .i64),(5,.l),(8,.i .i64)] P3):Bk 32 Tryz.f191 (Dc Q) 7 [(1,.a),(6,.i .i64),(7,.l),(8,.i .i64)] (zx P3 Q):=aU (ok 32) [] [aO H3]
def adZ (Q):∀k,Bk 32 Tryz.f191 (Dc Q) 3 [(1,.a),(4,.i .i64),(5,.l),(8,.i .i64)] (oF Q k):=bL λk h=>aU (ok 32) [] [aO h,aO (adY Q h)]
def ZZ:=λa b c d e w Q=>bB (Fl a b c d e w Q) (Bx [ae a,ae b,.slice c d e] 84 w λf w=>∃k',oF Q k' f (-1) none 0 0 0 w) (ok 32) [] [cq (adZ Q)] Tryz.func191
def ad0:=λa b c d e w Q=>bB (Ij a b c d e w Q) (Bx [ae a,ae b,.slice c d e] 84 w λf w=>af .i64 (f.add 0) w λg=>af .i64 (f.add 1) w λi=>aA (f.add 2) w λj l m=>u9 g i j l m w λn w=>cond (!n) (Q none 0 0 1 w) (af .i64 (f.add 0) w λo=>af .i64 (f.add 1) w λp=>aA (f.add 2) w λq r s=>Fl o p q r s w λt u v x w=>Q u v x 0 w)) (ok 15) [] [] Tryz.func168
def Ym:=λa b c d e f w Q=>bB (D0 a b c d e f w Q) (aN P (convert 22 9 (.slice a b c)) w λg w=>Zr g λi=>aN P (convert 22 9 (.slice d e f)) w λj w=>Zr j λl=>Q (i.toList==l.toList) w) (ok 10) [] [] Tryz.func169
def zy (Q:Int->Int->L3 (Value->WP))(a b:Addr)(w:World):Prop:=St (a.add 0) (ae 0) w λw=>St (a.add 1) (ae 0) w λw=>St (a.add 2) (.slice none 0 0) w λw=>af .i64 (a.add 0) w λc=>af .i64 (a.add 1) w λd=>aA (a.add 2) w λe f g=>Q c d e f g (.iface 268 (.pointer (some b))) w
def nh (Q:Int->Int->L3 (Value->WP))(a:OA)(b:Addr)(c:Value)(d:Addr)(w:World):Prop:=Cb c λe=>cond e (af .i64 (d.add 0) w λf=>af .i64 (d.add 1) w λg=>aA (d.add 2) w λi j l=>St (b.add 0) (ae f) w λw=>St (b.add 1) (ae g) w λw=>St (b.add 2) (.slice i j l) w λw=>af .i64 (b.add 0) w λm=>af .i64 (b.add 1) w λn=>aA (b.add 2) w λo p q=>Q m n o p q (.nilIface) w) (wA a λr=>af .i64 (r.add 1) w λs=>dV c λt=>Bx [ae s,ae 3,t] 271 w λu w=>b_ (aZ 6) w λv=>pL c v w λx w=>cond x (St (u.add 1) (ae 2) w λw=>zy Q b u w) (zy Q b u w))
noncomputable def zz:cz:=[(5,sp 0 10 (.op 10 (.op 11 .done)))]
def Qr (Q):Bk 66 Tryz.f158 (Ar Q) 12 [(6,.a),(13,.a)] (zy Q):=aU (ok 66) zz []
def SB (Q):Bk 66 Tryz.f158 (Ar Q) 7 [(0,.p),(6,.a),(9,.v),(10,.a)] (nh Q):=aU (ok 66) zz [aO (Qr Q)]
def OS:=λa b c w Q=>bB (yp a b c w Q) (Al T 84 w λd w=>yq a (IntKind.wrap .i64 (b*c)) w λe f g i w=>jR e f g w λj l m w=>Al T 84 w λn w=>St (n.add 0) (ae b) w λw=>St (n.add 1) (ae c) w λw=>St (n.add 2) (.slice j l m) w λw=>Cb i λo=>cond o (af .i64 (n.add 0) w λp=>af .i64 (n.add 1) w λq=>aA (n.add 2) w λr s t=>Ij p q r s t w λu v x y w=>wA a λz=>aA z w.drew λa1 b1 c1=>wA a λd1=>af .i64 (d1.add 1) w.drew λe1=>bT a1 b1 c1 1 none (some e1) λf1 g1 i1=>D0 u v x f1 g1 i1 w.drew λj1 w=>cond (!j1) (b_ (aZ 5) w λl1=>nh Q a d l1 n w) (nh Q a d i n w)) (nh Q a d i n w)) (ok 66) zz [aO (SB Q)] Tryz.func158
def Cy (Q:Int->Int->L3 (Int->Int->WP))(a:Addr)(w:World):Prop:=St (a.add 0) (ae 0) w λw=>St (a.add 1) (ae 0) w λw=>St (a.add 2) (.slice none 0 0) w λw=>af .i64 (a.add 0) w λb=>af .i64 (a.add 1) w λc=>aA (a.add 2) w λd e f=>Q b c d e f 0 1 w
noncomputable def T1:cz:=[(7,sp 0 5 (.op 5 (.op 6 (.op 7 .done)))),(8,sp 0 5 (.op 5 (.op 6 (.op 7 .done))))]
def aiC (Q):Bk 50 Tryz.f143 (VM Q) 2 [(6,.a)] (Cy Q):=aU (ok 50) T1 []
def ad1:=λa b c d e w Q=>bB (Ii a b c d e w Q) (Al T 84 w λf w=>cond (decide (d<1)) (Cy Q f w) (cond (decide (d>16)) (Cy Q f w) (cond (decide (e<1)) (Cy Q f w) (cond (decide (e>16)) (Cy Q f w) (Bx [.slice a b c,ae 0] 265 w λg w=>yp (some g) d e w λi j l m n o w=>St (f.add 0) (ae i) w λw=>St (f.add 1) (ae j) w λw=>St (f.add 2) (.slice l m n) w λw=>Al T 268 w λp w=>St p (.pointer none) w λw=>nM o (.iface 269 (.pointer (some p))) w λq w=>cond q (bg p w.drew λr=>wA r λs=>af .i64 (s.add 1) w.drew λt=>St (f.add 0) (ae 0) w.drew λw=>St (f.add 1) (ae 0) w λw=>St (f.add 2) (.slice none 0 0) w λw=>w.cell? (s.add 1)=some (ae t)/\w.cell? p=some (.pointer r)/\w.cell? (s.add 1)=some (ae t)/\w.cell? p=some (.pointer r)/\af .i64 (f.add 0) w λu=>af .i64 (f.add 1) w λv=>aA (f.add 2) w λx y z=>Q u v x y z 0 t w) (af .i64 (f.add 0) w.drew λa1=>af .i64 (f.add 1) w.drew λb1=>aA (f.add 2) w.drew λc1 d1 e1=>af .i64 (g.add 1) w.drew λf1=>St (f.add 0) (ae a1) w.drew λw=>St (f.add 1) (ae b1) w λw=>St (f.add 2) (.slice c1 d1 e1) w λw=>w.cell? (g.add 1)=some (ae f1)/\af .i64 (f.add 0) w λg1=>af .i64 (f.add 1) w λi1=>aA (f.add 2) w λj1 l1 m1=>Q g1 i1 j1 l1 m1 f1 0 w)))))) (ok 50) T1 [aO (aiC Q)] Tryz.func143
def Z0:=λa b c d w Q=>bB (Ap a b c d w Q) (lT a b w λe w=>cond (!e) (Q (-1) w) (cond (decide (c<0)) (Q (-1) w) (cond (decide (c≥a)) (Q (-1) w) (cond (decide (d<0)) (Q (-1) w) (cond (decide (d≥b)) (Q (-1) w) (Q (IntKind.wrap .i64 ((IntKind.wrap .i64 (d*a))+c)) w)))))) (ok 36) [] [] Tryz.func42
noncomputable def Yn:cz:=[(5,sp 0 12 (.op 12 (.op 13 .done)))]
def V0:=λa b c d w Q=>bB (oA a b c d w Q) (xy a b c w λe f g w=>ot a b c w λi j w=>cond (!g) (Q (-1) w) (cond (decide (d<0)) (Q (-1) w) (cond (decide (d≥(IntKind.wrap .i64 (i*j)))) (Q (-1) w) (NZ i<|NZ i<|Ap a b (IntKind.wrap .i64 (e+(Int.tmod d i))) (IntKind.wrap .i64 (f+(IntKind.wrap .i64 (Int.tdiv d i)))) w.drew λl w=>Q l w)))) (ok 55) Yn [] Tryz.func159
def Ba (Q:WP)(R3:Addr->Addr->Int->Int->Int->WP)(a b:Addr)(c d e:Int)(w:World):Prop:=cond (decide (e<d)) (aA (a.add 2) w.drew λf g i=>af .i64 a w.drew λj=>bT f g i 1 (some (IntKind.wrap .i64 (c+(IntKind.wrap .i64 (e*j))))) none λl m n=>aA (b.add 2) w.drew λo p q=>af .i64 b w.drew λr=>af .i64 b w.drew λs=>bT o p q 1 (some (IntKind.wrap .i64 (e*r))) (some (IntKind.wrap .i64 ((IntKind.wrap .i64 (e+1))*s))) λt u v=>cK P #[22,22] 3 (.slice l m n) (.slice t u v) w.drew λx w=>R3 a b c d (IntKind.wrap .i64 (e+1)) w) (Q w)
def EX (Q:WP):Nat->Addr->Addr->Int->Int->Int->WP
 |0,_,_,_,_,_,_=>False
 |k+1,a,b,c,d,e,w=>Ba Q (EX Q k) a b c d e w
noncomputable def Qs:cz:=[(5,sp 0 21 (.op 21 .done))]
def ag4 (Q):∀k,Bk 42 Tryz.f144 (TZ Q) 3 [(3,.a),(5,.a),(6,.i .i64),(15,.i .i64),(16,.i .i64)] (EX Q k):=bL λk h=>aU (ok 42) Qs [aO h]
def abO:=λa b c d e f g i j l m w Q=>bB (GD a b c d e f g i j l m w Q) (Bx [ae a,ae b,.slice c d e] 25 w λn w=>Bx [ae g,ae i,.slice j l m] 84 w λo w=>af .i64 n w λp=>af .i64 (n.add 1) w λq=>oA p q f 0 w λr w=>af .i64 (o.add 1) w λs=>∃k',EX Q k' n o r s 0 w) (ok 42) Qs [cq (ag4 Q)] Tryz.func144
def zA (Q:Int->Int->L3 (Value->WP))(R9:L3 (Addr->Addr->Int->Int->WP))(a:OA)(b c:Nat)(d e:Addr)(f g:Int)(w:World):Prop:=cond (decide (g<f)) (af .i64 e w λi=>af .i64 (e.add 1) w λj=>ot i j g w λl m w=>Ii a b c l m w λn o p q r s t w=>Al T 84 w λu w=>St (u.add 0) (ae n) w λw=>St (u.add 1) (ae o) w λw=>St (u.add 2) (.slice p q r) w λw=>cond (t !=0) (Bx [ae g,.iface 187 (ae t)] 242 w λv w=>St (d.add 0) (ae 0) w λw=>St (d.add 1) (ae 0) w λw=>St (d.add 2) (.slice none 0 0) w λw=>af .i64 (d.add 0) w λx=>af .i64 (d.add 1) w λy=>aA (d.add 2) w λz a1 b1=>Q x y z a1 b1 (.iface 240 (.pointer (some v))) w) (af .i64 (e.add 0) w λc1=>af .i64 (e.add 1) w λd1=>aA (e.add 2) w λe1 f1 g1=>af .i64 (u.add 0) w λi1=>af .i64 (u.add 1) w λj1=>aA (u.add 2) w λl1 m1 n1=>GD c1 d1 e1 f1 g1 g i1 j1 l1 m1 n1 w λw=>bT a b c 1 (some s) none λo1 p1 q1=>R9 o1 p1 q1 d e f (IntKind.wrap .i64 (g+1)) w)) (cond (decide ((b:Int)>0)) (St (d.add 0) (ae 0) w λw=>St (d.add 1) (ae 0) w λw=>St (d.add 2) (.slice none 0 0) w λw=>af .i64 (d.add 0) w λr1=>af .i64 (d.add 1) w λs1=>aA (d.add 2) w λt1 u1 v1=>Q r1 s1 t1 u1 v1 (.iface 187 (ae 3)) w) (af .i64 (e.add 0) w λx1=>af .i64 (e.add 1) w λy1=>aA (e.add 2) w λz1 a2 b2=>St (d.add 0) (ae x1) w λw=>St (d.add 1) (ae y1) w λw=>St (d.add 2) (.slice z1 a2 b2) w λw=>af .i64 (d.add 0) w λc2=>af .i64 (d.add 1) w λd2=>aA (d.add 2) w λe2 f2 g2=>Q c2 d2 e2 f2 g2 (.nilIface) w))
def Di (Q:Int->Int->L3 (Value->WP)):Nat->L3 (Addr->Addr->Int->Int->WP)
 |0,_,_,_,_,_,_,_,_=>False
 |k+1,a,b,c,d,e,f,g,w=>zA Q (Di Q k) a b c d e f g w
noncomputable def NT:cz:=[(3,sp 0 21 (.op 21 (.op 22 .done)))]
def ad2 (Q):∀k,Bk 102 Tryz.f111 (P_ Q) 9 [(0,.l),(2,.a),(4,.a),(58,.i .i64),(59,.i .i64)] (Di Q k):=bL λk h=>aU (ok 102) NT [aO h]
def Z1:=λa b c w Q=>bB (Ff a b c w Q) (Al T 25 w λd w=>cond (decide ((b:Int)<4)) (St (d.add 0) (ae 0) w λw=>St (d.add 1) (ae 0) w λw=>St (d.add 2) (.slice none 0 0) w λw=>af .i64 (d.add 0) w λe=>af .i64 (d.add 1) w λf=>aA (d.add 2) w λg i j=>Q e f g i j (.iface 187 (ae 2)) w) (aJ 0 b<|wA a λl=>af .u8 (l.add (((0:Int).toNat)*1)) w.drew λm=>aJ 1 b<|wA a λn=>af .u8 (n.add (((1:Int).toNat)*1)) w.drew λo=>En 8<|aJ 2 b<|wA a λp=>af .u8 (p.add (((2:Int).toNat)*1)) w.drew λq=>aJ 3 b<|wA a λr=>af .u8 (r.add (((3:Int).toNat)*1)) w.drew λs=>En 8<|Al T 25 w.drew λt w=>w.cell? (r.add (((3:Int).toNat)*1))=some (.int .u8 s)/\w.cell? (p.add (((2:Int).toNat)*1))=some (.int .u8 q)/\w.cell? (n.add (((1:Int).toNat)*1))=some (.int .u8 o)/\w.cell? (l.add (((0:Int).toNat)*1))=some (.int .u8 m)/\St (t.add 0) (ae (ior .i64 (IntKind.wrap .i64 m) (Ca .i64 (IntKind.wrap .i64 o) 8))) w λw=>St (t.add 1) (ae (ior .i64 (IntKind.wrap .i64 q) (Ca .i64 (IntKind.wrap .i64 s) 8))) w λw=>St (t.add 2) (.slice none 0 0) w λw=>af .i64 t w λu=>af .i64 (t.add 1) w λv=>lT u v w λx w=>cond (!x) (St (d.add 0) (ae 0) w λw=>St (d.add 1) (ae 0) w λw=>St (d.add 2) (.slice none 0 0) w λw=>af .i64 (d.add 0) w λy=>af .i64 (d.add 1) w λz=>aA (d.add 2) w λa1 b1 c1=>Q y z a1 b1 c1 (.iface 187 (ae 3)) w) (bT a b c 1 (some 4) none λd1 e1 f1=>af .i64 t w λg1=>af .i64 (t.add 1) w λi1=>cE P 22 (ae (IntKind.wrap .i64 (g1*i1))) (ae (IntKind.wrap .i64 (g1*i1))) w λj1 l1 m1 w=>St (t.add 2) (.slice j1 l1 m1) w λw=>af .i64 t w λn1=>af .i64 (t.add 1) w λo1=>Fh n1 o1 w λp1 w=>∃k',Di Q k' d1 e1 f1 d t p1 0 w))) (ok 102) NT [cq (ad2 Q)] Tryz.func111
noncomputable def ad3:cz:=[(4,sp 0 2 (.op 2 (.op 3 .done)))]
def abP:=λa b c w Q=>bB (Gx a b c w Q) (Al T 25 w λd w=>Ff a b c w λe f g i j l w=>Al T 25 w λm w=>St (m.add 0) (ae e) w λw=>St (m.add 1) (ae f) w λw=>St (m.add 2) (.slice g i j) w λw=>Al T 187 w λn w=>St n (ae 0) w λw=>nM l (.iface 188 (.pointer (some n))) w λo w=>cond o (af .i64 n w.drew λp=>St (d.add 0) (ae 0) w.drew λw=>St (d.add 1) (ae 0) w λw=>St (d.add 2) (.slice none 0 0) w λw=>w.cell? n=some (ae p)/\af .i64 (d.add 0) w λq=>af .i64 (d.add 1) w λr=>aA (d.add 2) w λs t u=>Q q r s t u p w) (af .i64 (m.add 0) w λv=>af .i64 (m.add 1) w λx=>aA (m.add 2) w λy z a1=>St (d.add 0) (ae v) w λw=>St (d.add 1) (ae x) w λw=>St (d.add 2) (.slice y z a1) w λw=>af .i64 (d.add 0) w λb1=>af .i64 (d.add 1) w λc1=>aA (d.add 2) w λd1 e1 f1=>Q b1 c1 d1 e1 f1 0 w)) (ok 18) ad3 [] Tryz.func79
def M5:=λa w Q=>bB (qF a w Q) (cond (!a.isNone) (wA a λb=>bg b w λc=>vX c w λw=>wA a λd=>St (d.add 1) (.slice none 0 0) w λw=>Q w) (Q w)) (ok 12) [] [] Tryz.func82
def abQ:=λa b c d e w Q=>bB (BL a b c d e w Q) (Bx [ae a,ae b,.slice c d e] 25 w λf w=>af .i64 f w λg=>af .i64 (f.add 1) w λi=>lT g i w λj w=>cond j (aA (f.add 2) w λl m n=>af .i64 f w λo=>af .i64 (f.add 1) w λp=>cond ((m:Int)==(IntKind.wrap .i64 (o*p))) (aA (f.add 2) w λq r s=>iZ q r s 0 w λt w=>Q (!t) w) (Q false w)) (Q false w)) (ok 25) [] [] Tryz.func112
def Cz (Q:OA->WP)(R7:Addr->Int->Int->WP)(a:Addr)(b c:Int)(w:World):Prop:=cond (decide (c<b)) (aA (a.add 4) w.drew λd e f=>af .i64 (a.add 3) w.drew λg=>aJ c e<|wA d λi=>St (i.add (c.toNat*1)) (ae g) w.drew λw=>R7 a b (IntKind.wrap .i64 (c+1)) w) (Q (some a) w)
def zB (Q:OA->WP):Nat->Addr->Int->Int->WP
 |0,_,_,_,_=>False
 |k+1,a,b,c,w=>Cz Q (zB Q k) a b c w
noncomputable def T2:cz:=[(5,sp 0 6 (.op 6 (.op 7 (.op 8 (.op 9 .done))))),(9,sp 0 10 (.op 10 .done))]
def aiD (Q):∀k,Bk 61 Tryz.f113 (VK Q) 7 [(7,.a),(45,.i .i64),(46,.i .i64)] (zB Q k):=bL λk h=>aU (ok 61) T2 [aO h]
def ad4:=λa b c d e f w Q=>bB (Ie a b c d e f w Q) (Bx [ae a,ae b,.slice c d e] 25 w λg w=>af .i64 (g.add 0) w λi=>af .i64 (g.add 1) w λj=>aA (g.add 2) w λl m n=>BL i j l m n w λo w=>cond (!o) (Q none w) (cond (decide (f<0)) (Q none w) (cond (decide (f>4611686018427387904)) (Q none w) (aA (g.add 2) w λp q r=>jR p q r w λs t u w=>St (g.add 2) (.slice s t u) w λw=>af .i64 g w λv=>af .i64 (g.add 1) w λx=>lF v x w λy z w=>af .i64 (g.add 0) w.drew λa1=>af .i64 (g.add 1) w.drew λb1=>aA (g.add 2) w.drew λc1 d1 e1=>cE P 172 (ae (IntKind.wrap .i64 (y*z))) (ae (IntKind.wrap .i64 (y*z))) w.drew λf1 g1 i1 w=>w.cell? (g.add 0)=some (ae a1)/\w.cell? (g.add 1)=some (ae b1)/\w.cell? (g.add 2)=some (.slice c1 d1 e1)/\Bx [ae a1,ae b1,.slice c1 d1 e1,ae (IntKind.wrap .i64 (f+1)),.slice f1 g1 i1] 174 w λj1 w=>aA (j1.add 4) w λl1 m1 n1=>∃k',zB Q k' j1 (m1:Int) 0 w)))) (ok 61) T2 [cq (aiD Q)] Tryz.func113
def FX:=λa w Q=>bB (gf a w Q) (cond a.isNone (Q 0 w) (wA a λb=>af .i64 (b.add 3) w λc=>Q c w)) (ok 9) [] [] Tryz.func114
noncomputable def UP:cz:=[(3,sp 0 10 (.op 10 (.op 11 .done)))]
def SC:=λa w Q=>bB (eU a w Q) (cond a.isNone (Q 0 0 w) (wA a λb=>af .i64 b w.drew λc=>wA a λd=>af .i64 (d.add 1) w.drew λe=>w.drew.cell? (d.add 1)=some (ae e)/\Q c e w.drew)) (ok 16) UP [] Tryz.func147
def ad5:=λa w Q=>bB (Ig a w Q) (cond a.isNone (Q none w) (eU a w λb c w=>lF b c w λd e w=>cE P 234 (ae (IntKind.wrap .i64 (d*e))) (ae (IntKind.wrap .i64 (d*e))) w λf g i w=>Bx [.pointer a,.slice f g i,ae 0,.int .u64 0] 236 w λj w=>Q (some j) w)) (ok 22) [] [] Tryz.func115
def abR:=λa b w Q=>bB (GA a b w Q) (cond a.isNone (Q none w) (cond b.isNone (Q none w) (Bx [.pointer a,.pointer b,.pointer none,.int .u64 0] 197 w λc w=>Q (some c) w))) (ok 15) [] [] Tryz.func116
noncomputable def Yo:cz:=[(5,sp 0 6 (.op 6 (.op 7 (sp 8 2 (.op 10 .done))))),(6,sp 0 6 (.op 6 (.op 7 (sp 8 2 (.op 10 .done))))),(8,sp 0 9 (.op 9 (sp 10 2 (.op 12 .done))))]
def V1:=λa b c d e f w Q=>bB (Ck a b c d e f w Q) (Bx [ae b,ae c,.slice d e f] 25 w λg w=>cond a.isNone (Q 4 w) (af .i64 (g.add 0) w λi=>af .i64 (g.add 1) w λj=>aA (g.add 2) w λl m n=>BL i j l m n w λo w=>cond (!o) (Q 6 w) (wA a λp=>af .u64 ((p.add 4).add 0) w.drew λq=>af .u64 ((p.add 4).add 1) w.drew λr=>af .u64 ((p.add 4).add 2) w.drew λs=>af .u64 ((p.add 4).add 3) w.drew λt=>af .u64 ((p.add 4).add 4) w.drew λu=>af .u64 ((p.add 4).add 5) w.drew λv=>ux a w.drew λx y z a1 b1 c1 w=>w.cell? ((p.add 4).add 0)=some (.int .u64 q)/\w.cell? ((p.add 4).add 1)=some (.int .u64 r)/\w.cell? ((p.add 4).add 2)=some (.int .u64 s)/\w.cell? ((p.add 4).add 3)=some (.int .u64 t)/\w.cell? ((p.add 4).add 4)=some (.int .u64 u)/\w.cell? ((p.add 4).add 5)=some (.int .u64 v)/\xp q r s t u v x y z a1 b1 c1 w λd1 e1 f1 g1 i1 j1 w=>wA a λl1=>St ((l1.add 4).add 0) (.int .u64 d1) w λw=>St ((l1.add 4).add 1) (.int .u64 e1) w λw=>St ((l1.add 4).add 2) (.int .u64 f1) w λw=>St ((l1.add 4).add 3) (.int .u64 g1) w λw=>St ((l1.add 4).add 4) (.int .u64 i1) w λw=>St ((l1.add 4).add 5) (.int .u64 j1) w λw=>af .i64 (g.add 0) w.drew λm1=>af .i64 (g.add 1) w.drew λn1=>aA (g.add 2) w.drew λo1 p1 q1=>wA a λr1=>bg r1 w.drew λs1=>gf s1 w.drew λt1 w=>w.cell? (g.add 0)=some (ae m1)/\w.cell? (g.add 1)=some (ae n1)/\w.cell? (g.add 2)=some (.slice o1 p1 q1)/\Ie m1 n1 o1 p1 q1 t1 w λu1 w=>wA a λv1=>St v1 (.pointer u1) w λw=>wA a λx1=>bg x1 w λy1=>Ig y1 w λz1 w=>wA a λa2=>St (a2.add 1) (.pointer z1) w λw=>wA a λb2=>bg (b2.add 1) w.drew λc2=>wA a λd2=>bg d2 w.drew λe2=>GA c2 e2 w.drew λf2 w=>wA a λg2=>St (g2.add 2) (.pointer f2) w λw=>wA a λi2=>bg (i2.add 3) w λj2=>qF j2 w λw=>Q 0 w))) (ok 57) Yo [] Tryz.func80
def abS:=λa w Q=>bB (GB a w Q) (cond (decide (a<1)) (Q none w) (cond (decide (a>65536)) (Q none w) (cB P 169 none w λb w=>Bx [ae a,ae 0,.map b,.slice none 0 0] 171 w λc w=>Q (some c) w))) (ok 13) [] [] Tryz.func117
def abT:=λa w Q=>bB (GC a w Q) (cond (decide (a<1)) (Q none w) (cond (decide (a>1048576)) (Q none w) (cE P 245 (ae a) (ae a) w λb c d w=>Bx [.slice b c d,ae 0] 247 w λe w=>Q (some e) w))) (ok 13) [] [] Tryz.func118
def abU:=λa b c w Q=>bB (Gy a b c w Q) (lT a b w λd w=>cond (!d) (Q none w) (cond (decide (c<1)) (Q none w) (cond (decide (c>65536)) (Q none w) (GB c w λe w=>GC (IntKind.wrap .i64 (a*b)) w λf w=>Bx [ae a,ae b,ae c,.pointer e,.pointer f] 125 w λg w=>Q (some g) w)))) (ok 30) [] [] Tryz.func81
noncomputable def Qt:cz:=[(4,sp 0 5 (.op 5 (.op 6 .done))),(6,sp 0 9 (.op 9 (sp 10 2 (.op 12 .done))))]
def OT:=λa b c d w Q=>bB (yf a b c d w Q) (Gx b c d w λe f g i j l w=>Al T 25 w λm w=>St (m.add 0) (ae e) w λw=>St (m.add 1) (ae f) w λw=>St (m.add 2) (.slice g i j) w λw=>cond (l !=0) (Q (.iface 108 (ae 6)) w) (wA a λn=>bg (n.add 1) w.drew λo=>af .i64 (m.add 0) w.drew λp=>af .i64 (m.add 1) w.drew λq=>aA (m.add 2) w.drew λr s t=>Ck o p q r s t w.drew λu w=>cond (u==0) (af .i64 m w.drew λv=>af .i64 (m.add 1) w.drew λx=>wA a λy=>af .i64 y w.drew λz=>Gy v x z w.drew λa1 w=>wA a λb1=>St (b1.add 2) (.pointer a1) w λw=>gw u w λc1 w=>dV c1 λd1=>Q d1 w) (gw u w λe1 w=>dV e1 λf1=>Q f1 w))) (ok 37) Qt [] Tryz.func50
def DO:=λa w Q=>bB (qG a w Q) (cond (!a.isNone) (wA a λb=>St (b.add 2) (.pointer none) w λw=>Q w) (Q w)) (ok 7) [] [] Tryz.func83
def HN:=λa w Q=>bB (vW a w Q) (cond (!a.isNone) (wA a λb=>bg (b.add 3) w λc=>qF c w λw=>wA a λd=>bg (d.add 2) w λe=>qG e w λw=>Q w) (Q w)) (ok 14) [] [] Tryz.func51
def SD:=λa b w Q=>bB (uz a b w Q) (cond (!a.isNone) (cond (decide (b≥0)) (wA a λc=>aA c w λd e f=>Q (decide (b<(e:Int))) w) (Q false w)) (Q false w)) (ok 20) [] [] Tryz.func148
def Qu:=λa b w Q=>bB (mu a b w Q) (uz a b w λc w=>cond (!c) (Q (-1) w) (wA a λd=>aA d w λe f g=>aJ b f<|wA e λi=>af .u32 (i.add (b.toNat*1)) w λj=>Q (IntKind.wrap .i64 ((IntKind.wrap .i64 j)-1)) w)) (ok 18) [] [] Tryz.func119
def Qv:=λa b w Q=>bB (ze a b w Q) (cond a.isNone (Q (-1) w) (wA a λc=>bg (c.add 4) w λd=>mu d b w λe w=>Q e w)) (ok 13) [] [] Tryz.func84
def ad6:=λa b c w Q=>bB (za a b c w Q) (lT a b w λd w=>cond d (cond (decide (c≥0)) (Q (decide (c<(IntKind.wrap .i64 (a*b)))) w) (Q false w)) (Q false w)) (ok 21) [] [] Tryz.func68
noncomputable def Z2:cz:=[(3,sp 0 6 (.op 6 (.op 7 .done)))]
def Yp:=λa b c w Q=>bB (tH a b c w Q) (za a b c w λd w=>cond (!d) (Q (-1) (-1) w) (NZ a<|NZ a<|Q (Int.tmod c a) (IntKind.wrap .i64 (Int.tdiv c a)) w.drew)) (ok 19) Z2 [] Tryz.func41
def V2:=λa b c w Q=>bB (d_ a b c w Q) (tH a b c w λd e w=>cond (decide (d<0)) (Q (-1) w) (lF a b w λf g w=>NZ 16<|NZ 16<|Q (IntKind.wrap .i64 ((IntKind.wrap .i64 ((IntKind.wrap .i64 (Int.tdiv e 16))*f))+(IntKind.wrap .i64 (Int.tdiv d 16)))) w)) (ok 33) [] [] Tryz.func123
noncomputable def UQ:cz:=[(9,sp 0 15 (sp 16 4 (.op 15 (.op 20 (.op 21 .done)))))]
def SE:=λa b c w Q=>bB (Aq a b c w Q) (cond a.isNone (Q 4 w) (cond (decide (b<0)) (Q 7 w) (wA a λd=>aA (d.add 2) w λe f g=>cond (decide (b≥(f:Int))) (Q 7 w) (cond (decide (c<1)) (Q 8 w) (cond (decide (c>255)) (Q 8 w) (wA a λi=>aA (i.add 2) w λj l m=>aJ b l<|wA j λn=>St (n.add (b.toNat*1)) (.int .u8 (IntKind.wrap .u8 c)) w λw=>wA a λo=>af .i64 (o.add 3) w λp=>wA a λq=>St (q.add 3) (ae (IntKind.wrap .i64 (p+1))) w λw=>wA a λr=>aA (r.add 4) w.drew λs t u=>wA a λv=>af .i64 v w.drew λx=>wA a λy=>af .i64 (y.add 1) w.drew λz=>wA a λa1=>af .i64 (a1.add 3) w.drew λb1=>d_ x z b w.drew λc1 w=>w.cell? (a1.add 3)=some (ae b1)/\w.cell? (r.add 4)=some (.slice s t u)/\(aJ c1 t<|wA s λd1=>St (d1.add (c1.toNat*1)) (ae b1) w λw=>Q 0 w))))))) (ok 67) UQ [] Tryz.func120
def V3:=λa b c w Q=>bB (Cl a b c w Q) (cond a.isNone (Q 4 w) (wA a λd=>bg d w λe=>Aq e b c w λf w=>Q f w)) (ok 16) [] [] Tryz.func85
def uK (Q:Value->WP)(a:OA)(b c:Int)(w:World):Prop:=wA a λd=>bg (d.add 1) w λe=>Cl e b c w λf w=>gw f w λg w=>dV g λi=>Q i w
def SF (Q):Bk 36 Tryz.f52 (Gw Q) 5 [(0,.p),(1,.i .i64),(2,.i .i64)] (uK Q):=aU (ok 36) [] []
def OU:=λa b c w Q=>bB (yg a b c w Q) (cond (decide (c<1)) (Q (.iface 108 (ae 8)) w) (cond (decide (c>255)) (Q (.iface 108 (ae 8)) w) (cond (c==255) (wA a λd=>bg (d.add 2) w λe=>ze e b w λf w=>cond (decide (f≥0)) (Q (.iface 108 (ae 10)) w) (uK Q a b c w)) (uK Q a b c w)))) (ok 36) [] [aO (SF Q)] Tryz.func52
noncomputable def UR:cz:=[(1,sp 0 9 (.op 9 (.op 10 (.op 11 .done))))]
def SG:=λa b w Q=>bB (pM a b w Q) (wA a λc=>af .i64 c w.drew λd=>wA a λe=>af .i64 (e.add 1) w.drew λf=>d_ d f b w.drew λg w=>Q (decide (g≥0)) w) (ok 16) UR [] Tryz.func88
def Qw:=λa w Q=>bB (zh a w Q) (cond a.isNone (Q 0 w) (wA a λb=>cy (b.add 2) w λc=>aN P (Builtin.len_ #[169] 3 [.map c].toArray) w λd w=>dI .i64 d λe=>Q e w)) (ok 10) [] [] Tryz.func124
def n7 (Q:Int->WP)(a b:Int)(w:World):Prop:=cond (a==b) (Q 13 w) (Q 0 w)
def yx (Q:Int->WP)(a:OA)(b c:Int)(w:World):Prop:=wA a λd=>bg (d.add 3) w.drew λe=>wA a λf=>af .i64 (f.add 2) w.drew λg=>zh e w.drew λi w=>w.cell? (f.add 2)=some (ae g)/\cond (decide (i≥g)) (Q 11 w) (n7 Q b c w)
def zC (Q:Int->WP)(a:OA)(b c:Int)(w:World):Prop:=wA a λd=>bg (d.add 4) w λe=>mu e b w λf w=>cond (f !=(-1)) (Q 10 w) (yx Q a b c w)
noncomputable def rO:cz:=[(10,sp 0 4 (sp 5 4 (.op 4 (.op 9 .done))))]
def Ez (Q):Bk 48 Tryz.f89 (sF Q) 12 [(2,.i .i64),(3,.i .i64)] (n7 Q):=aU (ok 48) rO []
def EA (Q):Bk 48 Tryz.f89 (sF Q) 10 [(0,.p),(2,.i .i64),(3,.i .i64)] (yx Q):=aU (ok 48) rO [aO (Ez Q)]
def Qx (Q):Bk 48 Tryz.f89 (sF Q) 8 [(0,.p),(2,.i .i64),(3,.i .i64)] (zC Q):=aU (ok 48) rO [aO (EA Q)]
def DP:=λa b c d w Q=>bB (nB a b c d w Q) (cond (b==0) (pM a c w λe w=>cond (!e) (Q 7 w) (pM a d w λf w=>cond (!f) (Q 7 w) (zC Q a c d w))) (cond (b==1) (zC Q a c d w) (cond (b==2) (yx Q a c d w) (cond (b==3) (n7 Q c d w) (Q 0 w))))) (ok 48) rO [aO (Qx Q),aO (EA Q),aO (Ez Q)] Tryz.func89
noncomputable def SH:cz:=[(1,sp 0 7 (sp 8 4 (.op 7 (sp 12 2 .done))))]
def Qy:=λa b c w Q=>bB (zg a b c w Q) (cond a.isNone (Q 0 false w.drew) (wA a λd=>cy (d.add 2) w.drew λe=>wA a λf=>af .i64 f w.drew λg=>aN P (Builtin.len_ #[169] 3 [.map e].toArray) w.drew λi w=>dI .i64 i λj=>w.cell? f=some (ae g)/\cond (decide (j≥g)) (Q 0 false w) (wA a λl=>af .i64 (l.add 1) w λm=>wA a λn=>af .i64 (n.add 1) w λo=>wA a λp=>St (p.add 1) (ae (IntKind.wrap .i64 (o+1))) w λw=>wA a λq=>cy (q.add 2) w λr=>bG P (Instr.mapUpdate 169 (.map r) (ae m) (.agg #[ae m,ae b,ae c])) w λw=>wA a λs=>aA (s.add 3) w λt u v=>Bx [ae m] 3 w λx w=>App P #[29,29] 29 (.slice t u v) (.slice (some x) 1 1) w λy z a1 w=>wA a λb1=>St (b1.add 3) (.slice y z a1) w λw=>Q m true w))) (ok 54) SH [] Tryz.func121
def OV:=λa b w Q=>bB (rM a b w Q) (uz a b w λc w=>cond c (wA a λd=>aA d w λe f g=>aJ b f<|wA e λi=>af .u32 (i.add (b.toNat*1)) w λj=>Q (j==0) w) (Q false w)) (ok 18) [] [] Tryz.func149
def Qz:=λa b c w Q=>bB (sI a b c w Q) (rM a b w λd w=>cond (!d) (Q false w) (cond (decide (c<0)) (Q false w) (cond (decide (c≥4294967295)) (Q false w) (wA a λe=>aA e w λf g i=>aJ b g<|wA f λj=>St (j.add (b.toNat*1)) (.int .u32 (IntKind.wrap .u32 (IntKind.wrap .i64 (c+1)))) w λw=>wA a λl=>af .i64 (l.add 1) w λm=>wA a λn=>St (n.add 1) (ae (IntKind.wrap .i64 (m+1))) w λw=>Q true w)))) (ok 35) [] [] Tryz.func122
def M6:=λa b c w Q=>bB (wR a b c w Q) (cond a.isNone (Q (-1) 1 w) (nB a 0 b c w λd w=>cond (d !=0) (Q (-1) d w) (wA a λe=>bg (e.add 3) w λf=>zg f b c w λg i w=>wA a λj=>bg (j.add 4) w λl=>sI l b g w λm w=>Q g 0 w))) (ok 35) [] [] Tryz.func86
def M7:=λa b c w Q=>bB (wN a b c w Q) (wA a λd=>bg (d.add 1) w λe=>rZ e b w λf w=>cond (f==255) (Q (-1) (.iface 108 (ae 9)) w) (wA a λg=>bg (g.add 2) w λi=>wR i b c w λj l w=>gw l w λm w=>dV m λn=>Q j n w)) (ok 31) [] [] Tryz.func53
def QA:=λa b w Q=>bB (iU a b w Q) (Al T 43 w λc w=>cond a.isNone (St (c.add 0) (ae 0) w λw=>St (c.add 1) (ae 0) w λw=>St (c.add 2) (ae 0) w λw=>af .i64 (c.add 0) w λd=>af .i64 (c.add 1) w λe=>af .i64 (c.add 2) w λf=>Q d e f false w) (wA a λg=>cy (g.add 2) w λi=>aN P (Instr.lookup 169 (.map i) (ae b) true) w λj w=>dT j λl=>dJ l λm n=>dL m λo=>dJ o λp q=>dI .i64 p λr=>dJ q λs t=>dI .i64 s λu=>dJ t λv x=>dI .i64 v λy=>kU x<|dJ n λz a1=>dB z λb1=>kU a1<|Al T 43 w λc1 w=>St (c1.add 0) (ae r) w λw=>St (c1.add 1) (ae u) w λw=>St (c1.add 2) (ae y) w λw=>af .i64 (c1.add 0) w λd1=>af .i64 (c1.add 1) w λe1=>af .i64 (c1.add 2) w λf1=>St (c.add 0) (ae d1) w λw=>St (c.add 1) (ae e1) w λw=>St (c.add 2) (ae f1) w λw=>af .i64 (c.add 0) w λg1=>af .i64 (c.add 1) w λi1=>af .i64 (c.add 2) w λj1=>Q g1 i1 j1 b1 w)) (ok 22) [] [] Tryz.func87
def oG (Q:L3 WP)(R3:OA->L3 (L3 (Int->Int->WP)))(a b:OA)(c d:Nat)(e:OA)(f g:Nat)(i j:Int)(w:World):Prop:=cond (decide (j<i)) (aJ j f<|wA e λl=>af .i64 (l.add (j.toNat*1)) w λm=>wA a λn=>cy (n.add 2) w λo=>aN P (Instr.lookup 169 (.map o) (ae m) true) w λp w=>dT p λq=>dJ q λr s=>dL r λt=>dJ t λu v=>dI .i64 u λx=>dJ v λy z=>dI .i64 y λa1=>dJ z λb1 c1=>dI .i64 b1 λd1=>kU c1<|dJ s λe1 f1=>dB e1 λg1=>kU f1<|Al T 43 w λi1 w=>St (i1.add 0) (ae x) w λw=>St (i1.add 1) (ae a1) w λw=>St (i1.add 2) (ae d1) w λw=>cond g1 (Bx [ae m] 3 w λj1 w=>App P #[29,29] 29 (.slice b c d) (.slice (some j1) 1 1) w λl1 m1 n1 w=>R3 a l1 m1 n1 e f g i (IntKind.wrap .i64 (j+1)) w) (R3 a b c d e f g i (IntKind.wrap .i64 (j+1)) w)) (Q b c d w)
def my (Q:L3 WP):Nat->OA->L3 (L3 (Int->Int->WP))
 |0,_,_,_,_,_,_,_,_,_,_=>False
 |k+1,a,b,c,d,e,f,g,i,j,w=>oG Q (my Q k) a b c d e f g i j w
def QB (Q):∀k,Bk 33 Tryz.f102 (FN Q) 3 [(0,.p),(3,.l),(11,.l),(12,.i .i64),(13,.i .i64)] (my Q k):=bL λk h=>aU (ok 33) [] [aO h]
def M8:=λa w Q=>bB (qH a w Q) (wA a λb=>aA (b.add 3) w λc d e=>∃k',my Q k' a none 0 0 c d e (d:Int) 0 w) (ok 33) [] [cq (QB Q)] Tryz.func102
noncomputable def QC:cz:=[(5,sp 0 9 (.op 9 (sp 10 2 .done)))]
def OW:=λa b w Q=>bB (ym a b w Q) (iU a b w λc d e f w=>Al T 43 w λg w=>St (g.add 0) (ae c) w λw=>St (g.add 1) (ae d) w λw=>St (g.add 2) (ae e) w λw=>cond (!f) (Q false w) (wA a λi=>cy (i.add 2) w λj=>aN P (Builtin.delete_ #[169,3] 0 [.map j,ae b].toArray) w λl w=>wA a λm=>aA (m.add 3) w.drew λn o p=>wA a λq=>cy (q.add 2) w.drew λr=>aN P (Builtin.len_ #[169] 3 [.map r].toArray) w.drew λs w=>dI .i64 s λt=>w.cell? (m.add 3)=some (.slice n o p)/\cond (decide ((o:Int)>(IntKind.wrap .i64 (2*t)))) (qH a w λu v x w=>wA a λy=>St (y.add 3) (.slice u v x) w λw=>Q true w) (Q true w))) (ok 37) QC [] Tryz.func125
def OX:=λa b w Q=>bB (rL a b w Q) (mu a b w λc w=>cond (c !=(-1)) (wA a λd=>aA d w λe f g=>aJ b f<|wA e λi=>St (i.add (b.toNat*1)) (.int .u32 0) w λw=>wA a λj=>af .i64 (j.add 1) w λl=>wA a λm=>St (m.add 1) (ae (IntKind.wrap .i64 (l-1))) w λw=>Q c w) (Q c w)) (ok 25) [] [] Tryz.func126
noncomputable def QD:cz:=[(1,sp 0 6 (.op 6 .done)),(2,sp 0 6 (.op 6 .done))]
def OY:=λa b c d w Q=>bB (nW a b c d w Q) (Bx [ae b,ae c,ae d] 43 w λe w=>wA a λf=>bg (f.add 3) w.drew λg=>af .i64 e w.drew λi=>ym g i w.drew λj w=>wA a λl=>bg (l.add 4) w.drew λm=>af .i64 (e.add 1) w.drew λn=>rL m n w.drew λo w=>Q w) (ok 18) QD [] Tryz.func90
noncomputable def SI:cz:=[(4,sp 0 6 (.op 6 .done))]
def QE:=λa b c w Q=>bB (sJ a b c w Q) (iU a b w λd e f g w=>Al T 43 w λi w=>St (i.add 0) (ae d) w λw=>St (i.add 1) (ae e) w λw=>St (i.add 2) (ae f) w λw=>cond g (iw (cx 25) c [.pointer (some i)] w λj w=>dT j λl=>kU l<|wA a λm=>cy (m.add 2) w.drew λn=>af .i64 (i.add 0) w.drew λo=>af .i64 (i.add 1) w.drew λp=>af .i64 (i.add 2) w.drew λq=>bG P (Instr.mapUpdate 169 (.map n) (ae b) (.agg #[ae o,ae p,ae q])) w.drew λw=>Q g w) (Q g w)) (ok 25) SI [] Tryz.func127
def M9:=λa b w Q=>bB (DL a b w Q) (wA b λc=>af .i64 c w λd=>wA a λe=>St (e.add 2) (ae d) w λw=>Q w) (ok 7) [] [] Tryz.func128
def QF:=λa b c w Q=>bB (zf a b c w Q) (Bx [ae c] 3 w λd w=>sJ a b (.func (.func 128) #[] #[.pointer (some d)]) w λe w=>Q e w) (ok 11) [] [] Tryz.func91
def J8:=λa b c w Q=>bB (tA a b c w Q) (cond a.isNone (Q 1 w) (wA a λd=>bg (d.add 3) w λe=>iU e b w λf g i j w=>Al T 43 w λl w=>St (l.add 0) (ae f) w λw=>St (l.add 1) (ae g) w λw=>St (l.add 2) (ae i) w λw=>cond (!j) (Q 12 w) (pM a c w λm w=>cond (!m) (Q 7 w) (af .i64 (l.add 1) w λn=>nB a 3 n c w λo w=>cond (o !=0) (af .i64 (l.add 0) w λp=>af .i64 (l.add 1) w λq=>af .i64 (l.add 2) w λr=>nW a p q r w λw=>Q o w) (wA a λs=>bg (s.add 3) w λt=>zf t b c w λu w=>Q 0 w))))) (ok 47) [] [] Tryz.func55
def KN:=λa b w Q=>bB (uu a b w Q) (cond a.isNone (Q 1 w) (wA a λc=>bg (c.add 3) w λd=>iU d b w λe f g i w=>Al T 43 w λj w=>St (j.add 0) (ae e) w λw=>St (j.add 1) (ae f) w λw=>St (j.add 2) (ae g) w λw=>cond (!i) (Q 12 w) (af .i64 (j.add 0) w λl=>af .i64 (j.add 1) w λm=>af .i64 (j.add 2) w λn=>nW a l m n w λw=>Q 0 w))) (ok 23) [] [] Tryz.func56
def V4:=λa w Q=>bB (xw a w Q) (cond a.isNone (Q 0 0 w) (wA a λb=>bg b w λc=>eU c w λd e w=>Q d e w)) (ok 13) [] [] Tryz.func131
def Yr:=λa b c w Q=>bB (nJ a b c w Q) (tH a b c w λd e w=>cond (decide (d<0)) (Q (-1) w) (d_ a b c w λf w=>ot a b f w λg i w=>NZ 16<|NZ 16<|Q (IntKind.wrap .i64 ((IntKind.wrap .i64 ((Int.tmod e 16)*g))+(Int.tmod d 16))) w)) (ok 37) [] [] Tryz.func132
def r8 (Q:Int->Int->L3 (Bool->WP))(R7:OA->Int->Addr->Int->Int->Int->Addr->Int->Int->WP)(a:OA)(b:Int)(c:Addr)(d e f:Int)(g:Addr)(i j:Int)(w:World):Prop:=cond (decide (j<i)) (oA d e b (IntKind.wrap .i64 (j*f)) w λl w=>aA (g.add 2) w.drew λm n o=>wA a λp=>aA (p.add 2) w.drew λq r s=>bT q r s 1 (some l) (some (IntKind.wrap .i64 (l+f))) λt u v=>App P #[22,22] 22 (.slice m n o) (.slice t u v) w.drew λx y z w=>St (g.add 2) (.slice x y z) w λw=>R7 a b c d e f g i (IntKind.wrap .i64 (j+1)) w) (af .i64 (g.add 0) w λa1=>af .i64 (g.add 1) w λb1=>aA (g.add 2) w λc1 d1 e1=>St (c.add 0) (ae a1) w λw=>St (c.add 1) (ae b1) w λw=>St (c.add 2) (.slice c1 d1 e1) w λw=>af .i64 (c.add 0) w λf1=>af .i64 (c.add 1) w λg1=>aA (c.add 2) w λi1 j1 l1=>Q f1 g1 i1 j1 l1 true w)
def oH (Q:Int->Int->L3 (Bool->WP)):Nat->OA->Int->Addr->Int->Int->Int->Addr->Int->Int->WP
 |0,_,_,_,_,_,_,_,_,_,_=>False
 |k+1,a,b,c,d,e,f,g,i,j,w=>r8 Q (oH Q k) a b c d e f g i j w
noncomputable def HO:cz:=[(10,sp 0 12 (.op 12 (.op 13 (.op 14 .done))))]
def V5 (Q):∀k,Bk 58 Tryz.f161 (Jj Q) 7 [(0,.p),(1,.i .i64),(4,.a),(6,.i .i64),(7,.i .i64),(8,.i .i64),(10,.a),(31,.i .i64),(32,.i .i64)] (oH Q k):=bL λk h=>aU (ok 58) HO [aO h]
def SJ:=λa b w Q=>bB (uA a b w Q) (Al T 84 w λc w=>eU a w λd e w=>ot d e b w λf g w=>cond (f==0) (St (c.add 0) (ae 0) w λw=>St (c.add 1) (ae 0) w λw=>St (c.add 2) (.slice none 0 0) w λw=>af .i64 (c.add 0) w λi=>af .i64 (c.add 1) w λj=>aA (c.add 2) w λl m n=>Q i j l m n false w) (Al T 84 w λo w=>St (o.add 0) (ae f) w λw=>St (o.add 1) (ae g) w λw=>St (o.add 2) (.slice none 0 0) w λw=>∃k',oH Q k' a b c d e f o g 0 w)) (ok 58) HO [cq (V5 Q)] Tryz.func161
def M_:=λa w Q=>bB (wU a w Q) (cond a.isNone (Q 0 w) (wA a λb=>af .i64 (b.add 1) w λc=>Q c w)) (ok 9) [] [] Tryz.func170
def V6:=λw Q=>bB (xA w Q) (Al T 314 w λa w=>St (a.add 0) (ae 0) w λw=>St (a.add 1) (ae 1) w λw=>St (a.add 2) (ae 2) w λw=>St (a.add 3) (ae 3) w λw=>af .i64 (a.add 0) w λb=>af .i64 (a.add 1) w λc=>af .i64 (a.add 2) w λd=>af .i64 (a.add 3) w λe=>Q b c d e w) (ok 2) [] [] Tryz.func194
def nN (Q:Int->WP)(a b c d:Int)(w:World):Prop:=Ap a b c d w λe w=>Q e w
def xG (Q:Int->WP)(a b c d e:Int)(w:World):Prop:=nN Q a b c (IntKind.wrap .i64 (d+e)) w
def xH (Q:Int->WP)(a b c d e:Int)(w:World):Prop:=nN Q a b (IntKind.wrap .i64 (c+e)) d w
def GL (Q):Bk 43 Tryz.f21 (C_ Q) 16 [(0,.i .i64),(1,.i .i64),(9,.i .i64),(10,.i .i64)] (nN Q):=aU (ok 43) [] []
def abV (Q):Bk 43 Tryz.f21 (C_ Q) 12 [(0,.i .i64),(1,.i .i64),(9,.i .i64),(10,.i .i64),(11,.i .i64)] (xG Q):=aU (ok 43) [] [aO (GL Q)]
def abW (Q):Bk 43 Tryz.f21 (C_ Q) 14 [(0,.i .i64),(1,.i .i64),(9,.i .i64),(10,.i .i64),(11,.i .i64)] (xH Q):=aU (ok 43) [] [aO (GL Q)]
def Z3:=λa b c d w Q=>bB (mF a b c d w Q) (tH a b c w λe f w=>cond (decide (e<0)) (Q (-1) w) (cond (d==0) (xG Q a b e f (-1) w) (cond (d==2) (xG Q a b e f 1 w) (cond (d==3) (xH Q a b e f (-1) w) (cond (d==1) (xH Q a b e f 1 w) (cond (d==4) (nN Q a b e f w) (Q (-1) w))))))) (ok 43) [] [aO (abV Q),aO (abW Q),aO (GL Q)] Tryz.func21
def Ys:=λa b c d w Q=>bB (yO a b c d w Q) (mF a b c d w λe w=>cond (decide (e<0)) (Q (-1) w) (d_ a b e w λf w=>d_ a b c w λg w=>cond (f==g) (Q (-1) w) (Q e w))) (ok 29) [] [] Tryz.func195
def tM (Q:L3 WP)(R10:L3 (Int->Int->Int->WP))(a:OA)(b c:Nat)(d e f:Int)(w:World):Prop:=cond (decide (f<e)) (Bx [ae (IntKind.wrap .i64 (d+f))] 3 w λg w=>App P #[29,29] 29 (.slice a b c) (.slice (some g) 1 1) w λi j l w=>R10 i j l d e (IntKind.wrap .i64 (f+1)) w) (Q a b c w)
def nK (Q:L3 WP):Nat->L3 (Int->Int->Int->WP)
 |0,_,_,_,_,_,_,_=>False
 |k+1,a,b,c,d,e,f,w=>tM Q (nK Q k) a b c d e f w
def tN (Q:L3 WP)(R16:Int->L3 (Int->Int->Int->WP))(a:Int)(b:OA)(c d:Nat)(e f g:Int)(w:World):Prop:=cond (decide (g<f)) (Bx [ae (IntKind.wrap .i64 (e+(IntKind.wrap .i64 (g*a))))] 3 w λi w=>App P #[29,29] 29 (.slice b c d) (.slice (some i) 1 1) w λj l m w=>R16 a j l m e f (IntKind.wrap .i64 (g+1)) w) (Q b c d w)
def nL (Q:L3 WP):Nat->Int->L3 (Int->Int->Int->WP)
 |0,_,_,_,_,_,_,_,_=>False
 |k+1,a,b,c,d,e,f,g,w=>tN Q (nL Q k) a b c d e f g w
def Yt (Q):∀k,Bk 51 Tryz.f222 (Fm Q) 10 [(7,.l),(8,.i .i64),(24,.i .i64),(25,.i .i64)] (nK Q k):=bL λk h=>aU (ok 51) [] [aO h]
def Yu (Q):∀k,Bk 51 Tryz.f222 (Fm Q) 16 [(0,.i .i64),(7,.l),(8,.i .i64),(37,.i .i64),(38,.i .i64)] (nL Q k):=bL λk h=>aU (ok 51) [] [aO h]
def V7:=λa b c w Q=>bB (Ct a b c w Q) (cond (c==2) (∃k',nK Q k' none 0 0 (IntKind.wrap .i64 ((IntKind.wrap .i64 (b-1))*a)) a 0 w) (cond (c==0) (∃k',nK Q k' none 0 0 0 a 0 w) (cond (c==1) (∃k',nL Q k' a none 0 0 (IntKind.wrap .i64 (a-1)) b 0 w) (cond (c==3) (∃k',nL Q k' a none 0 0 0 b 0 w) (Q none 0 0 w))))) (ok 51) [] [cq (Yt Q),cq (Yu Q)] Tryz.func222
def vz (P4:Int->Int->Int->Int->Int->L3 (Int->Int->Int->Int->Int->WP))(Q:L3 WP)(R9:Int->Int->Int->Int->Int->L3 (Int->Int->Int->Int->Int->L3 (Int->Int->WP)))(a b c d e:Int)(f:OA)(g i:Nat)(j l m n o:Int)(p:OA)(q r:Nat)(s t:Int)(w:World):Prop:=cond (decide (t<s)) (aJ t q<|wA p λu=>af .i64 (u.add (t.toNat*1)) w λv=>aJ v g<|wA f λx=>St (x.add (v.toNat*1)) (.bool true) w λw=>R9 a b c d e f g i j l m n o p q r s (IntKind.wrap .i64 (t+1)) w) (P4 a b c d e f g i j l m n (IntKind.wrap .i64 (o+1)) w)
def ri (P4:Int->Int->Int->Int->Int->L3 (Int->Int->Int->Int->Int->WP))(Q:L3 WP):Nat->Int->Int->Int->Int->Int->L3 (Int->Int->Int->Int->Int->L3 (Int->Int->WP))
 |0,_,_,_,_,_,_,_,_,_,_,_,_,_,_,_,_,_,_,_=>False
 |k+1,a,b,c,d,e,f,g,i,j,l,m,n,o,p,q,r,s,t,w=>vz P4 Q (ri P4 Q k) a b c d e f g i j l m n o p q r s t w
def tO (Q:L3 WP)(R16:Int->Int->Int->L3 (L3 (Int->Int->WP)))(a b c:Int)(d:OA)(e f:Nat)(g:OA)(i j:Nat)(l m:Int)(w:World):Prop:=cond (decide (m<l)) (aJ m i<|wA g λn=>cD (n.add (m.toNat*1)) w λo=>cond o (oA a b c m w λp w=>Bx [ae p] 3 w λq w=>App P #[29,29] 29 (.slice d e f) (.slice (some q) 1 1) w λr s t w=>R16 a b c r s t g i j l (IntKind.wrap .i64 (m+1)) w) (R16 a b c d e f g i j l (IntKind.wrap .i64 (m+1)) w)) (Q d e f w)
def qh (Q:L3 WP):Nat->Int->Int->Int->L3 (L3 (Int->Int->WP))
 |0,_,_,_,_,_,_,_,_,_,_,_,_=>False
 |k+1,a,b,c,d,e,f,g,i,j,l,m,w=>tO Q (qh Q k) a b c d e f g i j l m w
def vA (Q:L3 WP)(R4:Int->Int->Int->Int->Int->L3 (Int->Int->Int->Int->Int->WP))(a b c d e:Int)(f:OA)(g i:Nat)(j l m n o:Int)(w:World):Prop:=cond (decide (o<4)) (aJ o 4<|IxV [ae j,ae l,ae m,ae n] o.toNat λp=>dI .i64 p λq=>Ct d e q w λr s t w=>cond ((s:Int)==0) (R4 a b c d e f g i j l m n (IntKind.wrap .i64 (o+1)) w) (aJ 0 s<|wA r λu=>af .i64 (u.add (((0:Int).toNat)*1)) w λv=>oA a b c v w λx w=>yO a b x q w λy w=>cond (decide (y<0)) (R4 a b c d e f g i j l m n (IntKind.wrap .i64 (o+1)) w) (∃k',ri R4 Q k' a b c d e f g i j l m n o r s t (s:Int) 0 w))) (∃k',qh Q k' a b c none 0 0 f g i (g:Int) 0 w)
def rj (Q:L3 WP):Nat->Int->Int->Int->Int->Int->L3 (Int->Int->Int->Int->Int->WP)
 |0,_,_,_,_,_,_,_,_,_,_,_,_,_,_=>False
 |k+1,a,b,c,d,e,f,g,i,j,l,m,n,o,w=>vA Q (rj Q k) a b c d e f g i j l m n o w
def Z4 {P4}(Q)(H4:Bk 83 Tryz.f192 (vu Q) 4 [(0,.i .i64),(1,.i .i64),(2,.i .i64),(7,.i .i64),(8,.i .i64),(9,.l),(29,.g [.i64,.i64,.i64,.i64]),(30,.i .i64)] P4):∀k,Bk 83 Tryz.f192 (vu Q) 9 [(0,.i .i64),(1,.i .i64),(2,.i .i64),(7,.i .i64),(8,.i .i64),(9,.l),(29,.g [.i64,.i64,.i64,.i64]),(30,.i .i64),(54,.l),(55,.i .i64),(56,.i .i64)] (ri P4 Q k):=bL λk h=>aU (ok 83) [] [aO H4,aO h]
def Yv (Q):∀k,Bk 83 Tryz.f192 (vu Q) 16 [(0,.i .i64),(1,.i .i64),(2,.i .i64),(15,.l),(65,.l),(66,.i .i64),(67,.i .i64)] (qh Q k):=bL λk h=>aU (ok 83) [] [aO h]
def Z5 (Q):∀k,Bk 83 Tryz.f192 (vu Q) 4 [(0,.i .i64),(1,.i .i64),(2,.i .i64),(7,.i .i64),(8,.i .i64),(9,.l),(29,.g [.i64,.i64,.i64,.i64]),(30,.i .i64)] (rj Q k):=bL λk h=>aU (ok 83) [] [aO h,cq (Z4 Q h),cq (Yv Q)]
def V8:=λa b c w Q=>bB (Cr a b c w Q) (ot a b c w λd e w=>cE P 49 (ae (IntKind.wrap .i64 (d*e))) (ae (IntKind.wrap .i64 (d*e))) w λf g i w=>xA w λj l m n w=>∃k',rj Q k' a b c d e f g i j l m n 0 w) (ok 83) [] [cq (Z5 Q)] Tryz.func192
def Yw:=λa b w Q=>bB (tI a b w Q) (fg a b w λc w=>cond (decide (c>0)) (Q (decide (c<255)) w) (Q false w)) (ok 15) [] [] Tryz.func193
def vB (Q:L3 WP)(R4:OA->L3 (L3 (Int->Int->WP)))(a b:OA)(c d:Nat)(e:OA)(f g:Nat)(i j:Int)(w:World):Prop:=cond (decide (j<i)) (aJ j f<|wA e λl=>af .i64 (l.add (j.toNat*1)) w λm=>tI a m w λn w=>cond n (Bx [ae m] 3 w λo w=>App P #[29,29] 29 (.slice b c d) (.slice (some o) 1 1) w λp q r w=>R4 a p q r e f g i (IntKind.wrap .i64 (j+1)) w) (R4 a b c d e f g i (IntKind.wrap .i64 (j+1)) w)) (Q b c d w)
def rm (Q:L3 WP):Nat->OA->L3 (L3 (Int->Int->WP))
 |0,_,_,_,_,_,_,_,_,_,_=>False
 |k+1,a,b,c,d,e,f,g,i,j,w=>vB Q (rm Q k) a b c d e f g i j w
def Z6 (Q):∀k,Bk 33 Tryz.f171 (LI Q) 4 [(0,.p),(7,.l),(18,.l),(19,.i .i64),(20,.i .i64)] (rm Q k):=bL λk h=>aU (ok 33) [] [aO h]
def V9:=λa b w Q=>bB (oC a b w Q) (eU a w λc d w=>Cr c d b w λe f g w=>∃k',rm Q k' a none 0 0 e f g (f:Int) 0 w) (ok 33) [] [cq (Z6 Q)] Tryz.func171
def vC (Q:L3 WP)(R6:OA->Int->Int->Int->L3 (Int->Int->Int->Int->Int->WP))(a:OA)(b c d:Int)(e:OA)(f g:Nat)(i j l m n:Int)(w:World):Prop:=cond (decide (n<4)) (aJ n 4<|IxV [ae i,ae j,ae l,ae m] n.toNat λo=>dI .i64 o λp=>yO c d b p w λq w=>cond (decide (q≥0)) (tI a q w λr w=>cond r (fg a q w λs w=>Bx [ae q,ae s] 292 w λt w=>App P #[289,289] 289 (.slice e f g) (.slice (some t) 1 1) w λu v x w=>R6 a b c d u v x i j l m (IntKind.wrap .i64 (n+1)) w) (R6 a b c d e f g i j l m (IntKind.wrap .i64 (n+1)) w)) (R6 a b c d e f g i j l m (IntKind.wrap .i64 (n+1)) w)) (Q e f g w)
def ou (Q:L3 WP):Nat->OA->Int->Int->Int->L3 (Int->Int->Int->Int->Int->WP)
 |0,_,_,_,_,_,_,_,_,_,_,_,_,_=>False
 |k+1,a,b,c,d,e,f,g,i,j,l,m,n,w=>vC Q (ou Q k) a b c d e f g i j l m n w
def Z7 (Q):∀k,Bk 46 Tryz.f172 (LJ Q) 6 [(0,.p),(1,.i .i64),(5,.i .i64),(6,.i .i64),(7,.l),(20,.g [.i64,.i64,.i64,.i64]),(21,.i .i64)] (ou Q k):=bL λk h=>aU (ok 46) [] [aO h]
def V_:=λa b w Q=>bB (Cq a b w Q) (eU a w λc d w=>tI a b w λe w=>cond (!e) (Q none 0 0 w) (xA w λf g i j w=>∃k',ou Q k' a b c d none 0 0 f g i j 0 w)) (ok 46) [] [cq (Z7 Q)] Tryz.func172
def SK:=λa b w Q=>bB (Av a b w Q) (cond a.isNone (Q 1099511627776 w) (cond (decide (b<0)) (Q 1099511627776 w) (wA a λc=>aA (c.add 2) w λd e f=>cond (decide (b≥(e:Int))) (Q 1099511627776 w) (wA a λg=>aA (g.add 2) w λi j l=>aJ b j<|wA i λm=>af .i32 (m.add (b.toNat*1)) w λn=>cond (n==2147483647) (Q 1099511627776 w) (wA a λo=>aA (o.add 2) w λp q r=>aJ b q<|wA p λs=>af .i32 (s.add (b.toNat*1)) w λt=>Q (IntKind.wrap .i64 t) w))))) (ok 38) [] [] Tryz.func173
def iH (Q:Int->WP)(R4:Int->Int->Int->Int->Int->WP)(a b c d e:Int)(w:World):Prop:=cond (decide (e<=4)) (mF a b c e w λf w=>cond (f==d) (Q e w) (R4 a b c d (IntKind.wrap .i64 (e+1)) w)) (Q 5 w)
def ni (Q:Int->WP):Nat->Int->Int->Int->Int->Int->WP
 |0,_,_,_,_,_,_=>False
 |k+1,a,b,c,d,e,w=>iH Q (ni Q k) a b c d e w
def ad7 (Q):∀k,Bk 34 Tryz.f174 (Qf Q) 4 [(0,.i .i64),(1,.i .i64),(2,.i .i64),(3,.i .i64),(9,.i .i64)] (ni Q k):=bL λk h=>aU (ok 34) [] [aO h]
def Z8:=λa b c d w Q=>bB (Fj a b c d w Q) (za a b c w λe w=>cond (!e) (Q 5 w) (za a b d w λf w=>cond (!f) (Q 5 w) (∃k',ni Q k' a b c d 0 w))) (ok 34) [] [cq (ad7 Q)] Tryz.func174
def O0:=λa w Q=>bB (yu a w Q) (cond a.isNone (Q (-1) w) (wA a λb=>af .i64 b w λc=>Q c w)) (ok 9) [] [] Tryz.func175
def CA:=λa b c w Q=>bB (jn a b c w Q) (cond a.isNone (Q none 0 0 w) (Bx [] 294 w λd w=>App P #[278,278] 278 (.slice (some d) 0 0) (.slice a b c) w λe f g w=>Q e f g w)) (ok 8) [] [] Tryz.func185
def fP (P1:L3 (Int->Int->Value->Int->WP))(Q:WP)(R4:L3 (Int->Int->Value->Int->Int->WP))(a:OA)(b c:Nat)(d e:Int)(f:Value)(g i:Int)(w:World):Prop:=cond (decide (i>d)) (aJ i b<|wA a λj=>af .i64 ((j.add (i.toNat*3)).add 0) w.drew λl=>af .i64 ((j.add (i.toNat*3)).add 1) w.drew λm=>af .i64 ((j.add (i.toNat*3)).add 2) w.drew λn=>aJ (IntKind.wrap .i64 (i-1)) b<|wA a λo=>af .i64 ((o.add (((IntKind.wrap .i64 (i-1))).toNat*3)).add 0) w.drew λp=>af .i64 ((o.add (((IntKind.wrap .i64 (i-1))).toNat*3)).add 1) w.drew λq=>af .i64 ((o.add (((IntKind.wrap .i64 (i-1))).toNat*3)).add 2) w.drew λr=>iw (cx 53) f [.agg #[ae l,ae m,ae n],.agg #[ae p,ae q,ae r]] w.drew λs w=>dI .i64 s λt=>cond (decide (t<0)) (aJ (IntKind.wrap .i64 (i-1)) b<|wA a λu=>af .i64 ((u.add (((IntKind.wrap .i64 (i-1))).toNat*3)).add 0) w.drew λv=>af .i64 ((u.add (((IntKind.wrap .i64 (i-1))).toNat*3)).add 1) w.drew λx=>af .i64 ((u.add (((IntKind.wrap .i64 (i-1))).toNat*3)).add 2) w.drew λy=>aJ i b<|wA a λz=>af .i64 ((z.add (i.toNat*3)).add 0) w.drew λa1=>af .i64 ((z.add (i.toNat*3)).add 1) w.drew λb1=>af .i64 ((z.add (i.toNat*3)).add 2) w.drew λc1=>aJ i b<|wA a λd1=>St ((d1.add (i.toNat*3)).add 0) (ae v) w.drew λw=>St ((d1.add (i.toNat*3)).add 1) (ae x) w λw=>St ((d1.add (i.toNat*3)).add 2) (ae y) w λw=>aJ (IntKind.wrap .i64 (i-1)) b<|wA a λe1=>St ((e1.add (((IntKind.wrap .i64 (i-1))).toNat*3)).add 0) (ae a1) w λw=>St ((e1.add (((IntKind.wrap .i64 (i-1))).toNat*3)).add 1) (ae b1) w λw=>St ((e1.add (((IntKind.wrap .i64 (i-1))).toNat*3)).add 2) (ae c1) w λw=>R4 a b c d e f g (IntKind.wrap .i64 (i-1)) w) (P1 a b c d e f (IntKind.wrap .i64 (g+1)) w)) (P1 a b c d e f (IntKind.wrap .i64 (g+1)) w.drew)
def eV (P1:L3 (Int->Int->Value->Int->WP))(Q:WP):Nat->L3 (Int->Int->Value->Int->Int->WP)
 |0,_,_,_,_,_,_,_,_,_=>False
 |k+1,a,b,c,d,e,f,g,i,w=>fP P1 Q (eV P1 Q k) a b c d e f g i w
def fQ (Q:WP)(R1:L3 (Int->Int->Value->Int->WP))(a:OA)(b c:Nat)(d e:Int)(f:Value)(g:Int)(w:World):Prop:=cond (decide (g<e)) (∃k',eV R1 Q k' a b c d e f g g w) (Q w)
def eX (Q:WP):Nat->L3 (Int->Int->Value->Int->WP)
 |0,_,_,_,_,_,_,_,_=>False
 |k+1,a,b,c,d,e,f,g,w=>fQ Q (eX Q k) a b c d e f g w
noncomputable def kz:cz:=[(4,sp 0 14 (.op 14 (sp 15 2 .done))),(6,sp 0 15 (.op 15 (.op 16 (.op 17 .done))))]
def AF {P1}(Q)(H1:Bk 53 Tryz.f243 (iz Q) 1 [(0,.l),(1,.i .i64),(2,.i .i64),(3,.v),(8,.i .i64)] P1):∀k,Bk 53 Tryz.f243 (iz Q) 4 [(0,.l),(1,.i .i64),(2,.i .i64),(3,.v),(8,.i .i64),(9,.i .i64)] (eV P1 Q k):=bL λk h=>aU (ok 53) kz [aO H1,aO h]
def AG (Q):∀k,Bk 53 Tryz.f243 (iz Q) 1 [(0,.l),(1,.i .i64),(2,.i .i64),(3,.v),(8,.i .i64)] (eX Q k):=bL λk h=>aU (ok 53) kz [cq (AF Q h)]
def zD:=λa b c d e f w Q=>bB (jS a b c d e f w Q) (∃k',eX Q k' a b c d e f (IntKind.wrap .i64 (d+1)) w) (ok 53) kz [cq (AG Q)] Tryz.func243
def fI (P1:L3 (Int->Int->Value->Int->WP))(Q:WP)(a:OA)(b c:Nat)(d e:Int)(f:Value)(g i:Int)(w:World):Prop:=aJ (IntKind.wrap .i64 (e+g)) b<|wA a λj=>af .i64 ((j.add (((IntKind.wrap .i64 (e+g))).toNat*3)).add 0) w.drew λl=>af .i64 ((j.add (((IntKind.wrap .i64 (e+g))).toNat*3)).add 1) w.drew λm=>af .i64 ((j.add (((IntKind.wrap .i64 (e+g))).toNat*3)).add 2) w.drew λn=>aJ (IntKind.wrap .i64 (e+i)) b<|wA a λo=>af .i64 ((o.add (((IntKind.wrap .i64 (e+i))).toNat*3)).add 0) w.drew λp=>af .i64 ((o.add (((IntKind.wrap .i64 (e+i))).toNat*3)).add 1) w.drew λq=>af .i64 ((o.add (((IntKind.wrap .i64 (e+i))).toNat*3)).add 2) w.drew λr=>iw (cx 82) f [.agg #[ae l,ae m,ae n],.agg #[ae p,ae q,ae r]] w.drew λs w=>dI .i64 s λt=>cond (!(decide (t<0))) (Q w) (aJ (IntKind.wrap .i64 (e+i)) b<|wA a λu=>af .i64 ((u.add (((IntKind.wrap .i64 (e+i))).toNat*3)).add 0) w.drew λv=>af .i64 ((u.add (((IntKind.wrap .i64 (e+i))).toNat*3)).add 1) w.drew λx=>af .i64 ((u.add (((IntKind.wrap .i64 (e+i))).toNat*3)).add 2) w.drew λy=>aJ (IntKind.wrap .i64 (e+g)) b<|wA a λz=>af .i64 ((z.add (((IntKind.wrap .i64 (e+g))).toNat*3)).add 0) w.drew λa1=>af .i64 ((z.add (((IntKind.wrap .i64 (e+g))).toNat*3)).add 1) w.drew λb1=>af .i64 ((z.add (((IntKind.wrap .i64 (e+g))).toNat*3)).add 2) w.drew λc1=>aJ (IntKind.wrap .i64 (e+g)) b<|wA a λd1=>St ((d1.add (((IntKind.wrap .i64 (e+g))).toNat*3)).add 0) (ae v) w.drew λw=>St ((d1.add (((IntKind.wrap .i64 (e+g))).toNat*3)).add 1) (ae x) w λw=>St ((d1.add (((IntKind.wrap .i64 (e+g))).toNat*3)).add 2) (ae y) w λw=>aJ (IntKind.wrap .i64 (e+i)) b<|wA a λe1=>St ((e1.add (((IntKind.wrap .i64 (e+i))).toNat*3)).add 0) (ae a1) w λw=>St ((e1.add (((IntKind.wrap .i64 (e+i))).toNat*3)).add 1) (ae b1) w λw=>St ((e1.add (((IntKind.wrap .i64 (e+i))).toNat*3)).add 2) (ae c1) w λw=>P1 a b c d e f i w)
def gU (Q:WP)(R1:L3 (Int->Int->Value->Int->WP))(a:OA)(b c:Nat)(d e:Int)(f:Value)(g:Int)(w:World):Prop:=cond (decide ((IntKind.wrap .i64 ((IntKind.wrap .i64 (2*g))+1))≥d)) (Q w) (cond (decide ((IntKind.wrap .i64 ((IntKind.wrap .i64 ((IntKind.wrap .i64 (2*g))+1))+1))<d)) (aJ (IntKind.wrap .i64 (e+(IntKind.wrap .i64 ((IntKind.wrap .i64 (2*g))+1)))) b<|wA a λi=>af .i64 ((i.add (((IntKind.wrap .i64 (e+(IntKind.wrap .i64 ((IntKind.wrap .i64 (2*g))+1))))).toNat*3)).add 0) w.drew λj=>af .i64 ((i.add (((IntKind.wrap .i64 (e+(IntKind.wrap .i64 ((IntKind.wrap .i64 (2*g))+1))))).toNat*3)).add 1) w.drew λl=>af .i64 ((i.add (((IntKind.wrap .i64 (e+(IntKind.wrap .i64 ((IntKind.wrap .i64 (2*g))+1))))).toNat*3)).add 2) w.drew λm=>aJ (IntKind.wrap .i64 ((IntKind.wrap .i64 (e+(IntKind.wrap .i64 ((IntKind.wrap .i64 (2*g))+1))))+1)) b<|wA a λn=>af .i64 ((n.add (((IntKind.wrap .i64 ((IntKind.wrap .i64 (e+(IntKind.wrap .i64 ((IntKind.wrap .i64 (2*g))+1))))+1))).toNat*3)).add 0) w.drew λo=>af .i64 ((n.add (((IntKind.wrap .i64 ((IntKind.wrap .i64 (e+(IntKind.wrap .i64 ((IntKind.wrap .i64 (2*g))+1))))+1))).toNat*3)).add 1) w.drew λp=>af .i64 ((n.add (((IntKind.wrap .i64 ((IntKind.wrap .i64 (e+(IntKind.wrap .i64 ((IntKind.wrap .i64 (2*g))+1))))+1))).toNat*3)).add 2) w.drew λq=>iw (cx 82) f [.agg #[ae j,ae l,ae m],.agg #[ae o,ae p,ae q]] w.drew λr w=>dI .i64 r λs=>cond (decide (s<0)) (fI R1 Q a b c d e f g (IntKind.wrap .i64 ((IntKind.wrap .i64 ((IntKind.wrap .i64 (2*g))+1))+1)) w) (fI R1 Q a b c d e f g (IntKind.wrap .i64 ((IntKind.wrap .i64 (2*g))+1)) w)) (fI R1 Q a b c d e f g (IntKind.wrap .i64 ((IntKind.wrap .i64 (2*g))+1)) w.drew))
def eY (Q:WP):Nat->L3 (Int->Int->Value->Int->WP)
 |0,_,_,_,_,_,_,_,_=>False
 |k+1,a,b,c,d,e,f,g,w=>gU Q (eY Q k) a b c d e f g w
noncomputable def mG:cz:=[(3,sp 0 19 (.op 19 (sp 20 2 .done))),(5,sp 0 13 (.op 13 (sp 14 2 .done))),(6,sp 0 21 (.op 21 (.op 22 (.op 23 .done))))]
def Dj {P1}(Q)(H1:Bk 82 Tryz.f265 (jB Q) 1 [(0,.l),(2,.i .i64),(3,.i .i64),(4,.v),(10,.i .i64)] P1):Bk 82 Tryz.f265 (jB Q) 5 [(0,.l),(2,.i .i64),(3,.i .i64),(4,.v),(10,.i .i64),(11,.i .i64)] (fI P1 Q):=aU (ok 82) mG [aO H1]
def Dk (Q):∀k,Bk 82 Tryz.f265 (jB Q) 1 [(0,.l),(2,.i .i64),(3,.i .i64),(4,.v),(10,.i .i64)] (eY Q k):=bL λk h=>aU (ok 82) mG [aO (Dj Q h)]
def B5:=λa b c d e f g w Q=>bB (jb a b c d e f g w Q) (∃k',eY Q k' a b c e f g d w) (ok 82) mG [cq (Dk Q)] Tryz.func265
def gV (Q:WP)(R8:L3 (Value->Int->Int->Int->WP))(a:OA)(b c:Nat)(d:Value)(e f g:Int)(w:World):Prop:=cond (decide (g≥0)) (aJ (IntKind.wrap .i64 (e+g)) b<|wA a λi=>af .i64 ((i.add (((IntKind.wrap .i64 (e+g))).toNat*3)).add 0) w.drew λj=>af .i64 ((i.add (((IntKind.wrap .i64 (e+g))).toNat*3)).add 1) w.drew λl=>af .i64 ((i.add (((IntKind.wrap .i64 (e+g))).toNat*3)).add 2) w.drew λm=>aJ e b<|wA a λn=>af .i64 ((n.add (e.toNat*3)).add 0) w.drew λo=>af .i64 ((n.add (e.toNat*3)).add 1) w.drew λp=>af .i64 ((n.add (e.toNat*3)).add 2) w.drew λq=>aJ e b<|wA a λr=>St ((r.add (e.toNat*3)).add 0) (ae j) w.drew λw=>St ((r.add (e.toNat*3)).add 1) (ae l) w λw=>St ((r.add (e.toNat*3)).add 2) (ae m) w λw=>aJ (IntKind.wrap .i64 (e+g)) b<|wA a λs=>St ((s.add (((IntKind.wrap .i64 (e+g))).toNat*3)).add 0) (ae o) w λw=>St ((s.add (((IntKind.wrap .i64 (e+g))).toNat*3)).add 1) (ae p) w λw=>St ((s.add (((IntKind.wrap .i64 (e+g))).toNat*3)).add 2) (ae q) w λw=>jb a b c f g e d w λw=>R8 a b c d e f (IntKind.wrap .i64 (g-1)) w) (Q w)
def fJ (Q:WP):Nat->L3 (Value->Int->Int->Int->WP)
 |0,_,_,_,_,_,_,_,_=>False
 |k+1,a,b,c,d,e,f,g,w=>gV Q (fJ Q k) a b c d e f g w
def gW (Q:WP)(R4:L3 (Value->Int->Int->Int->Int->WP))(a:OA)(b c:Nat)(d:Value)(e f g i:Int)(w:World):Prop:=cond (decide (i≥0)) (jb a b c i g e d w λw=>R4 a b c d e f g (IntKind.wrap .i64 (i-1)) w) (∃k',fJ Q k' a b c d e f (IntKind.wrap .i64 (g-1)) w)
def fK (Q:WP):Nat->L3 (Value->Int->Int->Int->Int->WP)
 |0,_,_,_,_,_,_,_,_,_=>False
 |k+1,a,b,c,d,e,f,g,i,w=>gW Q (fK Q k) a b c d e f g i w
noncomputable def mH:cz:=[(10,sp 0 17 (.op 17 (.op 18 (.op 19 .done))))]
def Dl (Q):∀k,Bk 60 Tryz.f244 (nf Q) 8 [(0,.l),(3,.v),(8,.i .i64),(9,.i .i64),(12,.i .i64)] (fJ Q k):=bL λk h=>aU (ok 60) mH [aO h]
def Dm (Q):∀k,Bk 60 Tryz.f244 (nf Q) 4 [(0,.l),(3,.v),(8,.i .i64),(9,.i .i64),(10,.i .i64),(11,.i .i64)] (fK Q k):=bL λk h=>aU (ok 60) mH [aO h,cq (Dl Q)]
def B6:=λa b c d e f w Q=>bB (l_ a b c d e f w Q) (NZ 2<|∃k',fK Q k' a b c f d 0 (IntKind.wrap .i64 (e-d)) (IntKind.wrap .i64 (Int.tdiv (IntKind.wrap .i64 ((IntKind.wrap .i64 (e-d))-1)) 2)) w) (ok 60) mH [cq (Dm Q)] Tryz.func244
def uL (Q:Int->WP)(a b:Int)(w:World):Prop:=aJ (IntKind.wrap .u8 a) (ByteArray.mk ((#[0,1,2,2,3,3,3,3,4,4,4,4,4,4,4,4,5,5,5,5,5,5,5,5,5,5,5,5,5,5,5,5,6,6,6,6,6,6,6,6,6,6,6,6,6,6,6,6,6,6,6,6,6,6,6,6,6,6,6,6,6,6,6,6]++#[7,7,7,7,7,7,7,7,7,7,7,7,7,7,7,7,7,7,7,7,7,7,7,7,7,7,7,7,7,7,7,7,7,7,7,7,7,7,7,7,7,7,7,7,7,7,7,7,7,7,7,7,7,7,7,7,7,7,7,7,7,7,7,7])++(#[8,8,8,8,8,8,8,8,8,8,8,8,8,8,8,8,8,8,8,8,8,8,8,8,8,8,8,8,8,8,8,8,8,8,8,8,8,8,8,8,8,8,8,8,8,8,8,8,8,8,8,8,8,8,8,8,8,8,8,8,8,8,8,8]++#[8,8,8,8,8,8,8,8,8,8,8,8,8,8,8,8,8,8,8,8,8,8,8,8,8,8,8,8,8,8,8,8,8,8,8,8,8,8,8,8,8,8,8,8,8,8,8,8,8,8,8,8,8,8,8,8,8,8,8,8,8,8,8,8]))).size<|Q (IntKind.wrap .i64 (b+(IntKind.wrap .i64 (sb (ByteArray.mk ((#[0,1,2,2,3,3,3,3,4,4,4,4,4,4,4,4,5,5,5,5,5,5,5,5,5,5,5,5,5,5,5,5,6,6,6,6,6,6,6,6,6,6,6,6,6,6,6,6,6,6,6,6,6,6,6,6,6,6,6,6,6,6,6,6]++#[7,7,7,7,7,7,7,7,7,7,7,7,7,7,7,7,7,7,7,7,7,7,7,7,7,7,7,7,7,7,7,7,7,7,7,7,7,7,7,7,7,7,7,7,7,7,7,7,7,7,7,7,7,7,7,7,7,7,7,7,7,7,7,7])++(#[8,8,8,8,8,8,8,8,8,8,8,8,8,8,8,8,8,8,8,8,8,8,8,8,8,8,8,8,8,8,8,8,8,8,8,8,8,8,8,8,8,8,8,8,8,8,8,8,8,8,8,8,8,8,8,8,8,8,8,8,8,8,8,8]++#[8,8,8,8,8,8,8,8,8,8,8,8,8,8,8,8,8,8,8,8,8,8,8,8,8,8,8,8,8,8,8,8,8,8,8,8,8,8,8,8,8,8,8,8,8,8,8,8,8,8,8,8,8,8,8,8,8,8,8,8,8,8,8,8]))) (((IntKind.wrap .u8 a)).toNat))))) w
def wc (Q:Int->WP)(a b:Int)(w:World):Prop:=cond (decide (a≥256)) (En 8<|uL Q (pE .u64 a 8) (IntKind.wrap .i64 (b+8)) w) (uL Q a b w)
def we (Q:Int->WP)(a b:Int)(w:World):Prop:=cond (decide (a≥65536)) (En 16<|wc Q (pE .u64 a 16) (IntKind.wrap .i64 (b+16)) w) (wc Q a b w)
def SL (Q):Bk 25 Tryz.f252 (v8 Q) 10 [(0,.i .u64),(2,.i .i64)] (uL Q):=aU (ok 25) [] []
def US (Q):Bk 25 Tryz.f252 (v8 Q) 7 [(0,.i .u64),(2,.i .i64)] (wc Q):=aU (ok 25) [] [aO (SL Q)]
def UT (Q):Bk 25 Tryz.f252 (v8 Q) 4 [(0,.i .u64),(2,.i .i64)] (we Q):=aU (ok 25) [] [aO (US Q)]
def QG:=λa w Q=>bB (FR a w Q) (cond (decide (a≥4294967296)) (En 32<|we Q (pE .u64 a 32) 32 w) (we Q a 0 w)) (ok 25) [] [aO (UT Q)] Tryz.func252
def UU:=λa w Q=>bB (v7 a w Q) (FR a w λb w=>Q b w) (ok 8) [] [] Tryz.func224
def Jp:=λa w Q=>bB (Ac a w Q) (v7 (IntKind.wrap .u64 a) w λb w=>En b<|Q (Ca .u64 1 b) w) (ok 7) [] [] Tryz.func266
noncomputable def KO:cz:=[(1,sp 0 9 (.op 9 .done)),(2,sp 0 9 (.op 9 .done)),(3,sp 0 9 (.op 9 .done))]
def J9:=λa w Q=>bB (tC a w Q) (wA a λb=>af .u64 b w.drew λc=>wA a λd=>af .u64 d w.drew λe=>En 13<|wA a λf=>St f (.int .u64 (ahD .u64 c (Ca .u64 e 13))) w.drew λw=>wA a λg=>af .u64 g w.drew λi=>wA a λj=>af .u64 j w.drew λl=>En 7<|wA a λm=>St m (.int .u64 (ahD .u64 i (pE .u64 l 7))) w.drew λw=>wA a λn=>af .u64 n w.drew λo=>wA a λp=>af .u64 p w.drew λq=>En 17<|wA a λr=>St r (.int .u64 (ahD .u64 o (Ca .u64 q 17))) w.drew λw=>wA a λs=>af .u64 s w λt=>Q t w) (ok 33) KO [] Tryz.func267
def fG (P5:L3 (Int->Int->Addr->Int->Int->WP))(Q:WP)(a:OA)(b c:Nat)(d e:Int)(f:Addr)(g i j:Int)(w:World):Prop:=aJ (IntKind.wrap .i64 (d+j)) b<|wA a λl=>af .i64 ((l.add (((IntKind.wrap .i64 (d+j))).toNat*3)).add 0) w.drew λm=>af .i64 ((l.add (((IntKind.wrap .i64 (d+j))).toNat*3)).add 1) w.drew λn=>af .i64 ((l.add (((IntKind.wrap .i64 (d+j))).toNat*3)).add 2) w.drew λo=>aJ i b<|wA a λp=>af .i64 ((p.add (i.toNat*3)).add 0) w.drew λq=>af .i64 ((p.add (i.toNat*3)).add 1) w.drew λr=>af .i64 ((p.add (i.toNat*3)).add 2) w.drew λs=>aJ i b<|wA a λt=>St ((t.add (i.toNat*3)).add 0) (ae m) w.drew λw=>St ((t.add (i.toNat*3)).add 1) (ae n) w λw=>St ((t.add (i.toNat*3)).add 2) (ae o) w λw=>aJ (IntKind.wrap .i64 (d+j)) b<|wA a λu=>St ((u.add (((IntKind.wrap .i64 (d+j))).toNat*3)).add 0) (ae q) w λw=>St ((u.add (((IntKind.wrap .i64 (d+j))).toNat*3)).add 1) (ae r) w λw=>St ((u.add (((IntKind.wrap .i64 (d+j))).toNat*3)).add 2) (ae s) w λw=>P5 a b c d e f g (IntKind.wrap .i64 (i+1)) w
def kO (Q:WP)(R5:L3 (Int->Int->Addr->Int->Int->WP))(a:OA)(b c:Nat)(d e:Int)(f:Addr)(g i:Int)(w:World):Prop:=NZ 4<|cond (decide (i<=(IntKind.wrap .i64 ((IntKind.wrap .i64 (d+(IntKind.wrap .i64 ((IntKind.wrap .i64 (Int.tdiv e 4))*2))))+1)))) (tC (some f) w λj w=>cond (decide ((IntKind.wrap .i64 (B_ .u64 j (IntKind.wrap .u64 (g-1))))≥e)) (fG R5 Q a b c d e f g i (IntKind.wrap .i64 ((IntKind.wrap .i64 (B_ .u64 j (IntKind.wrap .u64 (g-1))))-e)) w) (fG R5 Q a b c d e f g i (IntKind.wrap .i64 (B_ .u64 j (IntKind.wrap .u64 (g-1)))) w)) (Q w)
def dK (Q:WP):Nat->L3 (Int->Int->Addr->Int->Int->WP)
 |0,_,_,_,_,_,_,_,_,_=>False
 |k+1,a,b,c,d,e,f,g,i,w=>kO Q (dK Q k) a b c d e f g i w
noncomputable def kA:cz:=[(10,sp 0 17 (.op 17 (.op 18 (.op 19 .done))))]
def z7 {P5}(Q)(H5:Bk 67 Tryz.f245 (iA Q) 5 [(0,.l),(1,.i .i64),(8,.i .i64),(9,.a),(10,.i .u64),(11,.i .i64)] P5):Bk 67 Tryz.f245 (iA Q) 10 [(0,.l),(1,.i .i64),(8,.i .i64),(9,.a),(10,.i .u64),(11,.i .i64),(12,.i .i64)] (fG P5 Q):=aU (ok 67) kA [aO H5]
def AH (Q):∀k,Bk 67 Tryz.f245 (iA Q) 5 [(0,.l),(1,.i .i64),(8,.i .i64),(9,.a),(10,.i .u64),(11,.i .i64)] (dK Q k):=bL λk h=>aU (ok 67) kA [aO (z7 Q h)]
def zE:=λa b c d e f w Q=>bB (jT a b c d e f w Q) (cond (decide ((IntKind.wrap .i64 (e-d))≥8)) (Al T 390 w λg w=>St g (.int .u64 (IntKind.wrap .u64 (IntKind.wrap .i64 (e-d)))) w λw=>Ac (IntKind.wrap .i64 (e-d)) w λi w=>NZ 4<|∃k',dK Q k' a b c d (IntKind.wrap .i64 (e-d)) g i (IntKind.wrap .i64 ((IntKind.wrap .i64 (d+(IntKind.wrap .i64 ((IntKind.wrap .i64 (Int.tdiv (IntKind.wrap .i64 (e-d)) 4))*2))))-1)) w) (Q w)) (ok 67) kA [cq (AH Q)] Tryz.func245
noncomputable def D7:cz:=[(1,sp 0 9 (.op 9 (.op 10 .done)))]
def Dn:=λa b c d e f g w Q=>bB (gT a b c d e f g w Q) (aJ e b<|wA a λi=>af .i64 ((i.add (e.toNat*3)).add 0) w.drew λj=>af .i64 ((i.add (e.toNat*3)).add 1) w.drew λl=>af .i64 ((i.add (e.toNat*3)).add 2) w.drew λm=>aJ d b<|wA a λn=>af .i64 ((n.add (d.toNat*3)).add 0) w.drew λo=>af .i64 ((n.add (d.toNat*3)).add 1) w.drew λp=>af .i64 ((n.add (d.toNat*3)).add 2) w.drew λq=>iw (cx 32) g [.agg #[ae j,ae l,ae m],.agg #[ae o,ae p,ae q]] w.drew λr w=>dI .i64 r λs=>cond (decide (s<0)) (wA f λt=>af .i64 t w λu=>wA f λv=>St v (ae (IntKind.wrap .i64 (u+1))) w λw=>Q e d w) (Q d e w)) (ok 32) D7 [] Tryz.func278
def Dp:=λa b c d e f g i w Q=>bB (jC a b c d e f g i w Q) (gT a b c d e g i w λj l w=>gT a b c l f g i w λm n w=>gT a b c j m g i w λo p w=>Q p w) (ok 41) [] [] Tryz.func269
def yI:=λa b c d e f w Q=>bB (fo a b c d e f w Q) (jC a b c (IntKind.wrap .i64 (d-1)) d (IntKind.wrap .i64 (d+1)) e f w λg w=>Q g w) (ok 18) [] [] Tryz.func268
def iI (Q:Int->Int->WP)(a:Addr)(b:Int)(w:World):Prop:=af .i64 a w λc=>cond (c==0) (Q b 1 w) (cond (c==12) (Q b 2 w) (Q b 0 w))
def iJ (Q:Int->Int->WP)(a:OA)(b c:Nat)(d:Value)(e:Addr)(f g i:Int)(w:World):Prop:=jC a b c f g i (some e) d w λj w=>iI Q e j w
def qt (Q):Bk 63 Tryz.f246 (lH Q) 12 [(11,.a),(13,.i .i64)] (iI Q):=aU (ok 63) [] []
def Bb (Q):Bk 63 Tryz.f246 (lH Q) 11 [(0,.l),(3,.v),(11,.a),(12,.i .i64),(13,.i .i64),(14,.i .i64)] (iJ Q):=aU (ok 63) [] [aO (qt Q)]
def AI:=λa b c d e f w Q=>bB (kN a b c d e f w Q) (Al T 3 w λg w=>NZ 4<|NZ 4<|NZ 4<|cond (decide ((IntKind.wrap .i64 (e-d))≥8)) (cond (decide ((IntKind.wrap .i64 (e-d))≥50)) (fo a b c (IntKind.wrap .i64 (d+(IntKind.wrap .i64 ((IntKind.wrap .i64 (Int.tdiv (IntKind.wrap .i64 (e-d)) 4))*1)))) (some g) f w λi w=>fo a b c (IntKind.wrap .i64 (d+(IntKind.wrap .i64 ((IntKind.wrap .i64 (Int.tdiv (IntKind.wrap .i64 (e-d)) 4))*2)))) (some g) f w λj w=>fo a b c (IntKind.wrap .i64 (d+(IntKind.wrap .i64 ((IntKind.wrap .i64 (Int.tdiv (IntKind.wrap .i64 (e-d)) 4))*3)))) (some g) f w λl w=>iJ Q a b c f g i j l w) (iJ Q a b c f g (IntKind.wrap .i64 (d+(IntKind.wrap .i64 ((IntKind.wrap .i64 (Int.tdiv (IntKind.wrap .i64 (e-d)) 4))*1)))) (IntKind.wrap .i64 (d+(IntKind.wrap .i64 ((IntKind.wrap .i64 (Int.tdiv (IntKind.wrap .i64 (e-d)) 4))*2)))) (IntKind.wrap .i64 (d+(IntKind.wrap .i64 ((IntKind.wrap .i64 (Int.tdiv (IntKind.wrap .i64 (e-d)) 4))*3)))) w)) (iI Q g (IntKind.wrap .i64 (d+(IntKind.wrap .i64 ((IntKind.wrap .i64 (Int.tdiv (IntKind.wrap .i64 (e-d)) 4))*2)))) w)) (ok 63) [] [aO (Bb Q),aO (qt Q)] Tryz.func246
def fX (Q:WP)(R2:L3 (Int->Int->WP))(a:OA)(b c:Nat)(d e:Int)(w:World):Prop:=cond (decide (d<e)) (aJ e b<|wA a λf=>af .i64 ((f.add (e.toNat*3)).add 0) w.drew λg=>af .i64 ((f.add (e.toNat*3)).add 1) w.drew λi=>af .i64 ((f.add (e.toNat*3)).add 2) w.drew λj=>aJ d b<|wA a λl=>af .i64 ((l.add (d.toNat*3)).add 0) w.drew λm=>af .i64 ((l.add (d.toNat*3)).add 1) w.drew λn=>af .i64 ((l.add (d.toNat*3)).add 2) w.drew λo=>aJ d b<|wA a λp=>St ((p.add (d.toNat*3)).add 0) (ae g) w.drew λw=>St ((p.add (d.toNat*3)).add 1) (ae i) w λw=>St ((p.add (d.toNat*3)).add 2) (ae j) w λw=>aJ e b<|wA a λq=>St ((q.add (e.toNat*3)).add 0) (ae m) w λw=>St ((q.add (e.toNat*3)).add 1) (ae n) w λw=>St ((q.add (e.toNat*3)).add 2) (ae o) w λw=>R2 a b c (IntKind.wrap .i64 (d+1)) (IntKind.wrap .i64 (e-1)) w) (Q w)
def e7 (Q:WP):Nat->L3 (Int->Int->WP)
 |0,_,_,_,_,_,_=>False
 |k+1,a,b,c,d,e,w=>fX Q (e7 Q k) a b c d e w
noncomputable def pS:cz:=[(3,sp 0 13 (.op 13 (.op 14 (.op 15 .done))))]
def Bc (Q):∀k,Bk 34 Tryz.f247 (qo Q) 2 [(0,.l),(8,.i .i64),(9,.i .i64)] (e7 Q k):=bL λk h=>aU (ok 34) pS [aO h]
def z8:=λa b c d e f w Q=>bB (ku a b c d e f w Q) (∃k',e7 Q k' a b c d (IntKind.wrap .i64 (e-1)) w) (ok 34) pS [cq (Bc Q)] Tryz.func247
def eF (P3:L3 (Int->Int->Value->Int->Int->WP))(Q:Bool->WP)(R20:L3 (Int->Int->Value->Int->Int->Int->WP))(a:OA)(b c:Nat)(d e:Int)(f:Value)(g i j:Int)(w:World):Prop:=cond (decide (j<e)) (aJ j b<|wA a λl=>af .i64 ((l.add (j.toNat*3)).add 0) w.drew λm=>af .i64 ((l.add (j.toNat*3)).add 1) w.drew λn=>af .i64 ((l.add (j.toNat*3)).add 2) w.drew λo=>aJ (IntKind.wrap .i64 (j-1)) b<|wA a λp=>af .i64 ((p.add (((IntKind.wrap .i64 (j-1))).toNat*3)).add 0) w.drew λq=>af .i64 ((p.add (((IntKind.wrap .i64 (j-1))).toNat*3)).add 1) w.drew λr=>af .i64 ((p.add (((IntKind.wrap .i64 (j-1))).toNat*3)).add 2) w.drew λs=>iw (cx 141) f [.agg #[ae m,ae n,ae o],.agg #[ae q,ae r,ae s]] w.drew λt w=>dI .i64 t λu=>cond (!(decide (u<0))) (P3 a b c d e f g (IntKind.wrap .i64 (i+1)) w) (aJ (IntKind.wrap .i64 (j-1)) b<|wA a λv=>af .i64 ((v.add (((IntKind.wrap .i64 (j-1))).toNat*3)).add 0) w.drew λx=>af .i64 ((v.add (((IntKind.wrap .i64 (j-1))).toNat*3)).add 1) w.drew λy=>af .i64 ((v.add (((IntKind.wrap .i64 (j-1))).toNat*3)).add 2) w.drew λz=>aJ j b<|wA a λa1=>af .i64 ((a1.add (j.toNat*3)).add 0) w.drew λb1=>af .i64 ((a1.add (j.toNat*3)).add 1) w.drew λc1=>af .i64 ((a1.add (j.toNat*3)).add 2) w.drew λd1=>aJ j b<|wA a λe1=>St ((e1.add (j.toNat*3)).add 0) (ae x) w.drew λw=>St ((e1.add (j.toNat*3)).add 1) (ae y) w λw=>St ((e1.add (j.toNat*3)).add 2) (ae z) w λw=>aJ (IntKind.wrap .i64 (j-1)) b<|wA a λf1=>St ((f1.add (((IntKind.wrap .i64 (j-1))).toNat*3)).add 0) (ae b1) w λw=>St ((f1.add (((IntKind.wrap .i64 (j-1))).toNat*3)).add 1) (ae c1) w λw=>St ((f1.add (((IntKind.wrap .i64 (j-1))).toNat*3)).add 2) (ae d1) w λw=>R20 a b c d e f g i (IntKind.wrap .i64 (j+1)) w)) (P3 a b c d e f g (IntKind.wrap .i64 (i+1)) w)
def c7 (P3:L3 (Int->Int->Value->Int->Int->WP))(Q:Bool->WP):Nat->L3 (Int->Int->Value->Int->Int->Int->WP)
 |0,_,_,_,_,_,_,_,_,_,_=>False
 |k+1,a,b,c,d,e,f,g,i,j,w=>eF P3 Q (c7 P3 Q k) a b c d e f g i j w
def c8 (P3:L3 (Int->Int->Value->Int->Int->WP))(Q:Bool->WP)(a:OA)(b c:Nat)(d e:Int)(f:Value)(g i:Int)(w:World):Prop:=cond (decide ((IntKind.wrap .i64 (e-g))≥2)) (∃k',c7 P3 Q k' a b c d e f g i (IntKind.wrap .i64 (g+1)) w) (P3 a b c d e f g (IntKind.wrap .i64 (i+1)) w)
def eG (P3:L3 (Int->Int->Value->Int->Int->WP))(Q:Bool->WP)(Y5:L3 (Int->Int->Value->Int->Int->Int->WP))(a:OA)(b c:Nat)(d e:Int)(f:Value)(g i j:Int)(w:World):Prop:=cond (decide (j≥1)) (aJ j b<|wA a λl=>af .i64 ((l.add (j.toNat*3)).add 0) w.drew λm=>af .i64 ((l.add (j.toNat*3)).add 1) w.drew λn=>af .i64 ((l.add (j.toNat*3)).add 2) w.drew λo=>aJ (IntKind.wrap .i64 (j-1)) b<|wA a λp=>af .i64 ((p.add (((IntKind.wrap .i64 (j-1))).toNat*3)).add 0) w.drew λq=>af .i64 ((p.add (((IntKind.wrap .i64 (j-1))).toNat*3)).add 1) w.drew λr=>af .i64 ((p.add (((IntKind.wrap .i64 (j-1))).toNat*3)).add 2) w.drew λs=>iw (cx 141) f [.agg #[ae m,ae n,ae o],.agg #[ae q,ae r,ae s]] w.drew λt w=>dI .i64 t λu=>cond (!(decide (u<0))) (c8 P3 Q a b c d e f g i w) (aJ (IntKind.wrap .i64 (j-1)) b<|wA a λv=>af .i64 ((v.add (((IntKind.wrap .i64 (j-1))).toNat*3)).add 0) w.drew λx=>af .i64 ((v.add (((IntKind.wrap .i64 (j-1))).toNat*3)).add 1) w.drew λy=>af .i64 ((v.add (((IntKind.wrap .i64 (j-1))).toNat*3)).add 2) w.drew λz=>aJ j b<|wA a λa1=>af .i64 ((a1.add (j.toNat*3)).add 0) w.drew λb1=>af .i64 ((a1.add (j.toNat*3)).add 1) w.drew λc1=>af .i64 ((a1.add (j.toNat*3)).add 2) w.drew λd1=>aJ j b<|wA a λe1=>St ((e1.add (j.toNat*3)).add 0) (ae x) w.drew λw=>St ((e1.add (j.toNat*3)).add 1) (ae y) w λw=>St ((e1.add (j.toNat*3)).add 2) (ae z) w λw=>aJ (IntKind.wrap .i64 (j-1)) b<|wA a λf1=>St ((f1.add (((IntKind.wrap .i64 (j-1))).toNat*3)).add 0) (ae b1) w λw=>St ((f1.add (((IntKind.wrap .i64 (j-1))).toNat*3)).add 1) (ae c1) w λw=>St ((f1.add (((IntKind.wrap .i64 (j-1))).toNat*3)).add 2) (ae d1) w λw=>Y5 a b c d e f g i (IntKind.wrap .i64 (j-1)) w)) (c8 P3 Q a b c d e f g i w)
def c9 (P3:L3 (Int->Int->Value->Int->Int->WP))(Q:Bool->WP):Nat->L3 (Int->Int->Value->Int->Int->Int->WP)
 |0,_,_,_,_,_,_,_,_,_,_=>False
 |k+1,a,b,c,d,e,f,g,i,j,w=>eG P3 Q (c9 P3 Q k) a b c d e f g i j w
def eN (P3:L3 (Int->Int->Value->Int->Int->WP))(Q:Bool->WP)(a:OA)(b c:Nat)(d e:Int)(f:Value)(g i:Int)(w:World):Prop:=cond (g==e) (Q true w) (cond (decide ((IntKind.wrap .i64 (e-d))<50)) (Q false w) (aJ (IntKind.wrap .i64 (g-1)) b<|wA a λj=>af .i64 ((j.add (((IntKind.wrap .i64 (g-1))).toNat*3)).add 0) w.drew λl=>af .i64 ((j.add (((IntKind.wrap .i64 (g-1))).toNat*3)).add 1) w.drew λm=>af .i64 ((j.add (((IntKind.wrap .i64 (g-1))).toNat*3)).add 2) w.drew λn=>aJ g b<|wA a λo=>af .i64 ((o.add (g.toNat*3)).add 0) w.drew λp=>af .i64 ((o.add (g.toNat*3)).add 1) w.drew λq=>af .i64 ((o.add (g.toNat*3)).add 2) w.drew λr=>aJ g b<|wA a λs=>St ((s.add (g.toNat*3)).add 0) (ae l) w.drew λw=>St ((s.add (g.toNat*3)).add 1) (ae m) w λw=>St ((s.add (g.toNat*3)).add 2) (ae n) w λw=>aJ (IntKind.wrap .i64 (g-1)) b<|wA a λt=>St ((t.add (((IntKind.wrap .i64 (g-1))).toNat*3)).add 0) (ae p) w λw=>St ((t.add (((IntKind.wrap .i64 (g-1))).toNat*3)).add 1) (ae q) w λw=>St ((t.add (((IntKind.wrap .i64 (g-1))).toNat*3)).add 2) (ae r) w λw=>cond (decide ((IntKind.wrap .i64 (g-d))≥2)) (∃k',c9 P3 Q k' a b c d e f g i (IntKind.wrap .i64 (g-1)) w) (c8 P3 Q a b c d e f g i w)))
def eO (P3:L3 (Int->Int->Value->Int->Int->WP))(Q:Bool->WP)(R5:L3 (Int->Int->Value->Int->Int->WP))(a:OA)(b c:Nat)(d e:Int)(f:Value)(g i:Int)(w:World):Prop:=cond (decide (g<e)) (aJ g b<|wA a λj=>af .i64 ((j.add (g.toNat*3)).add 0) w.drew λl=>af .i64 ((j.add (g.toNat*3)).add 1) w.drew λm=>af .i64 ((j.add (g.toNat*3)).add 2) w.drew λn=>aJ (IntKind.wrap .i64 (g-1)) b<|wA a λo=>af .i64 ((o.add (((IntKind.wrap .i64 (g-1))).toNat*3)).add 0) w.drew λp=>af .i64 ((o.add (((IntKind.wrap .i64 (g-1))).toNat*3)).add 1) w.drew λq=>af .i64 ((o.add (((IntKind.wrap .i64 (g-1))).toNat*3)).add 2) w.drew λr=>iw (cx 141) f [.agg #[ae l,ae m,ae n],.agg #[ae p,ae q,ae r]] w.drew λs w=>dI .i64 s λt=>cond (!(decide (t<0))) (R5 a b c d e f (IntKind.wrap .i64 (g+1)) i w) (eN P3 Q a b c d e f g i w)) (eN P3 Q a b c d e f g i w.drew)
def dx (P3:L3 (Int->Int->Value->Int->Int->WP))(Q:Bool->WP):Nat->L3 (Int->Int->Value->Int->Int->WP)
 |0,_,_,_,_,_,_,_,_,_=>False
 |k+1,a,b,c,d,e,f,g,i,w=>eO P3 Q (dx P3 Q k) a b c d e f g i w
def eS (Q:Bool->WP)(R3:L3 (Int->Int->Value->Int->Int->WP))(a:OA)(b c:Nat)(d e:Int)(f:Value)(g i:Int)(w:World):Prop:=cond (decide (i<5)) (∃k',dx R3 Q k' a b c d e f g i w) (Q false w)
def bu (Q:Bool->WP):Nat->L3 (Int->Int->Value->Int->Int->WP)
 |0,_,_,_,_,_,_,_,_,_=>False
 |k+1,a,b,c,d,e,f,g,i,w=>eS Q (bu Q k) a b c d e f g i w
noncomputable def cG:cz:=[(5,sp 0 14 (.op 14 (sp 15 3 .done))),(11,sp 0 15 (.op 15 (.op 16 (.op 17 .done)))),(16,sp 0 10 (.op 10 (sp 11 2 .done))),(17,sp 0 15 (.op 15 (.op 16 (.op 17 .done)))),(22,sp 0 10 (.op 10 (sp 11 2 .done))),(23,sp 0 15 (.op 15 (.op 16 (.op 17 .done))))]
def vD {P3}(Q)(H3:Bk 141 Tryz.f248 (bt Q) 3 [(0,.l),(1,.i .i64),(2,.i .i64),(3,.v),(9,.i .i64),(10,.i .i64)] P3):∀k,Bk 141 Tryz.f248 (bt Q) 20 [(0,.l),(1,.i .i64),(2,.i .i64),(3,.v),(9,.i .i64),(10,.i .i64),(12,.i .i64)] (c7 P3 Q k):=bL λk h=>aU (ok 141) cG [aO H3,aO h]
def mI {P3}(Q)(H3:Bk 141 Tryz.f248 (bt Q) 3 [(0,.l),(1,.i .i64),(2,.i .i64),(3,.v),(9,.i .i64),(10,.i .i64)] P3):Bk 141 Tryz.f248 (bt Q) 18 [(0,.l),(1,.i .i64),(2,.i .i64),(3,.v),(9,.i .i64),(10,.i .i64)] (c8 P3 Q):=aU (ok 141) cG [aO H3,cq (vD Q H3)]
def vF {P3}(Q)(H3:Bk 141 Tryz.f248 (bt Q) 3 [(0,.l),(1,.i .i64),(2,.i .i64),(3,.v),(9,.i .i64),(10,.i .i64)] P3):∀k,Bk 141 Tryz.f248 (bt Q) 14 [(0,.l),(1,.i .i64),(2,.i .i64),(3,.v),(9,.i .i64),(10,.i .i64),(11,.i .i64)] (c9 P3 Q k):=bL λk h=>aU (ok 141) cG [aO h,aO (mI Q H3)]
def wu {P3}(Q)(H3:Bk 141 Tryz.f248 (bt Q) 3 [(0,.l),(1,.i .i64),(2,.i .i64),(3,.v),(9,.i .i64),(10,.i .i64)] P3):Bk 141 Tryz.f248 (bt Q) 7 [(0,.l),(1,.i .i64),(2,.i .i64),(3,.v),(9,.i .i64),(10,.i .i64)] (eN P3 Q):=aU (ok 141) cG [cq (vF Q H3),aO (mI Q H3)]
def wv {P3}(Q)(H3:Bk 141 Tryz.f248 (bt Q) 3 [(0,.l),(1,.i .i64),(2,.i .i64),(3,.v),(9,.i .i64),(10,.i .i64)] P3):∀k,Bk 141 Tryz.f248 (bt Q) 5 [(0,.l),(1,.i .i64),(2,.i .i64),(3,.v),(9,.i .i64),(10,.i .i64)] (dx P3 Q k):=bL λk h=>aU (ok 141) cG [aO h,aO (wu Q H3)]
def wB (Q):∀k,Bk 141 Tryz.f248 (bt Q) 3 [(0,.l),(1,.i .i64),(2,.i .i64),(3,.v),(9,.i .i64),(10,.i .i64)] (bu Q k):=bL λk h=>aU (ok 141) cG [cq (wv Q h)]
def vg:=λa b c d e f w Q=>bB (iG a b c d e f w Q) (∃k',bu Q k' a b c d e f (IntKind.wrap .i64 (d+1)) 0 w) (ok 141) cG [cq (wB Q)] Tryz.func248
def eJ (P3:L3 (Int->Value->Int->Int->WP))(Q:Int->WP)(a:OA)(b c:Nat)(d:Int)(e:Value)(f g:Int)(w:World):Prop:=cond (decide (f>g)) (Q f w) (aJ g b<|wA a λi=>af .i64 ((i.add (g.toNat*3)).add 0) w.drew λj=>af .i64 ((i.add (g.toNat*3)).add 1) w.drew λl=>af .i64 ((i.add (g.toNat*3)).add 2) w.drew λm=>aJ f b<|wA a λn=>af .i64 ((n.add (f.toNat*3)).add 0) w.drew λo=>af .i64 ((n.add (f.toNat*3)).add 1) w.drew λp=>af .i64 ((n.add (f.toNat*3)).add 2) w.drew λq=>aJ f b<|wA a λr=>St ((r.add (f.toNat*3)).add 0) (ae j) w.drew λw=>St ((r.add (f.toNat*3)).add 1) (ae l) w λw=>St ((r.add (f.toNat*3)).add 2) (ae m) w λw=>aJ g b<|wA a λs=>St ((s.add (g.toNat*3)).add 0) (ae o) w λw=>St ((s.add (g.toNat*3)).add 1) (ae p) w λw=>St ((s.add (g.toNat*3)).add 2) (ae q) w λw=>P3 a b c d e (IntKind.wrap .i64 (f+1)) (IntKind.wrap .i64 (g-1)) w)
def dA (P3:L3 (Int->Value->Int->Int->WP))(Q:Int->WP)(R5:L3 (Int->Value->Int->Int->WP))(a:OA)(b c:Nat)(d:Int)(e:Value)(f g:Int)(w:World):Prop:=cond (decide (f<=g)) (aJ d b<|wA a λi=>af .i64 ((i.add (d.toNat*3)).add 0) w.drew λj=>af .i64 ((i.add (d.toNat*3)).add 1) w.drew λl=>af .i64 ((i.add (d.toNat*3)).add 2) w.drew λm=>aJ g b<|wA a λn=>af .i64 ((n.add (g.toNat*3)).add 0) w.drew λo=>af .i64 ((n.add (g.toNat*3)).add 1) w.drew λp=>af .i64 ((n.add (g.toNat*3)).add 2) w.drew λq=>iw (cx 90) e [.agg #[ae j,ae l,ae m],.agg #[ae o,ae p,ae q]] w.drew λr w=>dI .i64 r λs=>cond (decide (s<0)) (R5 a b c d e f (IntKind.wrap .i64 (g-1)) w) (eJ P3 Q a b c d e f g w)) (eJ P3 Q a b c d e f g w.drew)
def cP (P3:L3 (Int->Value->Int->Int->WP))(Q:Int->WP):Nat->L3 (Int->Value->Int->Int->WP)
 |0,_,_,_,_,_,_,_,_=>False
 |k+1,a,b,c,d,e,f,g,w=>dA P3 Q (cP P3 Q k) a b c d e f g w
def fH (Q:Int->WP)(R3:L3 (Int->Value->Int->Int->WP))(a:OA)(b c:Nat)(d:Int)(e:Value)(f g:Int)(w:World):Prop:=cond (decide (f<=g)) (aJ d b<|wA a λi=>af .i64 ((i.add (d.toNat*3)).add 0) w.drew λj=>af .i64 ((i.add (d.toNat*3)).add 1) w.drew λl=>af .i64 ((i.add (d.toNat*3)).add 2) w.drew λm=>aJ f b<|wA a λn=>af .i64 ((n.add (f.toNat*3)).add 0) w.drew λo=>af .i64 ((n.add (f.toNat*3)).add 1) w.drew λp=>af .i64 ((n.add (f.toNat*3)).add 2) w.drew λq=>iw (cx 90) e [.agg #[ae j,ae l,ae m],.agg #[ae o,ae p,ae q]] w.drew λr w=>dI .i64 r λs=>cond (!(decide (s<0))) (R3 a b c d e (IntKind.wrap .i64 (f+1)) g w) (∃k',cP R3 Q k' a b c d e f g w)) (∃k',cP R3 Q k' a b c d e f g w.drew)
def cQ (Q:Int->WP):Nat->L3 (Int->Value->Int->Int->WP)
 |0,_,_,_,_,_,_,_,_=>False
 |k+1,a,b,c,d,e,f,g,w=>fH Q (cQ Q k) a b c d e f g w
noncomputable def gX:cz:=[(1,sp 0 13 (.op 13 (.op 14 (.op 15 .done)))),(3,sp 0 13 (.op 13 (sp 14 3 .done))),(5,sp 0 13 (.op 13 (sp 14 2 .done))),(8,sp 0 13 (.op 13 (.op 14 (.op 15 .done))))]
def z9 {P3}(Q)(H3:Bk 90 Tryz.f249 (eI Q) 3 [(0,.l),(1,.i .i64),(4,.v),(11,.i .i64),(12,.i .i64)] P3):Bk 90 Tryz.f249 (eI Q) 7 [(0,.l),(1,.i .i64),(4,.v),(11,.i .i64),(12,.i .i64)] (eJ P3 Q):=aU (ok 90) gX [aO H3]
def z_ {P3}(Q)(H3:Bk 90 Tryz.f249 (eI Q) 3 [(0,.l),(1,.i .i64),(4,.v),(11,.i .i64),(12,.i .i64)] P3):∀k,Bk 90 Tryz.f249 (eI Q) 5 [(0,.l),(1,.i .i64),(4,.v),(11,.i .i64),(12,.i .i64)] (cP P3 Q k):=bL λk h=>aU (ok 90) gX [aO h,aO (z9 Q H3)]
def Aa (Q):∀k,Bk 90 Tryz.f249 (eI Q) 3 [(0,.l),(1,.i .i64),(4,.v),(11,.i .i64),(12,.i .i64)] (cQ Q k):=bL λk h=>aU (ok 90) gX [aO h,cq (z_ Q h)]
def yJ:=λa b c d e f g w Q=>bB (jK a b c d e f g w Q) (aJ f b<|wA a λi=>af .i64 ((i.add (f.toNat*3)).add 0) w.drew λj=>af .i64 ((i.add (f.toNat*3)).add 1) w.drew λl=>af .i64 ((i.add (f.toNat*3)).add 2) w.drew λm=>aJ d b<|wA a λn=>af .i64 ((n.add (d.toNat*3)).add 0) w.drew λo=>af .i64 ((n.add (d.toNat*3)).add 1) w.drew λp=>af .i64 ((n.add (d.toNat*3)).add 2) w.drew λq=>aJ d b<|wA a λr=>St ((r.add (d.toNat*3)).add 0) (ae j) w.drew λw=>St ((r.add (d.toNat*3)).add 1) (ae l) w λw=>St ((r.add (d.toNat*3)).add 2) (ae m) w λw=>aJ f b<|wA a λs=>St ((s.add (f.toNat*3)).add 0) (ae o) w λw=>St ((s.add (f.toNat*3)).add 1) (ae p) w λw=>St ((s.add (f.toNat*3)).add 2) (ae q) w λw=>∃k',cQ Q k' a b c d g (IntKind.wrap .i64 (d+1)) (IntKind.wrap .i64 (e-1)) w) (ok 90) gX [cq (Aa Q)] Tryz.func249
def fk (tP:L3 (Int->Value->Int->Int->WP))(Q:Int->Bool->WP)(a:OA)(b c:Nat)(d:Int)(e:Value)(f g:Int)(w:World):Prop:=cond (decide (f>g)) (aJ d b<|wA a λi=>af .i64 ((i.add (d.toNat*3)).add 0) w.drew λj=>af .i64 ((i.add (d.toNat*3)).add 1) w.drew λl=>af .i64 ((i.add (d.toNat*3)).add 2) w.drew λm=>aJ g b<|wA a λn=>af .i64 ((n.add (g.toNat*3)).add 0) w.drew λo=>af .i64 ((n.add (g.toNat*3)).add 1) w.drew λp=>af .i64 ((n.add (g.toNat*3)).add 2) w.drew λq=>aJ g b<|wA a λr=>St ((r.add (g.toNat*3)).add 0) (ae j) w.drew λw=>St ((r.add (g.toNat*3)).add 1) (ae l) w λw=>St ((r.add (g.toNat*3)).add 2) (ae m) w λw=>aJ d b<|wA a λs=>St ((s.add (d.toNat*3)).add 0) (ae o) w λw=>St ((s.add (d.toNat*3)).add 1) (ae p) w λw=>St ((s.add (d.toNat*3)).add 2) (ae q) w λw=>Q g false w) (aJ g b<|wA a λt=>af .i64 ((t.add (g.toNat*3)).add 0) w.drew λu=>af .i64 ((t.add (g.toNat*3)).add 1) w.drew λv=>af .i64 ((t.add (g.toNat*3)).add 2) w.drew λx=>aJ f b<|wA a λy=>af .i64 ((y.add (f.toNat*3)).add 0) w.drew λz=>af .i64 ((y.add (f.toNat*3)).add 1) w.drew λa1=>af .i64 ((y.add (f.toNat*3)).add 2) w.drew λb1=>aJ f b<|wA a λc1=>St ((c1.add (f.toNat*3)).add 0) (ae u) w.drew λw=>St ((c1.add (f.toNat*3)).add 1) (ae v) w λw=>St ((c1.add (f.toNat*3)).add 2) (ae x) w λw=>aJ g b<|wA a λd1=>St ((d1.add (g.toNat*3)).add 0) (ae z) w λw=>St ((d1.add (g.toNat*3)).add 1) (ae a1) w λw=>St ((d1.add (g.toNat*3)).add 2) (ae b1) w λw=>tP a b c d e (IntKind.wrap .i64 (f+1)) (IntKind.wrap .i64 (g-1)) w)
def eB (tP:L3 (Int->Value->Int->Int->WP))(Q:Int->Bool->WP)(R15:L3 (Int->Value->Int->Int->WP))(a:OA)(b c:Nat)(d:Int)(e:Value)(f g:Int)(w:World):Prop:=cond (decide (f<=g)) (aJ g b<|wA a λi=>af .i64 ((i.add (g.toNat*3)).add 0) w.drew λj=>af .i64 ((i.add (g.toNat*3)).add 1) w.drew λl=>af .i64 ((i.add (g.toNat*3)).add 2) w.drew λm=>aJ d b<|wA a λn=>af .i64 ((n.add (d.toNat*3)).add 0) w.drew λo=>af .i64 ((n.add (d.toNat*3)).add 1) w.drew λp=>af .i64 ((n.add (d.toNat*3)).add 2) w.drew λq=>iw (cx 178) e [.agg #[ae j,ae l,ae m],.agg #[ae o,ae p,ae q]] w.drew λr w=>dI .i64 r λs=>cond (!(decide (s<0))) (R15 a b c d e f (IntKind.wrap .i64 (g-1)) w) (fk tP Q a b c d e f g w)) (fk tP Q a b c d e f g w.drew)
def dh (tP:L3 (Int->Value->Int->Int->WP))(Q:Int->Bool->WP):Nat->L3 (Int->Value->Int->Int->WP)
 |0,_,_,_,_,_,_,_,_=>False
 |k+1,a,b,c,d,e,f,g,w=>eB tP Q (dh tP Q k) a b c d e f g w
def gA (Q:Int->Bool->WP)(R13:L3 (Int->Value->Int->Int->WP))(a:OA)(b c:Nat)(d:Int)(e:Value)(f g:Int)(w:World):Prop:=cond (decide (f<=g)) (aJ f b<|wA a λi=>af .i64 ((i.add (f.toNat*3)).add 0) w.drew λj=>af .i64 ((i.add (f.toNat*3)).add 1) w.drew λl=>af .i64 ((i.add (f.toNat*3)).add 2) w.drew λm=>aJ d b<|wA a λn=>af .i64 ((n.add (d.toNat*3)).add 0) w.drew λo=>af .i64 ((n.add (d.toNat*3)).add 1) w.drew λp=>af .i64 ((n.add (d.toNat*3)).add 2) w.drew λq=>iw (cx 178) e [.agg #[ae j,ae l,ae m],.agg #[ae o,ae p,ae q]] w.drew λr w=>dI .i64 r λs=>cond (decide (s<0)) (R13 a b c d e (IntKind.wrap .i64 (f+1)) g w) (∃k',dh R13 Q k' a b c d e f g w)) (∃k',dh R13 Q k' a b c d e f g w.drew)
def dw (Q:Int->Bool->WP):Nat->L3 (Int->Value->Int->Int->WP)
 |0,_,_,_,_,_,_,_,_=>False
 |k+1,a,b,c,d,e,f,g,w=>gA Q (dw Q k) a b c d e f g w
def gI (Q:Int->Bool->WP)(a:OA)(b c:Nat)(d:Int)(e:Value)(f g:Int)(w:World):Prop:=cond (decide (f>g)) (aJ d b<|wA a λi=>af .i64 ((i.add (d.toNat*3)).add 0) w.drew λj=>af .i64 ((i.add (d.toNat*3)).add 1) w.drew λl=>af .i64 ((i.add (d.toNat*3)).add 2) w.drew λm=>aJ g b<|wA a λn=>af .i64 ((n.add (g.toNat*3)).add 0) w.drew λo=>af .i64 ((n.add (g.toNat*3)).add 1) w.drew λp=>af .i64 ((n.add (g.toNat*3)).add 2) w.drew λq=>aJ g b<|wA a λr=>St ((r.add (g.toNat*3)).add 0) (ae j) w.drew λw=>St ((r.add (g.toNat*3)).add 1) (ae l) w λw=>St ((r.add (g.toNat*3)).add 2) (ae m) w λw=>aJ d b<|wA a λs=>St ((s.add (d.toNat*3)).add 0) (ae o) w λw=>St ((s.add (d.toNat*3)).add 1) (ae p) w λw=>St ((s.add (d.toNat*3)).add 2) (ae q) w λw=>Q g true w) (aJ g b<|wA a λt=>af .i64 ((t.add (g.toNat*3)).add 0) w.drew λu=>af .i64 ((t.add (g.toNat*3)).add 1) w.drew λv=>af .i64 ((t.add (g.toNat*3)).add 2) w.drew λx=>aJ f b<|wA a λy=>af .i64 ((y.add (f.toNat*3)).add 0) w.drew λz=>af .i64 ((y.add (f.toNat*3)).add 1) w.drew λa1=>af .i64 ((y.add (f.toNat*3)).add 2) w.drew λb1=>aJ f b<|wA a λc1=>St ((c1.add (f.toNat*3)).add 0) (ae u) w.drew λw=>St ((c1.add (f.toNat*3)).add 1) (ae v) w λw=>St ((c1.add (f.toNat*3)).add 2) (ae x) w λw=>aJ g b<|wA a λd1=>St ((d1.add (g.toNat*3)).add 0) (ae z) w λw=>St ((d1.add (g.toNat*3)).add 1) (ae a1) w λw=>St ((d1.add (g.toNat*3)).add 2) (ae b1) w λw=>∃k',dw Q k' a b c d e (IntKind.wrap .i64 (f+1)) (IntKind.wrap .i64 (g-1)) w)
def gJ (Q:Int->Bool->WP)(R5:L3 (Int->Value->Int->Int->WP))(a:OA)(b c:Nat)(d:Int)(e:Value)(f g:Int)(w:World):Prop:=cond (decide (f<=g)) (aJ g b<|wA a λi=>af .i64 ((i.add (g.toNat*3)).add 0) w.drew λj=>af .i64 ((i.add (g.toNat*3)).add 1) w.drew λl=>af .i64 ((i.add (g.toNat*3)).add 2) w.drew λm=>aJ d b<|wA a λn=>af .i64 ((n.add (d.toNat*3)).add 0) w.drew λo=>af .i64 ((n.add (d.toNat*3)).add 1) w.drew λp=>af .i64 ((n.add (d.toNat*3)).add 2) w.drew λq=>iw (cx 178) e [.agg #[ae j,ae l,ae m],.agg #[ae o,ae p,ae q]] w.drew λr w=>dI .i64 r λs=>cond (!(decide (s<0))) (R5 a b c d e f (IntKind.wrap .i64 (g-1)) w) (gI Q a b c d e f g w)) (gI Q a b c d e f g w.drew)
def dH (Q:Int->Bool->WP):Nat->L3 (Int->Value->Int->Int->WP)
 |0,_,_,_,_,_,_,_,_=>False
 |k+1,a,b,c,d,e,f,g,w=>gJ Q (dH Q k) a b c d e f g w
def gK (Q:Int->Bool->WP)(R3:L3 (Int->Value->Int->Int->WP))(a:OA)(b c:Nat)(d:Int)(e:Value)(f g:Int)(w:World):Prop:=cond (decide (f<=g)) (aJ f b<|wA a λi=>af .i64 ((i.add (f.toNat*3)).add 0) w.drew λj=>af .i64 ((i.add (f.toNat*3)).add 1) w.drew λl=>af .i64 ((i.add (f.toNat*3)).add 2) w.drew λm=>aJ d b<|wA a λn=>af .i64 ((n.add (d.toNat*3)).add 0) w.drew λo=>af .i64 ((n.add (d.toNat*3)).add 1) w.drew λp=>af .i64 ((n.add (d.toNat*3)).add 2) w.drew λq=>iw (cx 178) e [.agg #[ae j,ae l,ae m],.agg #[ae o,ae p,ae q]] w.drew λr w=>dI .i64 r λs=>cond (decide (s<0)) (R3 a b c d e (IntKind.wrap .i64 (f+1)) g w) (∃k',dH Q k' a b c d e f g w)) (∃k',dH Q k' a b c d e f g w.drew)
def fu (Q:Int->Bool->WP):Nat->L3 (Int->Value->Int->Int->WP)
 |0,_,_,_,_,_,_,_,_=>False
 |k+1,a,b,c,d,e,f,g,w=>gK Q (fu Q k) a b c d e f g w
noncomputable def eC:cz:=[(1,sp 0 13 (.op 13 (.op 14 (.op 15 .done)))),(3,sp 0 13 (.op 13 (sp 14 2 .done))),(5,sp 0 13 (.op 13 (sp 14 3 .done))),(8,sp 0 13 (.op 13 (.op 14 (.op 15 .done)))),(10,sp 0 13 (.op 13 (.op 14 (.op 15 .done)))),(13,sp 0 13 (.op 13 (sp 14 2 .done))),(15,sp 0 13 (.op 13 (sp 14 3 .done))),(18,sp 0 13 (.op 13 (.op 14 (.op 15 .done)))),(21,sp 0 13 (.op 13 (.op 14 (.op 15 .done))))]
def B7 {tP}(Q)(H13:Bk 178 Tryz.f250 (cU Q) 13 [(0,.l),(1,.i .i64),(4,.v),(12,.i .i64),(13,.i .i64)] tP):Bk 178 Tryz.f250 (cU Q) 17 [(0,.l),(1,.i .i64),(4,.v),(12,.i .i64),(13,.i .i64)] (fk tP Q):=aU (ok 178) eC [aO H13]
def B8 {tP}(Q)(H13:Bk 178 Tryz.f250 (cU Q) 13 [(0,.l),(1,.i .i64),(4,.v),(12,.i .i64),(13,.i .i64)] tP):∀k,Bk 178 Tryz.f250 (cU Q) 15 [(0,.l),(1,.i .i64),(4,.v),(12,.i .i64),(13,.i .i64)] (dh tP Q k):=bL λk h=>aU (ok 178) eC [aO h,aO (B7 Q H13)]
def B9 (Q):∀k,Bk 178 Tryz.f250 (cU Q) 13 [(0,.l),(1,.i .i64),(4,.v),(12,.i .i64),(13,.i .i64)] (dw Q k):=bL λk h=>aU (ok 178) eC [aO h,cq (B8 Q h)]
def CB (Q):Bk 178 Tryz.f250 (cU Q) 7 [(0,.l),(1,.i .i64),(4,.v),(12,.i .i64),(13,.i .i64)] (gI Q):=aU (ok 178) eC [cq (B9 Q)]
def CC (Q):∀k,Bk 178 Tryz.f250 (cU Q) 5 [(0,.l),(1,.i .i64),(4,.v),(12,.i .i64),(13,.i .i64)] (dH Q k):=bL λk h=>aU (ok 178) eC [aO h,aO (CB Q)]
def CD (Q):∀k,Bk 178 Tryz.f250 (cU Q) 3 [(0,.l),(1,.i .i64),(4,.v),(12,.i .i64),(13,.i .i64)] (fu Q k):=bL λk h=>aU (ok 178) eC [aO h,cq (CC Q)]
def By:=λa b c d e f g w Q=>bB (lJ a b c d e f g w Q) (aJ f b<|wA a λi=>af .i64 ((i.add (f.toNat*3)).add 0) w.drew λj=>af .i64 ((i.add (f.toNat*3)).add 1) w.drew λl=>af .i64 ((i.add (f.toNat*3)).add 2) w.drew λm=>aJ d b<|wA a λn=>af .i64 ((n.add (d.toNat*3)).add 0) w.drew λo=>af .i64 ((n.add (d.toNat*3)).add 1) w.drew λp=>af .i64 ((n.add (d.toNat*3)).add 2) w.drew λq=>aJ d b<|wA a λr=>St ((r.add (d.toNat*3)).add 0) (ae j) w.drew λw=>St ((r.add (d.toNat*3)).add 1) (ae l) w λw=>St ((r.add (d.toNat*3)).add 2) (ae m) w λw=>aJ f b<|wA a λs=>St ((s.add (f.toNat*3)).add 0) (ae o) w λw=>St ((s.add (f.toNat*3)).add 1) (ae p) w λw=>St ((s.add (f.toNat*3)).add 2) (ae q) w λw=>∃k',fu Q k' a b c d g (IntKind.wrap .i64 (d+1)) (IntKind.wrap .i64 (e-1)) w) (ok 178) eC [cq (CD Q)] Tryz.func250
def jD (P2:L3 (Int->Int->Int->Value->Bool->Bool->WP))(Q:WP)(a:OA)(b c:Nat)(d e f:Int)(g:Value)(i j:Int)(w:World):Prop:=lJ a b c d e j g w λl m w=>NZ 8<|cond (decide ((IntKind.wrap .i64 (l-d))<(IntKind.wrap .i64 (e-l)))) (fq a b c d l f g w λw=>P2 a b c (IntKind.wrap .i64 (l+1)) e f g (decide ((IntKind.wrap .i64 (l-d))≥(IntKind.wrap .i64 (Int.tdiv i 8)))) m w) (fq a b c (IntKind.wrap .i64 (l+1)) e f g w λw=>P2 a b c d l f g (decide ((IntKind.wrap .i64 (e-l))≥(IntKind.wrap .i64 (Int.tdiv i 8)))) m w)
def eZ (P2:L3 (Int->Int->Int->Value->Bool->Bool->WP))(Q:WP)(a:OA)(b c:Nat)(d e f:Int)(g:Value)(i j:Bool)(l m:Int)(w:World):Prop:=cond (decide (d>0)) (aJ (IntKind.wrap .i64 (d-1)) b<|wA a λn=>af .i64 ((n.add (((IntKind.wrap .i64 (d-1))).toNat*3)).add 0) w.drew λo=>af .i64 ((n.add (((IntKind.wrap .i64 (d-1))).toNat*3)).add 1) w.drew λp=>af .i64 ((n.add (((IntKind.wrap .i64 (d-1))).toNat*3)).add 2) w.drew λq=>aJ m b<|wA a λr=>af .i64 ((r.add (m.toNat*3)).add 0) w.drew λs=>af .i64 ((r.add (m.toNat*3)).add 1) w.drew λt=>af .i64 ((r.add (m.toNat*3)).add 2) w.drew λu=>iw (cx 148) g [.agg #[ae o,ae p,ae q],.agg #[ae s,ae t,ae u]] w.drew λv w=>dI .i64 v λx=>cond (!(decide (x<0))) (jK a b c d e m g w λy w=>P2 a b c y e f g i j w) (jD P2 Q a b c d e f g l m w)) (jD P2 Q a b c d e f g l m w.drew)
def gY (P2:L3 (Int->Int->Int->Value->Bool->Bool->WP))(Q:WP)(a:OA)(b c:Nat)(d e f:Int)(g:Value)(i j:Bool)(l m n:Int)(w:World):Prop:=cond i (cond j (cond (n==1) (iG a b c d e g w λo w=>cond o (Q w) (eZ P2 Q a b c d e f g i j l m w)) (eZ P2 Q a b c d e f g i j l m w)) (eZ P2 Q a b c d e f g i j l m w)) (eZ P2 Q a b c d e f g i j l m w)
def jE (P2:L3 (Int->Int->Int->Value->Bool->Bool->WP))(Q:WP)(a:OA)(b c:Nat)(d e f:Int)(g:Value)(i j:Bool)(l:Int)(w:World):Prop:=kN a b c d e g w λm n w=>cond (n==2) (ku a b c d e g w λw=>gY P2 Q a b c d e f g i j l (IntKind.wrap .i64 ((IntKind.wrap .i64 (e-1))-(IntKind.wrap .i64 (m-d)))) 1 w) (gY P2 Q a b c d e f g i j l m n w)
def ig (Q:WP)(R2:L3 (Int->Int->Int->Value->Bool->Bool->WP))(a:OA)(b c:Nat)(d e f:Int)(g:Value)(i j:Bool)(w:World):Prop:=cond (decide ((IntKind.wrap .i64 (e-d))<=12)) (jS a b c d e g w λw=>Q w) (cond (f==0) (l_ a b c d e g w λw=>Q w) (cond (!i) (jT a b c d e g w λw=>jE R2 Q a b c d e (IntKind.wrap .i64 (f-1)) g i j (IntKind.wrap .i64 (e-d)) w) (jE R2 Q a b c d e f g i j (IntKind.wrap .i64 (e-d)) w)))
def cN (Q:WP):Nat->L3 (Int->Int->Int->Value->Bool->Bool->WP)
 |0,_,_,_,_,_,_,_,_,_,_=>False
 |k+1,a,b,c,d,e,f,g,i,j,w=>ig Q (cN Q k) a b c d e f g i j w
noncomputable def fL:cz:=[(17,sp 0 13 (.op 13 (sp 14 3 .done)))]
def Dq {P2}(Q)(H2:Bk 148 Tryz.f223 (cM Q) 2 [(0,.l),(1,.i .i64),(2,.i .i64),(3,.i .i64),(4,.v),(10,.b),(11,.b)] P2):Bk 148 Tryz.f223 (cM Q) 20 [(0,.l),(1,.i .i64),(2,.i .i64),(3,.i .i64),(4,.v),(12,.i .i64),(13,.i .i64)] (jD P2 Q):=aU (ok 148) fL [aO H2]
def Dr {P2}(Q)(H2:Bk 148 Tryz.f223 (cM Q) 2 [(0,.l),(1,.i .i64),(2,.i .i64),(3,.i .i64),(4,.v),(10,.b),(11,.b)] P2):Bk 148 Tryz.f223 (cM Q) 17 [(0,.l),(1,.i .i64),(2,.i .i64),(3,.i .i64),(4,.v),(10,.b),(11,.b),(12,.i .i64),(13,.i .i64)] (eZ P2 Q):=aU (ok 148) fL [aO H2,aO (Dq Q H2)]
def Ds {P2}(Q)(H2:Bk 148 Tryz.f223 (cM Q) 2 [(0,.l),(1,.i .i64),(2,.i .i64),(3,.i .i64),(4,.v),(10,.b),(11,.b)] P2):Bk 148 Tryz.f223 (cM Q) 15 [(0,.l),(1,.i .i64),(2,.i .i64),(3,.i .i64),(4,.v),(10,.b),(11,.b),(12,.i .i64),(13,.i .i64),(14,.i .i64)] (gY P2 Q):=aU (ok 148) fL [aO (Dr Q H2)]
def Dt {P2}(Q)(H2:Bk 148 Tryz.f223 (cM Q) 2 [(0,.l),(1,.i .i64),(2,.i .i64),(3,.i .i64),(4,.v),(10,.b),(11,.b)] P2):Bk 148 Tryz.f223 (cM Q) 10 [(0,.l),(1,.i .i64),(2,.i .i64),(3,.i .i64),(4,.v),(10,.b),(11,.b),(12,.i .i64)] (jE P2 Q):=aU (ok 148) fL [aO (Ds Q H2)]
def D8 (Q):∀k,Bk 148 Tryz.f223 (cM Q) 2 [(0,.l),(1,.i .i64),(2,.i .i64),(3,.i .i64),(4,.v),(10,.b),(11,.b)] (cN Q k):=bL λk h=>aU (ok 148) fL [aO (Dt Q h)]
def r9:=λa b c d e f g w Q=>bB (fq a b c d e f g w Q) (∃k',cN Q k' a b c d e f g true true w) (ok 148) fL [cq (D8 Q)] Tryz.func223
def Bd:=λa b c d w Q=>bB (kW a b c d w Q) (v7 (IntKind.wrap .u64 (b:Int)) w λe w=>fq a b c 0 (b:Int) e d w λw=>Q w) (ok 14) [] [] Tryz.func196
def nj (Q:Int->WP)(R3:Int->L3 (Int->Int->WP))(a:Int)(b:OA)(c d:Nat)(e f:Int)(w:World):Prop:=cond (decide (f<e)) (aJ f c<|wA b λg=>af .i64 (g.add (f.toNat*1)) w λi=>cond (i !=a) (Q i w) (R3 a b c d e (IntKind.wrap .i64 (f+1)) w)) (Q a w)
def rq (Q:Int->WP):Nat->Int->L3 (Int->Int->WP)
 |0,_,_,_,_,_,_,_=>False
 |k+1,a,b,c,d,e,f,w=>nj Q (rq Q k) a b c d e f w
def ad8 (Q):∀k,Bk 18 Tryz.f225 (Qh Q) 3 [(3,.i .i64),(6,.l),(7,.i .i64),(8,.i .i64)] (rq Q k):=bL λk h=>aU (ok 18) [] [aO h]
def Z9:=λa b c w Q=>bB (Fo a b c w Q) (∃k',rq Q k' 0 a b c (b:Int) 0 w) (ok 18) [] [cq (ad8 Q)] Tryz.func225
def Bz:=λa w Q=>bB (qQ a w Q) (Q (a !=a) w) (ok 6) [] [] Tryz.func253
def QH:=λa b w Q=>bB (oD a b w Q) (qQ a w λc w=>qQ b w λd w=>cond c (cond d (Q 0 w) (Q (-1) w)) (cond d (Q 1 w) (cond (decide (a<b)) (Q (-1) w) (cond (decide (a>b)) (Q 1 w) (Q 0 w))))) (ok 20) [] [] Tryz.func226
noncomputable def Z_:cz:=[(1,sp 0 4 (sp 5 4 (sp 10 4 (.op 4 (.op 9 (.op 14 (.op 15 (.op 16 (.op 17 .done)))))))))]
def Yx:=λa b c d e f w Q=>bB (D4 a b c d e f w Q) (Bx [ae a,ae b,ae c] 294 w λg w=>Bx [ae d,ae e,ae f] 294 w λi w=>af .i64 (g.add 2) w.drew λj=>af .i64 (i.add 2) w.drew λl=>af .i64 g w.drew λm=>af .i64 i w.drew λn=>af .i64 (g.add 1) w.drew λo=>af .i64 (i.add 1) w.drew λp=>oD j l w.drew λq w=>w.cell? (i.add 1)=some (ae p)/\w.cell? (g.add 1)=some (ae o)/\w.cell? i=some (ae n)/\w.cell? g=some (ae m)/\oD m n w λr w=>w.cell? (i.add 1)=some (ae p)/\w.cell? (g.add 1)=some (ae o)/\oD o p w λs w=>Bx [ae q,ae r,ae s] 3 w λt w=>Fo (some t) 3 3 w λu w=>Q u w) (ok 22) Z_ [] Tryz.func197
def CE (P4:L3 (Int->WP))(Q:L3 WP)(R9:L3 (Int->L3 (Int->WP)))(a:OA)(b c:Nat)(d:Int)(e:OA)(f g:Nat)(i:Int)(w:World):Prop:=cond (decide (i<(f:Int))) (aJ i f<|wA e λj=>af .i64 ((j.add (i.toNat*3)).add 0) w.drew λl=>af .i64 ((j.add (i.toNat*3)).add 1) w.drew λm=>af .i64 ((j.add (i.toNat*3)).add 2) w.drew λn=>aJ (IntKind.wrap .i64 (i-1)) f<|wA e λo=>af .i64 ((o.add (((IntKind.wrap .i64 (i-1))).toNat*3)).add 0) w.drew λp=>af .i64 ((o.add (((IntKind.wrap .i64 (i-1))).toNat*3)).add 1) w.drew λq=>af .i64 ((o.add (((IntKind.wrap .i64 (i-1))).toNat*3)).add 2) w.drew λr=>bV P .neq 294 (.tmp 38) (.tmp 43) (.agg #[ae l,ae m,ae n]) (.agg #[ae p,ae q,ae r]) w.drew λs w=>cond s (aJ i f<|wA e λt=>af .i64 ((t.add (i.toNat*3)).add 0) w λu=>af .i64 ((t.add (i.toNat*3)).add 1) w λv=>af .i64 ((t.add (i.toNat*3)).add 2) w λx=>aJ d b<|wA a λy=>St ((y.add (d.toNat*3)).add 0) (ae u) w λw=>St ((y.add (d.toNat*3)).add 1) (ae v) w λw=>St ((y.add (d.toNat*3)).add 2) (ae x) w λw=>R9 a b c (IntKind.wrap .i64 (d+1)) e f g (IntKind.wrap .i64 (i+1)) w) (R9 a b c d e f g (IntKind.wrap .i64 (i+1)) w)) (bT a b c 3 (some d) none λz a1 b1=>aN P (Builtin.clear_ #[278] 0 [.slice z a1 b1].toArray) w λc1 w=>bT a b c 3 none (some d) λd1 e1 f1=>Q d1 e1 f1 w)
def mJ (P4:L3 (Int->WP))(Q:L3 WP):Nat->L3 (Int->L3 (Int->WP))
 |0,_,_,_,_,_,_,_,_,_=>False
 |k+1,a,b,c,d,e,f,g,i,w=>CE P4 Q (mJ P4 Q k) a b c d e f g i w
def gL (Q:L3 WP)(R4:L3 (Int->WP))(a:OA)(b c:Nat)(d:Int)(w:World):Prop:=cond (decide (d<(b:Int))) (aJ d b<|wA a λe=>af .i64 ((e.add (d.toNat*3)).add 0) w.drew λf=>af .i64 ((e.add (d.toNat*3)).add 1) w.drew λg=>af .i64 ((e.add (d.toNat*3)).add 2) w.drew λi=>aJ (IntKind.wrap .i64 (d-1)) b<|wA a λj=>af .i64 ((j.add (((IntKind.wrap .i64 (d-1))).toNat*3)).add 0) w.drew λl=>af .i64 ((j.add (((IntKind.wrap .i64 (d-1))).toNat*3)).add 1) w.drew λm=>af .i64 ((j.add (((IntKind.wrap .i64 (d-1))).toNat*3)).add 2) w.drew λn=>bV P .eql 294 (.tmp 19) (.tmp 24) (.agg #[ae f,ae g,ae i]) (.agg #[ae l,ae m,ae n]) w.drew λo w=>cond o (bT a b c 3 (some d) none λp q r=>∃k',mJ R4 Q k' a b c d p q r 1 w) (R4 a b c (IntKind.wrap .i64 (d+1)) w)) (Q a b c w)
def fy (Q:L3 WP):Nat->L3 (Int->WP)
 |0,_,_,_,_,_=>False
 |k+1,a,b,c,d,w=>gL Q (fy Q k) a b c d w
noncomputable def mg:cz:=[(6,sp 0 9 (.op 9 .done)),(11,sp 0 9 (.op 9 .done))]
def CF {P4}(Q)(H4:Bk 61 Tryz.f198 (jo Q) 4 [(0,.l),(3,.i .i64)] P4):∀k,Bk 61 Tryz.f198 (jo Q) 9 [(0,.l),(3,.i .i64),(4,.l),(5,.i .i64)] (mJ P4 Q k):=bL λk h=>aU (ok 61) mg [aO h]
def CG (Q):∀k,Bk 61 Tryz.f198 (jo Q) 4 [(0,.l),(3,.i .i64)] (fy Q k):=bL λk h=>aU (ok 61) mg [aO h,cq (CF Q h)]
def BA:=λa b c w Q=>bB (lG a b c w Q) (cond (decide ((b:Int)<2)) (Q a b c w) (∃k',fy Q k' a b c 1 w)) (ok 61) mg [cq (CG Q)] Tryz.func198
def aaa:=λa b c w Q=>bB (kM a b c w Q) (jn a b c w λd e f w=>kW d e f (.func (.func 197) #[] #[]) w λw=>lG d e f w λg i j w=>Q g i j w) (ok 9) [] [] Tryz.func176
def vG (P6:OA->OA->Int->Int->Int->L3 (L3 (Int->Int->WP)))(Q:L3 WP)(R9:OA->OA->Int->Int->Int->L3 (Int->L3 (Int->Int->L3 (Int->Int->WP))))(a b:OA)(c d e:Int)(f:OA)(g i:Nat)(j:Int)(l:OA)(m n:Nat)(o p:Int)(q:OA)(r s:Nat)(t u:Int)(w:World):Prop:=cond (decide (u<t)) (aJ u r<|wA q λv=>af .i64 ((v.add (u.toNat*2)).add 0) w λx=>af .i64 ((v.add (u.toNat*2)).add 1) w λy=>Al T 292 w λz w=>St (z.add 0) (ae x) w λw=>St (z.add 1) (ae y) w λw=>af .i64 z w λa1=>Av b a1 w λb1 w=>cond (b1 !=1099511627776) (af .i64 z w.drew λc1=>af .i64 (z.add 1) w.drew λd1=>nJ d e j w.drew λe1 w=>w.cell? (z.add 1)=some (ae d1)/\w.cell? z=some (ae c1)/\Fj d e j c1 w λf1 w=>w.cell? (z.add 1)=some (ae d1)/\Bx [ae e1,ae f1,ae (IntKind.wrap .i64 (d1+b1))] 294 w λg1 w=>App P #[278,278] 278 (.slice f g i) (.slice (some g1) 1 1) w λi1 j1 l1 w=>R9 a b c d e i1 j1 l1 j l m n o p q r s t (IntKind.wrap .i64 (u+1)) w) (R9 a b c d e f g i j l m n o p q r s t (IntKind.wrap .i64 (u+1)) w)) (P6 a b c d e f g i l m n o (IntKind.wrap .i64 (p+1)) w)
def ru (P6:OA->OA->Int->Int->Int->L3 (L3 (Int->Int->WP)))(Q:L3 WP):Nat->OA->OA->Int->Int->Int->L3 (Int->L3 (Int->Int->L3 (Int->Int->WP)))
 |0,_,_,_,_,_,_,_,_,_,_,_,_,_,_,_,_,_,_,_,_=>False
 |k+1,a,b,c,d,e,f,g,i,j,l,m,n,o,p,q,r,s,t,u,w=>vG P6 Q (ru P6 Q k) a b c d e f g i j l m n o p q r s t u w
def vH (Q:L3 WP)(R6:OA->OA->Int->Int->Int->L3 (L3 (Int->Int->WP)))(a b:OA)(c d e:Int)(f:OA)(g i:Nat)(j:OA)(l m:Nat)(n o:Int)(w:World):Prop:=cond (decide (o<n)) (aJ o l<|wA j λp=>af .i64 (p.add (o.toNat*1)) w λq=>Cq a q w λr s t w=>∃k',ru R6 Q k' a b c d e f g i q j l m n o r s t (s:Int) 0 w) (yu b w λu w=>d_ d e u w λv w=>cond (v==c) (fg a u w λx w=>cond (x !=255) (nJ d e u w λy w=>Bx [ae y,ae 4,ae 0] 294 w λz w=>App P #[278,278] 278 (.slice f g i) (.slice (some z) 1 1) w λa1 b1 c1 w=>kM a1 b1 c1 w λd1 e1 f1 w=>Q d1 e1 f1 w) (kM f g i w λg1 i1 j1 w=>Q g1 i1 j1 w)) (kM f g i w λl1 m1 n1 w=>Q l1 m1 n1 w))
def ow (Q:L3 WP):Nat->OA->OA->Int->Int->Int->L3 (L3 (Int->Int->WP))
 |0,_,_,_,_,_,_,_,_,_,_,_,_,_,_=>False
 |k+1,a,b,c,d,e,f,g,i,j,l,m,n,o,w=>vH Q (ow Q k) a b c d e f g i j l m n o w
noncomputable def D9:cz:=[(13,sp 0 4 (sp 5 5 (sp 11 4 (.op 4 (.op 10 (.op 15 (.op 16 (.op 17 (.op 18 .done)))))))))]
def aab {P6}(Q)(H6:Bk 96 Tryz.f162 (Au Q) 6 [(0,.p),(1,.p),(2,.i .i64),(7,.i .i64),(8,.i .i64),(9,.l),(32,.l),(33,.i .i64),(34,.i .i64)] P6):∀k,Bk 96 Tryz.f162 (Au Q) 9 [(0,.p),(1,.p),(2,.i .i64),(7,.i .i64),(8,.i .i64),(9,.l),(11,.i .i64),(32,.l),(33,.i .i64),(34,.i .i64),(40,.l),(41,.i .i64),(42,.i .i64)] (ru P6 Q k):=bL λk h=>aU (ok 96) D9 [aO H6,aO h]
def aac (Q):∀k,Bk 96 Tryz.f162 (Au Q) 6 [(0,.p),(1,.p),(2,.i .i64),(7,.i .i64),(8,.i .i64),(9,.l),(32,.l),(33,.i .i64),(34,.i .i64)] (ow Q k):=bL λk h=>aU (ok 96) D9 [cq (aab Q h)]
def Wb:=λa b c w Q=>bB (Cp a b c w Q) (eU a w λd e w=>cond b.isNone (Q none 0 0 w) (wU b w λf w=>gf a w λg w=>cond (f !=g) (Q none 0 0 w) (oC a c w λi j l w=>∃k',ow Q k' a b c d e none 0 0 i j l (j:Int) 0 w))) (ok 96) D9 [cq (aac Q)] Tryz.func162
def Na:=λa b w Q=>bB (jf a b w Q) (cond a.isNone (Q 0 w) (cond (decide (b<0)) (Q 0 w) (wA a λc=>aA (c.add 4) w λd e f=>cond (decide (b≥(e:Int))) (Q 0 w) (wA a λg=>aA (g.add 4) w λi j l=>aJ b j<|wA i λm=>af .i64 (m.add (b.toNat*1)) w λn=>Q n w)))) (ok 27) [] [] Tryz.func165
def qS (Q:L3 WP)(R5:OA->L3 (Int->Int->WP))(a b:OA)(c d:Nat)(e f:Int)(w:World):Prop:=cond (decide (f<e)) (wA a λg=>aA (g.add 1) w.drew λi j l=>aJ f j<|wA i λm=>af .i64 (m.add (f.toNat*3)) w.drew λn=>wA a λo=>bg o w.drew λp=>jf p f w.drew λq w=>w.cell? (m.add (f.toNat*3))=some (ae n)/\w.cell? (g.add 1)=some (.slice i j l)/\cond (n !=q) (Bx [ae f] 3 w λr w=>App P #[29,29] 29 (.slice b c d) (.slice (some r) 1 1) w λs t u w=>R5 a s t u e (IntKind.wrap .i64 (f+1)) w) (R5 a b c d e (IntKind.wrap .i64 (f+1)) w)) (Q b c d w)
def nT (Q:L3 WP):Nat->OA->L3 (Int->Int->WP)
 |0,_,_,_,_,_,_,_=>False
 |k+1,a,b,c,d,e,f,w=>qS Q (nT Q k) a b c d e f w
noncomputable def GN:cz:=[(1,sp 0 11 (.op 11 (sp 12 2 .done))),(7,sp 0 13 (.op 13 (.op 14 .done)))]
def UW (Q):∀k,Bk 48 Tryz.f199 (HL Q) 5 [(0,.p),(3,.l),(23,.i .i64),(24,.i .i64)] (nT Q k):=bL λk h=>aU (ok 48) GN [aO h]
def QI:=λa w Q=>bB (zn a w Q) (cond a.isNone (Q none 0 0 w.drew) (wA a λb=>af .i64 (b.add 2) w.drew λc=>wA a λd=>bg d w.drew λe=>gf e w.drew λf w=>w.cell? (b.add 2)=some (ae c)/\cond (c==f) (Q none 0 0 w) (wA a λg=>aA (g.add 1) w λi j l=>∃k',nT Q k' a none 0 0 (j:Int) 0 w))) (ok 48) GN [cq (UW Q)] Tryz.func199
def ag5:=λa b c d e f w Q=>bB (JX a b c d e f w Q) (Bx [ae a,ae b,.slice c d e] 84 w λg w=>cond (decide (f≥0)) (aA (g.add 2) w λi j l=>cond (decide (f<(j:Int))) (af .i64 (g.add 0) w λm=>af .i64 (g.add 1) w λn=>aA (g.add 2) w λo p q=>u9 m n o p q w λr w=>Q r w) (Q false w)) (Q false w)) (ok 18) [] [] Tryz.func279
def ag6:=λa b c d e f w Q=>bB (JW a b c d e f w Q) (Bx [ae a,ae b,.slice c d e] 84 w λg w=>af .i64 (g.add 0) w λi=>af .i64 (g.add 1) w λj=>aA (g.add 2) w λl m n=>JX i j l m n f w λo w=>cond (!o) (Q 0 w) (aA (g.add 2) w λp q r=>aJ f q<|wA p λs=>af .u8 (s.add (f.toNat*1)) w λt=>Q (IntKind.wrap .i64 t) w)) (ok 15) [] [] Tryz.func270
def Be (Q:Bool->WP)(R2:L3 (Addr->L3 (Int->Int->WP)))(a:OA)(b c:Nat)(d:Addr)(e:OA)(f g:Nat)(i j:Int)(w:World):Prop:=cond (decide (j<i)) (aJ j f<|wA e λl=>af .i64 (l.add (j.toNat*1)) w λm=>af .i64 (d.add 0) w λn=>af .i64 (d.add 1) w λo=>aA (d.add 2) w λp q r=>JW n o p q r m w λs w=>cond (s==0) (Q false w) (cond (s==255) (Q false w) (cond (decide (j>0)) (aJ (IntKind.wrap .i64 (j-1)) b<|wA a λt=>af .i64 (t.add (((IntKind.wrap .i64 (j-1))).toNat*1)) w λu=>cond (decide (m<=u)) (Q false w) (R2 a b c d e f g i (IntKind.wrap .i64 (j+1)) w)) (R2 a b c d e f g i (IntKind.wrap .i64 (j+1)) w)))) (af .i64 (d.add 0) w λv=>af .i64 (d.add 1) w λx=>aA (d.add 2) w λy z a1=>u9 v x y z a1 w λb1 w=>Q b1 w)
def xj (Q:Bool->WP):Nat->L3 (Addr->L3 (Int->Int->WP))
 |0,_,_,_,_,_,_,_,_,_,_=>False
 |k+1,a,b,c,d,e,f,g,i,j,w=>Be Q (xj Q k) a b c d e f g i j w
def ag7 (Q):∀k,Bk 40 Tryz.f254 (T0 Q) 2 [(1,.l),(2,.a),(8,.l),(9,.i .i64),(10,.i .i64)] (xj Q k):=bL λk h=>aU (ok 40) [] [aO h]
def abY:=λa b c d e f g i w Q=>bB (GH a b c d e f g i w Q) (Bx [ae a,ae b,.slice c d e] 84 w λj w=>∃k',xj Q k' f g i j f g i (g:Int) 0 w) (ok 40) [] [cq (ag7 Q)] Tryz.func254
def gj (Q:Int->WP)(R2:L3 (Value->Int->Int->WP))(a:OA)(b c:Nat)(d:Value)(e f:Int)(w:World):Prop:=cond (decide (f<e)) (aJ f b<|wA a λg=>af .i64 ((g.add (f.toNat*3)).add 0) w λi=>af .i64 ((g.add (f.toNat*3)).add 1) w λj=>af .i64 ((g.add (f.toNat*3)).add 2) w λl=>iw (cx 19) d [.agg #[ae i,ae j,ae l]] w λm w=>dB m λn=>cond n (Q f w) (R2 a b c d e (IntKind.wrap .i64 (f+1)) w)) (Q (-1) w)
def fe (Q:Int->WP):Nat->L3 (Value->Int->Int->WP)
 |0,_,_,_,_,_,_,_=>False
 |k+1,a,b,c,d,e,f,w=>gj Q (fe Q k) a b c d e f w
def BB (Q):∀k,Bk 19 Tryz.f233 (qP Q) 2 [(0,.l),(1,.v),(7,.i .i64),(8,.i .i64)] (fe Q k):=bL λk h=>aU (ok 19) [] [aO h]
def AJ:=λa b c d w Q=>bB (pO a b c d w Q) (∃k',fe Q k' a b c d (b:Int) 0 w) (ok 19) [] [cq (BB Q)] Tryz.func233
def yK:=λa b c d w Q=>bB (om a b c d w Q) (pO a b c d w λe w=>Q (decide (e≥0)) w) (ok 9) [] [] Tryz.func209
noncomputable def ad9:cz:=[(1,sp 0 8 (.op 8 (.op 9 .done)))]
def abZ:=λa b c d e f g w Q=>bB (GG a b c d e f g w Q) (Bx [ae a,ae b,.slice c d e] 84 w λi w=>af .i64 i w.drew λj=>NZ j<|af .i64 i w.drew λl=>NZ l<|w.drew.cell? i=some (ae l)/\cond (g==0) (Q ((IntKind.wrap .i64 (Int.tdiv f l))==0) w.drew) (cond (g==1) (af .i64 i w.drew λm=>Q ((Int.tmod f j)==(IntKind.wrap .i64 (m-1))) w.drew) (cond (g==2) (af .i64 (i.add 1) w.drew λn=>Q ((IntKind.wrap .i64 (Int.tdiv f l))==(IntKind.wrap .i64 (n-1))) w.drew) (cond (g==3) (Q ((Int.tmod f j)==0) w.drew) (Q (g==4) w.drew))))) (ok 42) ad9 [] Tryz.func211
def Yy:=λa b c d w Q=>bB (D6 a b c d w Q) (Bx [ae a,ae b,ae c] 294 w λe w=>af .i64 e w λf=>cond (decide (f<0)) (Q true w) (af .i64 e w λg=>wA d λi=>aA (i.add 2) w λj l m=>cond (decide (g≥(l:Int))) (Q true w) (wA d λn=>aA (n.add 2) w λo p q=>af .i64 e w λr=>aJ r p<|wA o λs=>af .u8 (s.add (r.toNat*1)) w λt=>cond (t==255) (Q true w) (af .i64 (e.add 2) w λu=>cond (decide (u<0)) (Q true w) (af .i64 (e.add 2) w λv=>cond (decide (v>1073741824)) (Q true w) (wA d λx=>af .i64 (x.add 0) w λy=>af .i64 (x.add 1) w λz=>aA (x.add 2) w λa1 b1 c1=>af .i64 e w λd1=>af .i64 (e.add 1) w λe1=>GG y z a1 b1 c1 d1 e1 w λf1 w=>Q (!f1) w)))))) (ok 43) [] [] Tryz.func210
def ab0:=λa b c d e f g i w Q=>bB (BM a b c d e f g i w Q) (Bx [ae a,ae b,.slice c d e] 84 w λj w=>af .i64 (j.add 0) w λl=>af .i64 (j.add 1) w λm=>aA (j.add 2) w λn o p=>u9 l m n o p w λq w=>cond (!q) (Q false w) (om f g i (.func (.func 210) #[] #[.pointer (some j)]) w λr w=>Q (!r) w)) (ok 12) [] [] Tryz.func179
def ad_:=λa w Q=>bB (Df a w Q) (cond (decide (a<0)) (Q none w) (cond (decide (a>1099511627776)) (Q none w) (Bx [ae a,ae 0,.slice none 0 0,ae 0,.slice none 0 0,ae 0,.slice none 0 0,ae 0,.slice none 0 0,ae 0,.slice none 0 0,ae 0,.slice none 0 0,ae 0,.slice none 0 0,ae 0,.slice none 0 0,ae 0,.slice none 0 0,ae 0,.slice none 0 0,ae 0,.slice none 0 0,ae 0,.slice none 0 0,ae 0,.slice none 0 0,ae 0,.slice none 0 0,ae 0,.slice none 0 0,ae 0,.slice none 0 0,ae 0,.slice none 0 0,ae 0,.slice none 0 0,ae 0,.slice none 0 0,ae 0,.slice none 0 0,ae 0,.slice none 0 0,ae 0,.slice none 0 0,ae 0,.slice none 0 0,ae 0,.slice none 0 0,ae 0,.slice none 0 0,ae 0,.slice none 0 0,ae 0,.slice none 0 0,ae 0,.slice none 0 0,ae 0,.slice none 0 0,ae 0,.slice none 0 0,ae 0,.slice none 0 0,ae 0,.slice none 0 0,ae 0,.slice none 0 0,ae 0,.slice none 0 0,ae 0,.slice none 0 0,ae 0,.slice none 0 0,ae 0,.slice none 0 0,ae 0,.slice none 0 0,ae 0,.slice none 0 0,ae 0,.slice none 0 0,ae 0,.slice none 0 0,ae 0,.slice none 0 0,ae 0,.slice none 0 0,ae 0,.slice none 0 0,ae 0,.slice none 0 0,ae 0,.slice none 0 0,ae 0,.slice none 0 0,ae 0,.slice none 0 0,ae 0,.slice none 0 0,ae 0,.slice none 0 0,ae 0,.slice none 0 0,ae 0,.slice none 0 0,ae 0,.slice none 0 0,ae 0,.slice none 0 0,ae 0,.slice none 0 0,ae 0,.slice none 0 0,ae 0,.slice none 0 0,ae 0,.slice none 0 0,ae 0,.slice none 0 0,ae 0,.slice none 0 0,ae 0,.slice none 0 0,ae 0,.slice none 0 0,ae 0,.slice none 0 0,ae 0,.slice none 0 0,ae 0,.slice none 0 0,ae 0,.slice none 0 0,ae 0,.slice none 0 0,ae 0,.slice none 0 0,ae 0,.slice none 0 0,ae 0,.slice none 0 0,ae 0,.slice none 0 0,ae 0,.slice none 0 0,ae 0,.slice none 0 0,ae 0,.slice none 0 0,ae 0,.slice none 0 0,ae 0,.slice none 0 0,ae 0,.slice none 0 0,ae 0,.slice none 0 0,ae 0,.slice none 0 0,ae 0,.slice none 0 0,ae 0,.slice none 0 0,ae 0,.slice none 0 0,ae 0,.slice none 0 0,ae 0,.slice none 0 0,ae 0,.slice none 0 0,ae 0,.slice none 0 0,ae 0,.slice none 0 0,ae 0,.slice none 0 0,ae 0,.slice none 0 0,ae 0,.slice none 0 0,ae 0,.slice none 0 0,ae 0,.slice none 0 0,ae 0,.slice none 0 0,ae 0,.slice none 0 0,ae 0,.slice none 0 0,ae 0,.slice none 0 0,ae 0,.slice none 0 0,ae 0,.slice none 0 0,ae 0,.slice none 0 0,ae 0,.slice none 0 0,ae 0,.slice none 0 0,ae 0,.slice none 0 0,ae 0,.slice none 0 0,ae 0,.slice none 0 0,ae 0,.slice none 0 0,ae 0,.slice none 0 0,ae 0,.slice none 0 0,ae 0,.slice none 0 0,ae 0,.slice none 0 0,ae 0,.slice none 0 0,ae 0,.slice none 0 0,ae 0,.slice none 0 0,ae 0,.slice none 0 0,ae 0,.slice none 0 0,ae 0,.slice none 0 0,ae 0,.slice none 0 0,ae 0,.slice none 0 0,ae 0,.slice none 0 0,ae 0,.slice none 0 0,ae 0,.slice none 0 0,ae 0,.slice none 0 0,ae 0,.slice none 0 0,ae 0,.slice none 0 0,ae 0,.slice none 0 0,ae 0,.slice none 0 0,ae 0,.slice none 0 0,ae 0,.slice none 0 0,ae 0,.slice none 0 0,ae 0,.slice none 0 0,ae 0,.slice none 0 0,ae 0,.slice none 0 0,ae 0,.slice none 0 0,ae 0,.slice none 0 0,ae 0,.slice none 0 0,ae 0,.slice none 0 0,ae 0,.slice none 0 0,ae 0,.slice none 0 0,ae 0,.slice none 0 0,ae 0,.slice none 0 0,ae 0,.slice none 0 0,ae 0,.slice none 0 0,ae 0,.slice none 0 0,ae 0,.slice none 0 0,ae 0,.slice none 0 0,ae 0,.slice none 0 0,ae 0,.slice none 0 0,ae 0,.slice none 0 0,ae 0,.slice none 0 0,ae 0,.slice none 0 0,ae 0,.slice none 0 0,ae 0,.slice none 0 0,ae 0,.slice none 0 0,ae 0,.slice none 0 0,ae 0,.slice none 0 0,ae 0,.slice none 0 0,ae 0,.slice none 0 0,ae 0,.slice none 0 0,ae 0,.slice none 0 0,ae 0,.slice none 0 0,ae 0,.slice none 0 0,ae 0,.slice none 0 0,ae 0,.slice none 0 0,ae 0,.slice none 0 0,ae 0,.slice none 0 0,ae 0,.slice none 0 0,ae 0,.slice none 0 0,ae 0,.slice none 0 0,ae 0,.slice none 0 0,ae 0,.slice none 0 0,ae 0,.slice none 0 0,ae 0,.slice none 0 0,ae 0,.slice none 0 0,ae 0,.slice none 0 0,ae 0,.slice none 0 0,ae 0,.slice none 0 0,ae 0,.slice none 0 0,ae 0,.slice none 0 0,ae 0,.slice none 0 0,ae 0,.slice none 0 0,ae 0,.slice none 0 0,ae 0,.slice none 0 0,ae 0,.slice none 0 0,ae 0,.slice none 0 0,ae 0,.slice none 0 0,ae 0,.slice none 0 0,ae 0,.slice none 0 0,ae 0,.slice none 0 0,ae 0,.slice none 0 0,ae 0,.slice none 0 0,ae 0,.slice none 0 0,ae 0,.slice none 0 0,ae 0,.slice none 0 0,ae 0,.slice none 0 0,ae 0,.slice none 0 0,ae 0,.slice none 0 0,ae 0,.slice none 0 0,ae 0,.slice none 0 0,ae 0,.slice none 0 0,ae 0,.slice none 0 0,ae 0,.slice none 0 0,ae 0,.slice none 0 0,ae 0,.slice none 0 0,ae 0,.slice none 0 0,ae 0,.slice none 0 0,ae 0,.slice none 0 0,ae 0,.slice none 0 0,ae 0,.slice none 0 0,ae 0,.slice none 0 0,ae 0,.slice none 0 0,ae 0,.slice none 0 0,ae 0,.slice none 0 0,ae 0,.slice none 0 0,ae 0,.slice none 0 0,ae 0,.slice none 0 0,ae 0,.slice none 0 0,ae 0,.slice none 0 0,ae 0,.slice none 0 0,ae 0,.slice none 0 0,ae 0,.slice none 0 0,ae 0,.slice none 0 0,ae 0,.slice none 0 0,ae 0,.slice none 0 0,ae 0,.slice none 0 0,ae 0,.slice none 0 0,ae 0,.slice none 0 0,ae 0,.slice none 0 0,ae 0,.slice none 0 0,ae 0,.slice none 0 0,ae 0,.slice none 0 0,ae 0,.slice none 0 0,ae 0,.slice none 0 0,ae 0,.slice none 0 0,ae 0,.slice none 0 0,ae 0,.slice none 0 0,ae 0,.slice none 0 0,ae 0,.slice none 0 0,ae 0,.slice none 0 0,ae 0,.slice none 0 0,ae 0,.slice none 0 0,ae 0,.slice none 0 0,ae 0,.slice none 0 0,ae 0,.slice none 0 0,ae 0,.slice none 0 0,ae 0,.slice none 0 0,ae 0,.slice none 0 0,ae 0,.slice none 0 0,ae 0,.slice none 0 0,ae 0,.slice none 0 0,ae 0,.slice none 0 0,ae 0,.slice none 0 0,ae 0,.slice none 0 0,ae 0,.slice none 0 0,ae 0,.slice none 0 0,ae 0,.slice none 0 0,ae 0,.slice none 0 0,ae 0,.slice none 0 0,ae 0] 388 w λb w=>Q (some b) w))) (ok 12) [] [] Tryz.func234
def lU (Q:L3 WP)(R8:L3 (Int->WP))(a:OA)(b c:Nat)(d:Int)(w:World):Prop:=cond (decide (d<(b:Int))) (bT a b c 1 (some d) none λe f g=>bT a b c 1 none (some d) λi j l=>cK P #[29,29] 3 (.slice e f g) (.slice i j l) w.drew λm w=>R8 a b c (IntKind.wrap .i64 (d+m)) w) (Q a b c w)
def lV (Q:L3 WP):Nat->L3 (Int->WP)
 |0,_,_,_,_,_=>False
 |k+1,a,b,c,d,w=>lU Q (lV Q k) a b c d w
def uM (Q:L3 WP)(a:OA)(b c:Nat)(d:Int)(w:World):Prop:=False
noncomputable def tE:cz:=[(9,sp 0 7 (.op 7 (.op 8 (.op 9 .done))))]
def BP (Q):∀k,Bk 48 Tryz.f235 (uG Q) 8 [(7,.l),(8,.i .i64)] (lV Q k):=bL λk h=>aU (ok 48) tE [aO h]
def KQ (Q):Bk 48 Tryz.f235 (uG Q) 5 [(0,.l),(6,.i .u64)] (uM Q):=aU (ok 48) tE [cq (BP Q)]
def Jq:=λa b c d w Q=>bB (kE a b c d w Q) (cond (decide (d<0)) (False) (qO (IntKind.wrap .u64 (b:Int)) (IntKind.wrap .u64 d) w λe f w=>cond (decide (e>0)) (uM Q a b c f w) (cond (decide (f>9223372036854775807)) (uM Q a b c f w) (cE P 29 (ae (IntKind.wrap .i64 f)) (ae (IntKind.wrap .i64 f)) w λg i j w=>cK P #[29,29] 3 (.slice g i j) (.slice a b c) w λl w=>∃k',lV Q k' g i j l w)))) (ok 48) tE [aO (KQ Q),cq (BP Q)] Tryz.func235
def UX:=λa w Q=>bB (qR a w Q) (cond a.isNone (Q 0 w) (wA a λb=>af .i64 (b.add 1) w λc=>Q c w)) (ok 9) [] [] Tryz.func260
def SM:=λa b w Q=>bB (AE a b w Q) (cond a.isNone (Q false w) (wA a λc=>af .i64 (c.add 1) w λd=>cond (decide (d>0)) (Q false w) (wA a λe=>af .i64 e w λf=>cond (decide (b<f)) (Q false w) (cond (decide (b>1099511627776)) (Q false w) (wA a λg=>St g (ae b) w λw=>Q true w))))) (ok 30) [] [] Tryz.func272
def QJ:=λa b w Q=>bB (zv a b w Q) (wA a λc=>aA c w λd e f=>Bx [ae b] 3 w λg w=>App P #[29,29] 29 (.slice d e f) (.slice (some g) 1 1) w λi j l w=>wA a λm=>St m (.slice i j l) w λw=>Q w) (ok 14) [] [] Tryz.func282
def UY:=λa b c w Q=>bB (v9 a b c w Q) (cond a.isNone (Q false w) (wA a λd=>af .i64 d w λe=>cond (decide (b<e)) (Q false w) (wA a λf=>af .i64 f w λg=>cond (decide ((IntKind.wrap .i64 (b-g))≥256)) (Q false w) (NZ 256<|wA a λi=>aJ (Int.tmod b 256) 256<|zv (some ((i.add 2).add (((Int.tmod b 256)).toNat*2))) c w λw=>wA a λj=>af .i64 (j.add 1) w λl=>wA a λm=>St (m.add 1) (ae (IntKind.wrap .i64 (l+1))) w λw=>Q true w)))) (ok 41) [] [] Tryz.func273
def yy (Q:WP)(R2:OA->WP)(a:OA)(w:World):Prop:=wA a λb=>aA (b.add 4) w.drew λc d e=>cond (decide ((d:Int)>0)) (wA a λf=>bg (f.add 3) w.drew λg=>wA a λi=>aA (i.add 4) w.drew λj l m=>aJ 0 l<|wA j λn=>af .i64 ((n.add (((0:Int).toNat)*3)).add 2) w.drew λo=>wA a λp=>aA (p.add 4) w.drew λq r s=>aJ 0 r<|wA q λt=>af .i64 (t.add (((0:Int).toNat)*3)) w.drew λu=>v9 g o u w.drew λv w=>cond v (wA a λx=>aA (x.add 4) w λy z a1=>bT y z a1 3 (some 1) none λb1 c1 d1=>wA a λe1=>St (e1.add 4) (.slice b1 c1 d1) w λw=>R2 a w) (Q w)) (Q w.drew)
def gD (Q:WP):Nat->OA->WP
 |0,_,_=>False
 |k+1,a,w=>yy Q (gD Q k) a w
noncomputable def DQ:cz:=[(1,sp 0 11 (.op 11 .done)),(2,sp 0 25 (.op 25 (.op 26 .done)))]
def O2 (Q):∀k,Bk 63 Tryz.f259 (Ev Q) 2 [(0,.p)] (gD Q k):=bL λk h=>aU (ok 63) DQ [aO h]
def LQ:=λa w Q=>bB (jU a w Q) (wA a λb=>aA (b.add 4) w λc d e=>cond (decide ((d:Int)>0)) (wA a λf=>bg (f.add 3) w λg=>qR g w λi w=>cond (i==0) (wA a λj=>bg (j.add 3) w.drew λl=>wA a λm=>aA (m.add 4) w.drew λn o p=>aJ 0 o<|wA n λq=>af .i64 ((q.add (((0:Int).toNat)*3)).add 2) w.drew λr=>AE l r w.drew λs w=>∃k',gD Q k' a w) (∃k',gD Q k' a w)) (∃k',gD Q k' a w)) (ok 63) DQ [cq (O2 Q)] Tryz.func259
noncomputable def O3:cz:=[(1,sp 0 10 (.op 10 .done))]
def Nb:=λa w Q=>bB (qJ a w Q) (wA a λb=>af .i64 (b.add 1) w.drew λc=>wA a λd=>aA d w.drew λe f g=>Q (c==(f:Int)) w.drew) (ok 13) O3 [] Tryz.func274
noncomputable def SO:cz:=[(1,sp 0 10 (.op 10 .done))]
def QK:=λa w Q=>bB (zq a w Q) (wA a λb=>aA b w.drew λc d e=>wA a λf=>af .i64 (f.add 1) w.drew λg=>aJ g d<|wA c λi=>af .i64 (i.add (g.toNat*1)) w.drew λj=>wA a λl=>af .i64 (l.add 1) w.drew λm=>wA a λn=>St (n.add 1) (ae (IntKind.wrap .i64 (m+1))) w.drew λw=>qJ a w λo w=>cond o (wA a λp=>aA p w λq r s=>bT q r s 1 none (some 0) λt u v=>wA a λx=>St x (.slice t u v) w λw=>wA a λy=>St (y.add 1) (ae 0) w λw=>Q j w) (Q j w)) (ok 35) SO [] Tryz.func275
def D_ (Q:Int->Int->Bool->WP)(R3:OA->WP)(a:OA)(w:World):Prop:=wA a λb=>af .i64 b w.drew λc=>NZ 256<|wA a λd=>aJ (Int.tmod c 256) 256<|qJ (some ((d.add 2).add (((Int.tmod c 256)).toNat*2))) w.drew λe w=>cond e (wA a λf=>af .i64 f w λg=>wA a λi=>St i (ae (IntKind.wrap .i64 (g+1))) w λw=>R3 a w) (wA a λj=>af .i64 (j.add 1) w λl=>wA a λm=>St (m.add 1) (ae (IntKind.wrap .i64 (l-1))) w λw=>wA a λn=>af .i64 n w.drew λo=>wA a λp=>af .i64 p w.drew λq=>NZ 256<|wA a λr=>aJ (Int.tmod q 256) 256<|zq (some ((r.add 2).add (((Int.tmod q 256)).toNat*2))) w.drew λs w=>w.cell? n=some (ae o)/\Q o s true w)
def qi (Q:Int->Int->Bool->WP):Nat->OA->WP
 |0,_,_=>False
 |k+1,a,w=>D_ Q (qi Q k) a w
noncomputable def Jr:cz:=[(3,sp 0 9 (.op 9 .done)),(6,sp 0 13 (.op 13 (.op 14 (.op 15 (.op 16 .done)))))]
def Yz (Q):∀k,Bk 46 Tryz.f261 (Ko Q) 3 [(0,.p)] (qi Q k):=bL λk h=>aU (ok 46) Jr [aO h]
def UZ:=λa w Q=>bB (Bw a w Q) (qR a w λb w=>cond (b==0) (Q 0 0 false w) (∃k',qi Q k' a w)) (ok 46) Jr [cq (Yz Q)] Tryz.func261
def KR:=λa b c w Q=>bB (iB a b c w Q) (wA a λd=>aA (d.add 2) w λe f g=>aJ b f<|wA e λi=>af .u8 (i.add (b.toNat*1)) w λj=>cond (j !=255) (wA a λl=>aA (l.add 5) w λm n o=>aJ b n<|wA m λp=>af .i64 (p.add (b.toNat*1)) w λq=>cond (q==1099511627776) (wA a λr=>bg (r.add 3) w λs=>v9 s c b w λt w=>Q w) (Q w)) (Q w)) (ok 32) [] [] Tryz.func276
def mK (Q:WP)(a:OA)(b c d:Int)(w:World):Prop:=cond (decide (d>0)) (iB a (IntKind.wrap .i64 (b-1)) c w λw=>Q w) (Q w)
def pT (Q:WP)(a:OA)(b c d e:Int)(w:World):Prop:=wA a λf=>af .i64 (f.add 1) w λg=>cond (decide (e<(IntKind.wrap .i64 (g-1)))) (wA a λi=>af .i64 i w λj=>iB a (IntKind.wrap .i64 (b+j)) c w λw=>mK Q a b c d w) (mK Q a b c d w)
def pU (Q:WP)(a:OA)(b c d e:Int)(w:World):Prop:=wA a λf=>af .i64 f w λg=>cond (decide (d<(IntKind.wrap .i64 (g-1)))) (iB a (IntKind.wrap .i64 (b+1)) c w λw=>pT Q a b c d e w) (pT Q a b c d e w)
noncomputable def o8:cz:=[(0,sp 0 17 (.op 17 .done)),(1,sp 0 14 (.op 14 (.op 15 .done)))]
def LR (Q):Bk 88 Tryz.f262 (pP Q) 8 [(0,.p),(1,.i .i64),(4,.i .i64),(5,.i .i64)] (mK Q):=aU (ok 88) o8 []
def LS (Q):Bk 88 Tryz.f262 (pP Q) 6 [(0,.p),(1,.i .i64),(4,.i .i64),(5,.i .i64),(6,.i .i64)] (pT Q):=aU (ok 88) o8 [aO (LR Q)]
def LU (Q):Bk 88 Tryz.f262 (pP Q) 4 [(0,.p),(1,.i .i64),(4,.i .i64),(5,.i .i64),(6,.i .i64)] (pU Q):=aU (ok 88) o8 [aO (LS Q)]
def J_:=λa b w Q=>bB (tB a b w Q) (wA a λc=>aA (c.add 5) w.drew λd e f=>aJ b e<|wA d λg=>af .i64 (g.add (b.toNat*1)) w.drew λi=>wA a λj=>aA (j.add 2) w.drew λl m n=>aJ b m<|wA l λo=>af .u8 (o.add (b.toNat*1)) w.drew λp=>wA a λq=>af .i64 q w.drew.drew λr=>NZ r<|wA a λs=>af .i64 s w.drew.drew λt=>NZ t<|w.drew.drew.cell? s=some (ae t)/\cond (decide ((IntKind.wrap .i64 (Int.tdiv b t))>0)) (wA a λu=>af .i64 u w.drew.drew λv=>iB a (IntKind.wrap .i64 (b-v)) (IntKind.wrap .i64 (i+(IntKind.wrap .i64 p))) w.drew.drew λw=>pU Q a b (IntKind.wrap .i64 (i+(IntKind.wrap .i64 p))) (Int.tmod b r) (IntKind.wrap .i64 (Int.tdiv b t)) w) (pU Q a b (IntKind.wrap .i64 (i+(IntKind.wrap .i64 p))) (Int.tmod b r) (IntKind.wrap .i64 (Int.tdiv b t)) w.drew.drew)) (ok 88) o8 [aO (LU Q)] Tryz.func262
def zF (Q:WP)(R1:OA->WP)(a:OA)(w:World):Prop:=wA a λb=>bg (b.add 3) w λc=>qR c w λd w=>cond (decide (d>0)) (wA a λe=>bg (e.add 3) w λf=>Bw f w λg i j w=>wA a λl=>aA (l.add 5) w λm n o=>aJ i n<|wA m λp=>af .i64 (p.add (i.toNat*1)) w λq=>cond (q==1099511627776) (wA a λr=>aA (r.add 5) w λs t u=>aJ i t<|wA s λv=>St (v.add (i.toNat*1)) (ae g) w λw=>tB a i w λw=>jU a w λw=>R1 a w) (jU a w λw=>R1 a w)) (Q w)
def jW (Q:WP):Nat->OA->WP
 |0,_,_=>False
 |k+1,a,w=>zF Q (jW Q k) a w
def QL (Q):∀k,Bk 42 Tryz.f236 (FP Q) 1 [(0,.p)] (jW Q k):=bL λk h=>aU (ok 42) [] [aO h]
def Nc:=λa w Q=>bB (DM a w Q) (jU a w λw=>∃k',jW Q k' a w) (ok 42) [] [cq (QL Q)] Tryz.func236
def ry (Q:L3 (Int->WP))(a:Addr)(w:World):Prop:=DM (some a) w λw=>aA (a.add 5) w λb c d=>Q b c d 0 w
noncomputable def Kr:cz:=[(3,.op 0 (.op 2 (sp 5 3 (.br (.op 1 (.br (.op 3 (.op 4 (.op 8 (.op 9 (.op 10 (.op 11 .done)))))) (.op 4 (.op 3 (.op 8 (.op 9 (.op 10 (.op 11 .done)))))))) (.op 4 (.op 1 (.op 3 (.op 8 (.op 9 (.op 10 (.op 11 .done)))))))))))]
def aad (Q):Bk 28 Tryz.f216 (LM Q) 4 [(6,.a)] (ry Q):=aU (ok 28) Kr []
def Wc:=λa b c d e f g i w Q=>bB (xD a b c d e f g i w Q) (Bx [ae a,ae b,.slice c d e] 84 w λj w=>af .i64 (j.add 0) w λl=>af .i64 (j.add 1) w λm=>aA (j.add 2) w λn o p=>BM l m n o p f g i w λq w=>cond (!q) (Q none 0 0 1 w) (af .i64 (j.add 0) w.drew λr=>af .i64 (j.add 1) w.drew λs=>aA (j.add 2) w.drew λt u v=>aA (j.add 2) w.drew λx y z=>(Df 0 w.drew λa1 w=>w.cell? (j.add 2)=some (.slice x y z)/\w.cell? (j.add 0)=some (ae r)/\w.cell? (j.add 1)=some (ae s)/\w.cell? (j.add 2)=some (.slice t u v)/\(kM f g i w λb1 c1 d1 w=>w.cell? (j.add 2)=some (.slice x y z)/\w.cell? (j.add 0)=some (ae r)/\w.cell? (j.add 1)=some (ae s)/\w.cell? (j.add 2)=some (.slice t u v)/\Bx [ae 1099511627776] 3 w λe1 w=>w.cell? (j.add 2)=some (.slice x y z)/\w.cell? (j.add 0)=some (ae r)/\w.cell? (j.add 1)=some (ae s)/\w.cell? (j.add 2)=some (.slice t u v)/\kE (some e1) 1 1 (y:Int) w λf1 g1 i1 w=>w.cell? (j.add 0)=some (ae r)/\w.cell? (j.add 1)=some (ae s)/\w.cell? (j.add 2)=some (.slice t u v)/\Bx [ae r,ae s,.slice t u v,.pointer a1,.slice b1 c1 d1,.slice f1 g1 i1] 363 w λj1 w=>ry Q j1 w)/\(Bx [ae 1099511627776] 3 w λl1 w=>w.cell? (j.add 2)=some (.slice x y z)/\w.cell? (j.add 0)=some (ae r)/\w.cell? (j.add 1)=some (ae s)/\w.cell? (j.add 2)=some (.slice t u v)/\kM f g i w λm1 n1 o1 w=>w.cell? (j.add 2)=some (.slice x y z)/\w.cell? (j.add 0)=some (ae r)/\w.cell? (j.add 1)=some (ae s)/\w.cell? (j.add 2)=some (.slice t u v)/\kE (some l1) 1 1 (y:Int) w λp1 q1 r1 w=>w.cell? (j.add 0)=some (ae r)/\w.cell? (j.add 1)=some (ae s)/\w.cell? (j.add 2)=some (.slice t u v)/\Bx [ae r,ae s,.slice t u v,.pointer a1,.slice m1 n1 o1,.slice p1 q1 r1] 363 w λs1 w=>ry Q s1 w))/\(Bx [ae 1099511627776] 3 w.drew λt1 w=>w.cell? (j.add 2)=some (.slice x y z)/\w.cell? (j.add 0)=some (ae r)/\w.cell? (j.add 1)=some (ae s)/\w.cell? (j.add 2)=some (.slice t u v)/\Df 0 w λu1 w=>w.cell? (j.add 2)=some (.slice x y z)/\w.cell? (j.add 0)=some (ae r)/\w.cell? (j.add 1)=some (ae s)/\w.cell? (j.add 2)=some (.slice t u v)/\kM f g i w λv1 x1 y1 w=>w.cell? (j.add 2)=some (.slice x y z)/\w.cell? (j.add 0)=some (ae r)/\w.cell? (j.add 1)=some (ae s)/\w.cell? (j.add 2)=some (.slice t u v)/\kE (some t1) 1 1 (y:Int) w λz1 a2 b2 w=>w.cell? (j.add 0)=some (ae r)/\w.cell? (j.add 1)=some (ae s)/\w.cell? (j.add 2)=some (.slice t u v)/\Bx [ae r,ae s,.slice t u v,.pointer u1,.slice v1 x1 y1,.slice z1 a2 b2] 363 w λc2 w=>ry Q c2 w))) (ok 28) Kr [aO (aad Q)] Tryz.func216
def aea:=λa b c d e f w Q=>bB (Il a b c d e f w Q) (Bx [ae a,ae b,.slice c d e] 84 w λg w=>af .i64 (g.add 0) w λi=>af .i64 (g.add 1) w λj=>aA (g.add 2) w λl m n=>Bx [ae f,ae 4,ae 0] 294 w λo w=>xD i j l m n (some o) 1 1 w λp q r s w=>Q p q r s w) (ok 13) [] [] Tryz.func255
def xI (P6:L3 (Addr->Int->L3 (L3 (Int->Int->WP))))(Q:L3 (Int->WP))(R10:L3 (Addr->Int->L3 (Int->L3 (L3 (Int->Int->L3 (Int->Int->WP))))))(a:OA)(b c:Nat)(d:Addr)(e:Int)(f:OA)(g i:Nat)(j:Int)(l:OA)(m n:Nat)(o:OA)(p q:Nat)(r s:Int)(t:OA)(u v:Nat)(x y:Int)(w:World):Prop:=cond (decide (y<x)) (aJ y u<|wA t λz=>af .i64 (z.add (y.toNat*1)) w λa1=>aJ a1 m<|wA l λb1=>af .i64 (b1.add (a1.toNat*1)) w λc1=>aJ (IntKind.wrap .i64 ((IntKind.wrap .i64 (y*e))+j)) g<|wA f λd1=>St (d1.add (((IntKind.wrap .i64 ((IntKind.wrap .i64 (y*e))+j))).toNat*1)) (ae c1) w λw=>R10 a b c d e f g i j l m n o p q r s t u v x (IntKind.wrap .i64 (y+1)) w) (P6 a b c d e f g i o p q r (IntKind.wrap .i64 (s+1)) w)
def sP (P6:L3 (Addr->Int->L3 (L3 (Int->Int->WP))))(Q:L3 (Int->WP)):Nat->L3 (Addr->Int->L3 (Int->L3 (L3 (Int->Int->L3 (Int->Int->WP)))))
 |0=>λ_ _ _ _ _ _ _ _ _ _ _ _ _ _ _ _ _ _ _ _ _ _ _=>False
 |k+1=>λa b c d e f g i j l m n o p q r s t u v x y w=>xI P6 Q (sP P6 Q k) a b c d e f g i j l m n o p q r s t u v x y w
def zG (Q:L3 (Int->WP))(R6:L3 (Addr->Int->L3 (L3 (Int->Int->WP))))(a:OA)(b c:Nat)(d:Addr)(e:Int)(f:OA)(g i:Nat)(j:OA)(l m:Nat)(n o:Int)(w:World):Prop:=cond (decide (o<n)) (aJ o l<|wA j λp=>af .i64 (p.add (o.toNat*1)) w λq=>af .i64 (d.add 0) w λr=>af .i64 (d.add 1) w λs=>aA (d.add 2) w λt u v=>Il r s t u v q w λx y z a1 w=>∃k',sP R6 Q k' a b c d e f g i o x y z j l m n o a b c (b:Int) 0 w) (Q f g i 0 w)
def rA (Q:L3 (Int->WP)):Nat->L3 (Addr->Int->L3 (L3 (Int->Int->WP)))
 |0,_,_,_,_,_,_,_,_,_,_,_,_,_,_=>False
 |k+1,a,b,c,d,e,f,g,i,j,l,m,n,o,w=>zG Q (rA Q k) a b c d e f g i j l m n o w
def ab1 {P6}(Q)(H6:Bk 58 Tryz.f227 (De Q) 6 [(1,.l),(2,.a),(6,.i .i64),(7,.l),(24,.l),(25,.i .i64),(26,.i .i64)] P6):∀k,Bk 58 Tryz.f227 (De Q) 10 [(1,.l),(2,.a),(6,.i .i64),(7,.l),(8,.i .i64),(10,.l),(24,.l),(25,.i .i64),(26,.i .i64),(37,.l),(38,.i .i64),(39,.i .i64)] (sP P6 Q k):=bL λk h=>aU (ok 58) [] [aO H6,aO h]
def aeb (Q):∀k,Bk 58 Tryz.f227 (De Q) 6 [(1,.l),(2,.a),(6,.i .i64),(7,.l),(24,.l),(25,.i .i64),(26,.i .i64)] (rA Q k):=bL λk h=>aU (ok 58) [] [cq (ab1 Q h)]
def aae:=λa b c d e f g i w Q=>bB (Fp a b c d e f g i w Q) (Bx [ae a,ae b,.slice c d e] 84 w λj w=>af .i64 (j.add 0) w λl=>af .i64 (j.add 1) w λm=>aA (j.add 2) w λn o p=>GH l m n o p f g i w λq w=>cond (!q) (Q none 0 0 1 w) (cE P 29 (ae (IntKind.wrap .i64 ((g:Int)*(g:Int)))) (ae (IntKind.wrap .i64 ((g:Int)*(g:Int)))) w λr s t w=>∃k',rA Q k' f g i j (g:Int) r s t f g i (g:Int) 0 w)) (ok 58) [] [cq (aeb Q)] Tryz.func227
def qT (Q:Int->L3 (L3 WP))(R13:Addr->Addr->L3 (Int->Int->WP))(a b:Addr)(c:OA)(d e:Nat)(f g:Int)(w:World):Prop:=cond (decide (g<f)) (aJ g d<|wA c λi=>af .i64 (i.add (g.toNat*1)) w λj=>aA (b.add 2) w λl m n=>aJ g m<|wA l λo=>St (o.add (g.toNat*1)) (.int .i32 (-1)) w λw=>cond (j !=1099511627776) (aA (b.add 2) w λp q r=>aJ g q<|wA p λs=>St (s.add (g.toNat*1)) (.int .i32 (IntKind.wrap .i32 j)) w λw=>R13 a b c d e f (IntKind.wrap .i64 (g+1)) w) (R13 a b c d e f (IntKind.wrap .i64 (g+1)) w)) (af .i64 (b.add 0) w λt=>aA (b.add 1) w λu v x=>aA (b.add 2) w λy z a1=>St (a.add 0) (ae t) w λw=>St (a.add 1) (.slice u v x) w λw=>St (a.add 2) (.slice y z a1) w λw=>af .i64 (a.add 0) w λb1=>aA (a.add 1) w λc1 d1 e1=>aA (a.add 2) w λf1 g1 i1=>Q b1 c1 d1 e1 f1 g1 i1 w)
def lK (Q:Int->L3 (L3 WP)):Nat->Addr->Addr->L3 (Int->Int->WP)
 |0,_,_,_,_,_,_,_,_=>False
 |k+1,a,b,c,d,e,f,g,w=>qT Q (lK Q k) a b c d e f g w
def r_ (Q:Int->L3 (L3 WP))(R6:Addr->Int->Int->Addr->Addr->L3 (L3 (Int->Int->WP)))(a:Addr)(b c:Int)(d e:Addr)(f:OA)(g i:Nat)(j:OA)(l m:Nat)(n o:Int)(w:World):Prop:=cond (decide (o<n)) (aJ o l<|wA j λp=>af .i64 (p.add (o.toNat*1)) w λq=>nJ b c q w λr w=>Bx [ae r] 3 w λs w=>App P #[29,29] 29 (.slice f g i) (.slice (some s) 1 1) w λt u v w=>R6 a b c d e t u v j l m n (IntKind.wrap .i64 (o+1)) w) (af .i64 (d.add 0) w λx=>af .i64 (d.add 1) w λy=>aA (d.add 2) w λz a1 b1=>Fp x y z a1 b1 f g i w λc1 d1 e1 f1 w=>cE P 296 (ae (d1:Int)) (ae (d1:Int)) w λg1 i1 j1 w=>St (e.add 2) (.slice g1 i1 j1) w λw=>∃k',lK Q k' a e c1 d1 e1 (d1:Int) 0 w)
def oI (Q:Int->L3 (L3 WP)):Nat->Addr->Int->Int->Addr->Addr->L3 (L3 (Int->Int->WP))
 |0,_,_,_,_,_,_,_,_,_,_,_,_,_,_=>False
 |k+1,a,b,c,d,e,f,g,i,j,l,m,n,o,w=>r_ Q (oI Q k) a b c d e f g i j l m n o w
def sj (Q:Int->L3 (L3 WP))(a:Addr)(b c:Int)(d e:Addr)(w:World):Prop:=aA (e.add 1) w λf g i=>∃k',oI Q k' a b c d e none 0 0 f g i (g:Int) 0 w
noncomputable def wg:cz:=[(3,sp 0 5 (sp 6 5 (.br (.op 5 (.br (.op 11 (.op 12 (.op 13 (.op 14 .done)))) (.op 13 (.op 11 (.op 12 (.op 14 .done)))))) (.op 13 (.op 5 (.op 11 (.op 12 (.op 14 .done))))))))]
def U0 (Q):∀k,Bk 93 Tryz.f200 (xB Q) 13 [(4,.a),(9,.a),(72,.l),(73,.i .i64),(74,.i .i64)] (lK Q k):=bL λk h=>aU (ok 93) wg [aO h]
def Wd (Q):∀k,Bk 93 Tryz.f200 (xB Q) 6 [(4,.a),(5,.i .i64),(6,.i .i64),(7,.a),(9,.a),(10,.l),(48,.l),(49,.i .i64),(50,.i .i64)] (oI Q k):=bL λk h=>aU (ok 93) wg [aO h,cq (U0 Q)]
def We (Q):Bk 93 Tryz.f200 (xB Q) 4 [(4,.a),(5,.i .i64),(6,.i .i64),(7,.a),(9,.a)] (sj Q):=aU (ok 93) wg [cq (Wd Q)]
def SP:=λa b w Q=>bB (Ax a b w Q) (Al T 319 w λc w=>wA a λd=>bg d w λe=>eU e w λf g w=>wA a λi=>bg i w λj=>uA j b w λl m n o p q w=>Al T 84 w λr w=>St (r.add 0) (ae l) w λw=>St (r.add 1) (ae m) w λw=>St (r.add 2) (.slice n o p) w λw=>wA a λs=>bg s w.drew λt=>wA a λu=>bg u w.drew λv=>(jf t b w.drew λx w=>w.cell? u=some (.pointer v)/\(oC v b w λy z a1 w=>Al T 319 w λb1 w=>w.cell? u=some (.pointer v)/\w.cell? s=some (.pointer t)/\St (b1.add 0) (ae x) w λw=>St (b1.add 1) (.slice y z a1) w λw=>St (b1.add 2) (.slice none 0 0) w λw=>sj Q c f g r b1 w)/\(Al T 319 w λc1 w=>w.cell? u=some (.pointer v)/\w.cell? s=some (.pointer t)/\oC v b w λd1 e1 f1 w=>St (c1.add 0) (ae x) w λw=>St (c1.add 1) (.slice d1 e1 f1) w λw=>St (c1.add 2) (.slice none 0 0) w λw=>sj Q c f g r c1 w))/\(Al T 319 w.drew λg1 w=>w.cell? u=some (.pointer v)/\w.cell? s=some (.pointer t)/\jf t b w λi1 w=>w.cell? u=some (.pointer v)/\oC v b w λj1 l1 m1 w=>St (g1.add 0) (ae i1) w λw=>St (g1.add 1) (.slice j1 l1 m1) w λw=>St (g1.add 2) (.slice none 0 0) w λw=>sj Q c f g r g1 w)) (ok 93) wg [aO (We Q)] Tryz.func200
def oJ (Q:Int->WP)(R5:OA->L3 (L3 (Int->Int->WP)))(a b:OA)(c d:Nat)(e:OA)(f g:Nat)(i j:Int)(w:World):Prop:=cond (decide (j<i)) (aJ j f<|wA e λl=>af .i64 (l.add (j.toNat*1)) w λm=>wA a λn=>aA (n.add 1) w.drew λo p q=>Ax a m w.drew λr s t u v x y w=>w.cell? (n.add 1)=some (.slice o p q)/\(aJ m p<|wA o λz=>St ((z.add (m.toNat*3)).add 0) (ae r) w λw=>St ((z.add (m.toNat*3)).add 1) (.slice s t u) w λw=>St ((z.add (m.toNat*3)).add 2) (.slice v x y) w λw=>wA a λa1=>af .u64 (a1.add 3) w λb1=>sG b1 1 w λc1 w=>wA a λd1=>St (d1.add 3) (.int .u64 c1) w λw=>R5 a b c d e f g i (IntKind.wrap .i64 (j+1)) w)) (wA a λe1=>bg e1 w λf1=>gf f1 w λg1 w=>wA a λi1=>St (i1.add 2) (ae g1) w λw=>Q (c:Int) w)
def mz (Q:Int->WP):Nat->OA->L3 (L3 (Int->Int->WP))
 |0,_,_,_,_,_,_,_,_,_,_=>False
 |k+1,a,b,c,d,e,f,g,i,j,w=>oJ Q (mz Q k) a b c d e f g i j w
noncomputable def EB:cz:=[(7,sp 0 7 (.op 7 (.op 8 (.op 9 .done))))]
def QM (Q):∀k,Bk 44 Tryz.f177 (FO Q) 5 [(0,.p),(3,.l),(10,.l),(11,.i .i64),(12,.i .i64)] (mz Q k):=bL λk h=>aU (ok 44) EB [aO h]
def Nd:=λa w Q=>bB (wV a w Q) (cond a.isNone (Q 0 w) (zn a w λb c d w=>∃k',mz Q k' a b c d b c d (c:Int) 0 w)) (ok 44) EB [cq (QM Q)] Tryz.func177
def jI (Q:L3 WP)(R8:L3 (Int->WP))(a:OA)(b c:Nat)(d:Int)(w:World):Prop:=cond (decide (d<(b:Int))) (bT a b c 1 (some d) none λe f g=>bT a b c 1 none (some d) λi j l=>cK P #[296,296] 3 (.slice e f g) (.slice i j l) w.drew λm w=>R8 a b c (IntKind.wrap .i64 (d+m)) w) (Q a b c w)
def jJ (Q:L3 WP):Nat->L3 (Int->WP)
 |0,_,_,_,_,_=>False
 |k+1,a,b,c,d,w=>jI Q (jJ Q k) a b c d w
def qx (Q:L3 WP)(a:OA)(b c:Nat)(d:Int)(w:World):Prop:=False
noncomputable def pV:cz:=[(9,sp 0 7 (.op 7 (.op 8 (.op 9 .done))))]
def yE (Q):∀k,Bk 48 Tryz.f201 (qw Q) 8 [(7,.l),(8,.i .i64)] (jJ Q k):=bL λk h=>aU (ok 48) pV [aO h]
def HG (Q):Bk 48 Tryz.f201 (qw Q) 5 [(0,.l),(6,.i .u64)] (qx Q):=aU (ok 48) pV [cq (yE Q)]
def Gg:=λa b c d w Q=>bB (pA a b c d w Q) (cond (decide (d<0)) (False) (qO (IntKind.wrap .u64 (b:Int)) (IntKind.wrap .u64 d) w λe f w=>cond (decide (e>0)) (qx Q a b c f w) (cond (decide (f>9223372036854775807)) (qx Q a b c f w) (cE P 296 (ae (IntKind.wrap .i64 f)) (ae (IntKind.wrap .i64 f)) w λg i j w=>cK P #[296,296] 3 (.slice g i j) (.slice a b c) w λl w=>∃k',jJ Q k' g i j l w)))) (ok 48) pV [aO (HG Q),cq (yE Q)] Tryz.func201
def aec:=λw Q=>bB (Dd w Q) (Bx [.slice none 0 0] 351 w λa w=>Q (some a) w) (ok 3) [] [] Tryz.func202
def QN:=λa b c d w Q=>bB (sM a b c d w Q) (Bx [ae a,ae b] 353 w λe w=>Bx [ae c,ae d] 353 w λf w=>af .i64 e w λg=>af .i64 f w λi=>cond (decide (g<i)) (Q true w) (af .i64 e w λj=>af .i64 f w λl=>cond (j==l) (af .i64 (e.add 1) w λm=>af .i64 (f.add 1) w λn=>Q (decide (m<n)) w) (Q false w))) (ok 24) [] [] Tryz.func256
def vJ (Q:WP)(R1:OA->Int->WP)(a:OA)(b:Int)(w:World):Prop:=cond (decide (b>0)) (NZ 2<|wA a λc=>aA c w.drew λd e f=>aJ b e<|wA d λg=>af .i64 ((g.add (b.toNat*2)).add 0) w.drew λi=>af .i64 ((g.add (b.toNat*2)).add 1) w.drew λj=>wA a λl=>aA l w.drew λm n o=>aJ (IntKind.wrap .i64 (Int.tdiv (IntKind.wrap .i64 (b-1)) 2)) n<|wA m λp=>af .i64 ((p.add (((IntKind.wrap .i64 (Int.tdiv (IntKind.wrap .i64 (b-1)) 2))).toNat*2)).add 0) w.drew λq=>af .i64 ((p.add (((IntKind.wrap .i64 (Int.tdiv (IntKind.wrap .i64 (b-1)) 2))).toNat*2)).add 1) w.drew λr=>sM i j q r w.drew λs w=>cond (!s) (Q w) (wA a λt=>aA t w.drew λu v x=>wA a λy=>aA y w.drew λz a1 b1=>wA a λc1=>aA c1 w.drew λd1 e1 f1=>aJ (IntKind.wrap .i64 (Int.tdiv (IntKind.wrap .i64 (b-1)) 2)) e1<|wA d1 λg1=>af .i64 ((g1.add (((IntKind.wrap .i64 (Int.tdiv (IntKind.wrap .i64 (b-1)) 2))).toNat*2)).add 0) w.drew λi1=>af .i64 ((g1.add (((IntKind.wrap .i64 (Int.tdiv (IntKind.wrap .i64 (b-1)) 2))).toNat*2)).add 1) w.drew λj1=>wA a λl1=>aA l1 w.drew λm1 n1 o1=>aJ b n1<|wA m1 λp1=>af .i64 ((p1.add (b.toNat*2)).add 0) w.drew λq1=>af .i64 ((p1.add (b.toNat*2)).add 1) w.drew λr1=>aJ b v<|wA u λs1=>St ((s1.add (b.toNat*2)).add 0) (ae i1) w.drew λw=>St ((s1.add (b.toNat*2)).add 1) (ae j1) w λw=>aJ (IntKind.wrap .i64 (Int.tdiv (IntKind.wrap .i64 (b-1)) 2)) a1<|wA z λt1=>St ((t1.add (((IntKind.wrap .i64 (Int.tdiv (IntKind.wrap .i64 (b-1)) 2))).toNat*2)).add 0) (ae q1) w λw=>St ((t1.add (((IntKind.wrap .i64 (Int.tdiv (IntKind.wrap .i64 (b-1)) 2))).toNat*2)).add 1) (ae r1) w λw=>R1 a (IntKind.wrap .i64 (Int.tdiv (IntKind.wrap .i64 (b-1)) 2)) w)) (Q w)
def rB (Q:WP):Nat->OA->Int->WP
 |0,_,_,_=>False
 |k+1,a,b,w=>vJ Q (rB Q k) a b w
noncomputable def Ks:cz:=[(3,sp 0 14 (.op 14 (.op 15 .done))),(4,sp 0 25 (.op 25 (.op 26 (.op 27 .done))))]
def aaf (Q):∀k,Bk 58 Tryz.f228 (LN Q) 1 [(0,.p),(2,.i .i64)] (rB Q k):=bL λk h=>aU (ok 58) Ks [aO h]
def Wf:=λa w Q=>bB (Cu a w Q) (wA a λb=>aA b w λc d e=>∃k',rB Q k' a (IntKind.wrap .i64 ((d:Int)-1)) w) (ok 58) Ks [cq (aaf Q)] Tryz.func228
def SQ:=λa b c w Q=>bB (m9 a b c w Q) (cond a.isNone (Q w) (wA a λd=>aA d w λe f g=>Bx [ae b,ae c] 353 w λi w=>App P #[349,349] 349 (.slice e f g) (.slice (some i) 1 1) w λj l m w=>wA a λn=>St n (.slice j l m) w λw=>Cu a w λw=>Q w)) (ok 22) [] [] Tryz.func206
def U1:=λa w Q=>bB (Bv a w Q) (cond a.isNone (Q 0 w) (wA a λb=>aA b w λc d e=>Q (d:Int) w)) (ok 10) [] [] Tryz.func257
noncomputable def Wg:cz:=[(3,sp 0 14 (.op 14 (.op 15 (.op 16 .done))))]
def U2:=λa w Q=>bB (Bu a w Q) (Bv a w λb w=>cond (b==0) (Q 0 0 false w) (wA a λc=>aA c w.drew λd e f=>aJ 0 e<|wA d λg=>af .i64 (g.add (((0:Int).toNat)*2)) w.drew λi=>wA a λj=>aA j w.drew λl m n=>aJ 0 m<|wA l λo=>af .i64 ((o.add (((0:Int).toNat)*2)).add 1) w.drew λp=>w.drew.cell? ((o.add (((0:Int).toNat)*2)).add 1)=some (ae p)/\w.drew.cell? j=some (.slice l m n)/\Q i p true w.drew)) (ok 22) Wg [] Tryz.func229
def oK (P1:OA->Int->WP)(Q:WP)(a:OA)(b c:Int)(w:World):Prop:=cond (c==b) (Q w) (wA a λd=>aA d w.drew λe f g=>wA a λi=>aA i w.drew λj l m=>wA a λn=>aA n w.drew λo p q=>aJ c p<|wA o λr=>af .i64 ((r.add (c.toNat*2)).add 0) w.drew λs=>af .i64 ((r.add (c.toNat*2)).add 1) w.drew λt=>wA a λu=>aA u w.drew λv x y=>aJ b x<|wA v λz=>af .i64 ((z.add (b.toNat*2)).add 0) w.drew λa1=>af .i64 ((z.add (b.toNat*2)).add 1) w.drew λb1=>aJ b f<|wA e λc1=>St ((c1.add (b.toNat*2)).add 0) (ae s) w.drew λw=>St ((c1.add (b.toNat*2)).add 1) (ae t) w λw=>aJ c l<|wA j λd1=>St ((d1.add (c.toNat*2)).add 0) (ae a1) w λw=>St ((d1.add (c.toNat*2)).add 1) (ae b1) w λw=>P1 a c w)
def mL (P1:OA->Int->WP)(Q:WP)(R3:OA->Int->Int->Int->WP)(a:OA)(b c d:Int)(w:World):Prop:=cond (decide (d<=(IntKind.wrap .i64 ((IntKind.wrap .i64 (2*b))+2)))) (wA a λe=>aA e w λf g i=>cond (decide (d<(g:Int))) (wA a λj=>aA j w.drew λl m n=>aJ d m<|wA l λo=>af .i64 ((o.add (d.toNat*2)).add 0) w.drew λp=>af .i64 ((o.add (d.toNat*2)).add 1) w.drew λq=>wA a λr=>aA r w.drew λs t u=>aJ c t<|wA s λv=>af .i64 ((v.add (c.toNat*2)).add 0) w.drew λx=>af .i64 ((v.add (c.toNat*2)).add 1) w.drew λy=>sM p q x y w.drew λz w=>cond z (R3 a b d (IntKind.wrap .i64 (d+1)) w) (R3 a b c (IntKind.wrap .i64 (d+1)) w)) (oK P1 Q a b c w)) (oK P1 Q a b c w)
def mM (P1:OA->Int->WP)(Q:WP):Nat->OA->Int->Int->Int->WP
 |0,_,_,_,_,_=>False
 |k+1,a,b,c,d,w=>mL P1 Q (mM P1 Q k) a b c d w
def xJ (Q:WP)(R1:OA->Int->WP)(a:OA)(b:Int)(w:World):Prop:=∃k',mM R1 Q k' a b b (IntKind.wrap .i64 ((IntKind.wrap .i64 (2*b))+1)) w
def oL (Q:WP):Nat->OA->Int->WP
 |0,_,_,_=>False
 |k+1,a,b,w=>xJ Q (oL Q k) a b w
noncomputable def wj:cz:=[(5,sp 0 14 (.op 14 .done)),(8,sp 0 25 (.op 25 (.op 26 (.op 27 .done))))]
def Wh {P1}(Q)(H1:Bk 71 Tryz.f230 (oE Q) 1 [(0,.p),(2,.i .i64)] P1):Bk 71 Tryz.f230 (oE Q) 7 [(0,.p),(2,.i .i64),(3,.i .i64)] (oK P1 Q):=aU (ok 71) wj [aO H1]
def Wi {P1}(Q)(H1:Bk 71 Tryz.f230 (oE Q) 1 [(0,.p),(2,.i .i64)] P1):∀k,Bk 71 Tryz.f230 (oE Q) 3 [(0,.p),(2,.i .i64),(3,.i .i64),(4,.i .i64)] (mM P1 Q k):=bL λk h=>aU (ok 71) wj [aO h,aO (Wh Q H1)]
def Wj (Q):∀k,Bk 71 Tryz.f230 (oE Q) 1 [(0,.p),(2,.i .i64)] (oL Q k):=bL λk h=>aU (ok 71) wj [cq (Wi Q h)]
def SR:=λa w Q=>bB (AB a w Q) (∃k',oL Q k' a 0 w) (ok 71) wj [cq (Wj Q)] Tryz.func230
def yR (Q:Int->Int->Bool->WP)(a b:Int)(c:Bool)(w:World):Prop:=Q a b c w
noncomputable def Js:cz:=[(4,sp 0 12 (.op 12 .done))]
def YA (Q):Bk 45 Tryz.f207 (D5 Q) 7 [(2,.i .i64),(3,.i .i64),(4,.b)] (yR Q):=aU (ok 45) Js []
def U3:=λa w Q=>bB (jL a w Q) (Bu a w λb c d w=>cond d (wA a λe=>aA e w λf g i=>wA a λj=>aA j w.drew λl m n=>wA a λo=>aA o w.drew λp q r=>aJ (IntKind.wrap .i64 ((g:Int)-1)) q<|wA p λs=>af .i64 ((s.add (((IntKind.wrap .i64 ((g:Int)-1))).toNat*2)).add 0) w.drew λt=>af .i64 ((s.add (((IntKind.wrap .i64 ((g:Int)-1))).toNat*2)).add 1) w.drew λu=>aJ 0 m<|wA l λv=>St ((v.add (((0:Int).toNat)*2)).add 0) (ae t) w.drew λw=>St ((v.add (((0:Int).toNat)*2)).add 1) (ae u) w λw=>wA a λx=>aA x w λy z a1=>bT y z a1 2 none (some (IntKind.wrap .i64 ((g:Int)-1))) λb1 c1 d1=>wA a λe1=>St e1 (.slice b1 c1 d1) w λw=>AB a w λw=>yR Q b c d w) (yR Q b c d w)) (ok 45) Js [aO (YA Q)] Tryz.func207
def nC (P8:OA->Int->Int->Int->ON->OA->Int->Int->Bool->WP)(Q:ON->WP)(a:OA)(b c d:Int)(e:ON)(f:OA)(w:World):Prop:=jL f w λg i j w=>P8 a b c d e f g i j w
def mN (P8:OA->Int->Int->Int->ON->OA->Int->Int->Bool->WP)(Q:ON->WP)(Y5:OA->Int->Int->Int->ON->OA->Int->Int->Int->WP)(a:OA)(b c d:Int)(e:ON)(f:OA)(g i j:Int)(w:World):Prop:=cond (decide (j<=3)) (mF c d i j w λl w=>cond (decide (l<0)) (Y5 a b c d e f g i (IntKind.wrap .i64 (j+1)) w) (d_ c d l w λm w=>d_ c d b w λn w=>cond (m !=n) (Y5 a b c d e f g i (IntKind.wrap .i64 (j+1)) w) (wA a λo=>bg (o.add 1) w λp=>fg p l w λq w=>cond (q==255) (Y5 a b c d e f g i (IntKind.wrap .i64 (j+1)) w) (wA a λr=>bg (r.add 1) w λs=>fg s i w λt w=>m9 f (IntKind.wrap .i64 (g+t)) l w λw=>Y5 a b c d e f g i (IntKind.wrap .i64 (j+1)) w)))) (nC P8 Q a b c d e f w)
def iO (P8:OA->Int->Int->Int->ON->OA->Int->Int->Bool->WP)(Q:ON->WP):Nat->OA->Int->Int->Int->ON->OA->Int->Int->Int->WP
 |0,_,_,_,_,_,_,_,_,_,_=>False
 |k+1,a,b,c,d,e,f,g,i,j,w=>mN P8 Q (iO P8 Q k) a b c d e f g i j w
def jh (Q:ON->WP)(R8:OA->Int->Int->Int->ON->OA->Int->Int->Bool->WP)(a:OA)(b c d:Int)(e:ON)(f:OA)(g i:Int)(j:Bool)(w:World):Prop:=cond j (aN P (Instr.lookup 207 (.map e) (ae i) true) w λl w=>dT l λm=>dJ m λn o=>dI .i64 n λp=>dJ o λq r=>dB q λs=>kU r<|cond s (nC R8 Q a b c d e f w) (bG P (Instr.mapUpdate 207 (.map e) (ae i) (ae g)) w λw=>∃k',iO R8 Q k' a b c d e f g i 0 w)) (Q e w)
def ji (Q:ON->WP):Nat->OA->Int->Int->Int->ON->OA->Int->Int->Bool->WP
 |0,_,_,_,_,_,_,_,_,_,_=>False
 |k+1,a,b,c,d,e,f,g,i,j,w=>jh Q (ji Q k) a b c d e f g i j w
def DR {P8}(Q)(H8:Bk 103 Tryz.f203 (kG Q) 8 [(0,.p),(1,.i .i64),(5,.i .i64),(6,.i .i64),(7,.m),(8,.p),(9,.i .i64),(10,.i .i64),(11,.b)] P8):Bk 103 Tryz.f203 (kG Q) 9 [(0,.p),(1,.i .i64),(5,.i .i64),(6,.i .i64),(7,.m),(8,.p)] (nC P8 Q):=aU (ok 103) [] [aO H8]
def LV {P8}(Q)(H8:Bk 103 Tryz.f203 (kG Q) 8 [(0,.p),(1,.i .i64),(5,.i .i64),(6,.i .i64),(7,.m),(8,.p),(9,.i .i64),(10,.i .i64),(11,.b)] P8):∀k,Bk 103 Tryz.f203 (kG Q) 14 [(0,.p),(1,.i .i64),(5,.i .i64),(6,.i .i64),(7,.m),(8,.p),(9,.i .i64),(10,.i .i64),(14,.i .i64)] (iO P8 Q k):=bL λk h=>aU (ok 103) [] [aO (DR Q H8),aO h]
def Nf (Q):∀k,Bk 103 Tryz.f203 (kG Q) 8 [(0,.p),(1,.i .i64),(5,.i .i64),(6,.i .i64),(7,.m),(8,.p),(9,.i .i64),(10,.i .i64),(11,.b)] (ji Q k):=bL λk h=>aU (ok 103) [] [aO (DR Q h),cq (LV Q h)]
def KT:=λa b w Q=>bB (uD a b w Q) (wA a λc=>bg (c.add 1) w λd=>eU d w λe f w=>cB P 207 none w λg w=>wA a λi=>bg (i.add 1) w λj=>fg j b w λl w=>cond (l==255) (Q g w) (Dd w λm w=>m9 m 0 b w λw=>jL m w λn o p w=>∃k',ji Q k' a b e f g m n o p w)) (ok 103) [] [cq (Nf Q)] Tryz.func203
def Ka:=λa b c w Q=>bB (kX a b c w Q) (cond a.isNone (Q none 0 0 w) (Bx [] 3 w λd w=>App P #[29,29] 29 (.slice (some d) 0 0) (.slice a b c) w λe f g w=>Q e f g w)) (ok 8) [] [] Tryz.func215
def QS:=λa b w Q=>bB (zo a b w Q) (cond a.isNone (Q none 0 0 w) (cond (decide (b<0)) (Q none 0 0 w) (wA a λc=>aA (c.add 1) w λd e f=>cond (decide (b≥(e:Int))) (Q none 0 0 w) (wA a λg=>aA (g.add 1) w λi j l=>aJ b j<|wA i λm=>aA ((m.add (b.toNat*3)).add 1) w λn o p=>kX n o p w λq r s w=>Q q r s w)))) (ok 29) [] [] Tryz.func204
def O4:=λa b c w Q=>bB (rN a b c w Q) (wA a λd=>aA (d.add 2) w λe f g=>aJ b f<|wA e λi=>af .i32 (i.add (b.toNat*1)) w λj=>cond (decide (c≥(IntKind.wrap .i64 j))) (Q false w) (wA a λl=>aA (l.add 2) w λm n o=>aJ b n<|wA m λp=>St (p.add (b.toNat*1)) (.int .i32 (IntKind.wrap .i32 c)) w λw=>Q true w)) (ok 25) [] [] Tryz.func205
def Wk:=λa b w Q=>bB (Jl a b w Q) (qQ a w λc w=>cond c (qQ b w λd w=>cond (!d) (Q true w) (Q (decide (a<b)) w)) (Q (decide (a<b)) w)) (ok 17) [] [] Tryz.func280
def O5:=λa w Q=>bB (n6 a w Q) (Q (a !=a) w) (ok 6) [] [] Tryz.func281
def i_ (Q:Int->Bool->WP)(R3:L3 (Int->Int->Int->Int->WP))(a:OA)(b c:Nat)(d e f g:Int)(w:World):Prop:=cond (decide (f<g)) (En 1<|aJ (IntKind.wrap .i64 (pE .u64 (IntKind.wrap .u64 (IntKind.wrap .i64 (f+g))) 1)) b<|wA a λi=>af .i64 (i.add (((IntKind.wrap .i64 (pE .u64 (IntKind.wrap .u64 (IntKind.wrap .i64 (f+g))) 1))).toNat*1)) w λj=>Jl j d w λl w=>cond l (R3 a b c d e (IntKind.wrap .i64 ((IntKind.wrap .i64 (pE .u64 (IntKind.wrap .u64 (IntKind.wrap .i64 (f+g))) 1))+1)) g w) (R3 a b c d e f (IntKind.wrap .i64 (pE .u64 (IntKind.wrap .u64 (IntKind.wrap .i64 (f+g))) 1)) w)) (cond (decide (f<e)) (aJ f b<|wA a λm=>af .i64 (m.add (f.toNat*1)) w λn=>cond (n==d) (Q f true w) (aJ f b<|wA a λo=>af .i64 (o.add (f.toNat*1)) w λp=>n6 p w λq w=>cond q (n6 d w λr w=>Q f r w) (Q f false w))) (Q f false w))
def gG (Q:Int->Bool->WP):Nat->L3 (Int->Int->Int->Int->WP)
 |0,_,_,_,_,_,_,_,_=>False
 |k+1,a,b,c,d,e,f,g,w=>i_ Q (gG Q k) a b c d e f g w
def Gh (Q):∀k,Bk 54 Tryz.f271 (wC Q) 3 [(0,.l),(1,.i .i64),(6,.i .i64),(7,.i .i64),(8,.i .i64)] (gG Q k):=bL λk h=>aU (ok 54) [] [aO h]
def EC:=λa b c d w Q=>bB (nZ a b c d w Q) (∃k',gG Q k' a b c d (b:Int) 0 (b:Int) w) (ok 54) [] [cq (Gh Q)] Tryz.func271
def QT:=λa b w Q=>bB (FT a b w Q) (wA a λc=>aA (c.add 1) w λd e f=>nZ d e f b w λg i w=>Q g i w) (ok 14) [] [] Tryz.func258
def SS:=λa b w Q=>bB (uF a b w Q) (cond a.isNone (Q none 0 false w) (wA a λc=>bg c w λd=>eU d w λe f w=>d_ e f b w λg w=>cond (decide (g<0)) (Q none 0 false w) (wA a λi=>aA (i.add 1) w λj l m=>aJ g l<|wA j λn=>FT (some (n.add (g.toNat*3))) b w λo p w=>Q (some (n.add (g.toNat*3))) o p w))) (ok 44) [] [] Tryz.func231
noncomputable def O6:cz:=[(1,sp 0 15 (.op 15 .done))]
def Ng:=λa b c w Q=>bB (wW a b c w Q) (wA a λd=>aA (d.add 2) w.drew λe f g=>wA a λi=>aA (i.add 1) w.drew λj l m=>aJ (IntKind.wrap .i64 ((IntKind.wrap .i64 (b*(l:Int)))+c)) f<|wA e λn=>af .i32 (n.add (((IntKind.wrap .i64 ((IntKind.wrap .i64 (b*(l:Int)))+c))).toNat*1)) w.drew λo=>cond (o !=(-1)) (Q (IntKind.wrap .i64 o) w.drew) (Q 1099511627776 w.drew)) (ok 27) O6 [] Tryz.func232
def qU (Q:L3 WP)(Y5:OA->Int->OA->L3 (Int->Int->Int->WP))(a:OA)(b:Int)(c d:OA)(e f:Nat)(g i j:Int)(w:World):Prop:=cond (decide (j<=3)) (mF g i b j w λl w=>uF a l w λm n o w=>cond o (bV P .neq 354 (.tmp 89) (.tmp 90) (.pointer m) (.pointer c) w λp w=>cond p (wA a λq=>bg q w λr=>fg r b w λs w=>Bx [ae l,ae s] 292 w λt w=>App P #[289,289] 289 (.slice d e f) (.slice (some t) 1 1) w λu v x w=>Y5 a b c u v x g i (IntKind.wrap .i64 (j+1)) w) (Y5 a b c d e f g i (IntKind.wrap .i64 (j+1)) w)) (Y5 a b c d e f g i (IntKind.wrap .i64 (j+1)) w)) (Q d e f w)
def lN (Q:L3 WP):Nat->OA->Int->OA->L3 (Int->Int->Int->WP)
 |0,_,_,_,_,_,_,_,_,_,_=>False
 |k+1,a,b,c,d,e,f,g,i,j,w=>qU Q (lN Q k) a b c d e f g i j w
def sq (Q:L3 WP)(R6:OA->Int->OA->Int->L3 (L3 (Int->Int->WP)))(a:OA)(b:Int)(c:OA)(d:Int)(e:OA)(f g:Nat)(i:OA)(j l:Nat)(m n:Int)(w:World):Prop:=cond (decide (n<m)) (aJ n j<|wA i λo=>af .i64 (o.add (n.toNat*1)) w λp=>wW c n d w λq w=>cond (n !=d) (cond (q !=1099511627776) (Bx [ae p,ae q] 292 w λr w=>App P #[289,289] 289 (.slice e f g) (.slice (some r) 1 1) w λs t u w=>R6 a b c d s t u i j l m (IntKind.wrap .i64 (n+1)) w) (R6 a b c d e f g i j l m (IntKind.wrap .i64 (n+1)) w)) (R6 a b c d e f g i j l m (IntKind.wrap .i64 (n+1)) w)) (wA a λv=>bg v w λx=>eU x w λy z w=>∃k',lN Q k' a b c e f g y z 0 w)
def mO (Q:L3 WP):Nat->OA->Int->OA->Int->L3 (L3 (Int->Int->WP))
 |0,_,_,_,_,_,_,_,_,_,_,_,_,_=>False
 |k+1,a,b,c,d,e,f,g,i,j,l,m,n,w=>sq Q (mO Q k) a b c d e f g i j l m n w
def U4 (Q):∀k,Bk 105 Tryz.f208 (Cs Q) 14 [(0,.p),(1,.i .i64),(5,.p),(8,.l),(12,.i .i64),(13,.i .i64),(14,.i .i64)] (lN Q k):=bL λk h=>aU (ok 105) [] [aO h]
def Wl (Q):∀k,Bk 105 Tryz.f208 (Cs Q) 6 [(0,.p),(1,.i .i64),(5,.p),(6,.i .i64),(8,.l),(38,.l),(39,.i .i64),(40,.i .i64)] (mO Q k):=bL λk h=>aU (ok 105) [] [aO h,cq (U4 Q)]
def SU:=λa b w Q=>bB (Ay a b w Q) (uF a b w λc d e w=>cond (!e) (Q none 0 0 w) (wA c λf=>aA (f.add 1) w λg i j=>cE P 289 (ae 0) (ae (IntKind.wrap .i64 ((i:Int)+1))) w λl m n w=>wA c λo=>aA (o.add 1) w λp q r=>∃k',mO Q k' a b c d l m n p q r (q:Int) 0 w)) (ok 105) [] [cq (Wl Q)] Tryz.func208
def mP (tP:OA->Addr->OA->Int->Int->Bool->WP)(Q:OA->WP)(a:OA)(b:Addr)(c:OA)(w:World):Prop:=jL c w λd e f w=>tP a b c d e f w
def mQ (tP:OA->Addr->OA->Int->Int->Bool->WP)(Q:OA->WP)(R17:OA->Addr->OA->Int->L3 (Int->Int->WP))(a:OA)(b:Addr)(c:OA)(d:Int)(e:OA)(f g:Nat)(i j:Int)(w:World):Prop:=cond (decide (j<i)) (aJ j f<|wA e λl=>af .i64 ((l.add (j.toNat*2)).add 0) w λm=>af .i64 ((l.add (j.toNat*2)).add 1) w λn=>Al T 292 w λo w=>St (o.add 0) (ae m) w λw=>St (o.add 1) (ae n) w λw=>af .i64 o w λp=>af .i64 (o.add 1) w λq=>rN (some b) p (IntKind.wrap .i64 (d+q)) w λr w=>cond r (af .i64 (o.add 1) w λs=>af .i64 o w λt=>m9 c (IntKind.wrap .i64 (d+s)) t w λw=>R17 a b c d e f g i (IntKind.wrap .i64 (j+1)) w) (R17 a b c d e f g i (IntKind.wrap .i64 (j+1)) w)) (mP tP Q a b c w)
def jX (tP:OA->Addr->OA->Int->Int->Bool->WP)(Q:OA->WP):Nat->OA->Addr->OA->Int->L3 (Int->Int->WP)
 |0,_,_,_,_,_,_,_,_,_,_=>False
 |k+1,a,b,c,d,e,f,g,i,j,w=>mQ tP Q (jX tP Q k) a b c d e f g i j w
def iP (Q:OA->WP)(R13:OA->Addr->OA->Int->Int->Bool->WP)(a:OA)(b:Addr)(c:OA)(d e:Int)(f:Bool)(w:World):Prop:=cond f (aA (b.add 2) w λg i j=>aJ e i<|wA g λl=>af .i32 (l.add (e.toNat*1)) w λm=>cond (decide (d>(IntKind.wrap .i64 m))) (mP R13 Q a b c w) (wA a λn=>bg n w λo=>Ay o e w λp q r w=>∃k',jX R13 Q k' a b c d p q r (q:Int) 0 w)) (Q (some b) w)
def iQ (Q:OA->WP):Nat->OA->Addr->OA->Int->Int->Bool->WP
 |0,_,_,_,_,_,_,_=>False
 |k+1,a,b,c,d,e,f,w=>iP Q (iQ Q k) a b c d e f w
def nD (Q:OA->WP)(R6:OA->Addr->OA->ON->L3 (Int->Int->WP))(a:OA)(b:Addr)(c:OA)(d:ON)(e:OA)(f g:Nat)(i j:Int)(w:World):Prop:=cond (decide (j<i)) (aJ j f<|wA e λl=>af .i64 (l.add (j.toNat*1)) w λm=>aN P (Instr.lookup 207 (.map d) (ae m) true) w λn w=>dT n λo=>dJ o λp q=>dI .i64 p λr=>dJ q λs t=>dB s λu=>kU t<|cond u (rN (some b) m r w λv w=>cond v (m9 c r m w λw=>R6 a b c d e f g i (IntKind.wrap .i64 (j+1)) w) (R6 a b c d e f g i (IntKind.wrap .i64 (j+1)) w)) (R6 a b c d e f g i (IntKind.wrap .i64 (j+1)) w)) (jL c w λx y z w=>∃k',iQ Q k' a b c x y z w)
def jj (Q:OA->WP):Nat->OA->Addr->OA->ON->L3 (Int->Int->WP)
 |0,_,_,_,_,_,_,_,_,_,_=>False
 |k+1,a,b,c,d,e,f,g,i,j,w=>nD Q (jj Q k) a b c d e f g i j w
noncomputable def mR:cz:=[(5,sp 0 7 (.op 10 (.op 7 (.op 8 (.op 9 .done)))))]
def CH {tP}(Q)(H13:Bk 128 Tryz.f178 (jg Q) 13 [(0,.p),(7,.a),(8,.p),(14,.i .i64),(15,.i .i64),(16,.b)] tP):Bk 128 Tryz.f178 (jg Q) 14 [(0,.p),(7,.a),(8,.p)] (mP tP Q):=aU (ok 128) mR [aO H13]
def LW {tP}(Q)(H13:Bk 128 Tryz.f178 (jg Q) 13 [(0,.p),(7,.a),(8,.p),(14,.i .i64),(15,.i .i64),(16,.b)] tP):∀k,Bk 128 Tryz.f178 (jg Q) 17 [(0,.p),(7,.a),(8,.p),(14,.i .i64),(104,.l),(105,.i .i64),(106,.i .i64)] (jX tP Q k):=bL λk h=>aU (ok 128) mR [aO (CH Q H13),aO h]
def LX (Q):∀k,Bk 128 Tryz.f178 (jg Q) 13 [(0,.p),(7,.a),(8,.p),(14,.i .i64),(15,.i .i64),(16,.b)] (iQ Q k):=bL λk h=>aU (ok 128) mR [aO (CH Q h),cq (LW Q h)]
def Nh (Q):∀k,Bk 128 Tryz.f178 (jg Q) 6 [(0,.p),(7,.a),(8,.p),(9,.m),(52,.l),(53,.i .i64),(54,.i .i64)] (jj Q k):=bL λk h=>aU (ok 128) mR [aO h,cq (LX Q)]
def KU:=λa b w Q=>bB (uB a b w Q) (wA a λc=>bg (c.add 1) w λd=>eU d w λe f w=>wA a λg=>bg (g.add 1) w λi=>gf i w λj w=>Bx [.int .i32 2147483647] 21 w λl w=>pA (some l) 1 1 (IntKind.wrap .i64 (e*f)) w λm n o w=>Bx [ae b,ae j,.slice m n o] 298 w λp w=>Dd w λq w=>uD a b w λr w=>wA a λs=>bg s w.drew λt=>d_ e f b w.drew λu w=>w.cell? s=some (.pointer t)/\zo t u w λv x y w=>∃k',jj Q k' a p q r v x y (x:Int) 0 w) (ok 128) mR [cq (Nh Q)] Tryz.func178
def zH (Q:OA->WP)(a:OA)(w:World):Prop:=wA a λb=>bg (b.add 2) w λc=>Q c w
def oM (Q:OA->WP)(a:OA)(b:Int)(w:World):Prop:=uB a b w λc w=>wA a λd=>St (d.add 2) (.pointer c) w λw=>wA a λe=>af .u64 (e.add 3) w λf=>sG f 1 w λg w=>wA a λi=>St (i.add 3) (.int .u64 g) w λw=>zH Q a w
noncomputable def yA:cz:=[(4,sp 0 28 (.op 28 (sp 29 2 .done)))]
def FY (Q):Bk 70 Tryz.f163 (zl Q) 7 [(0,.p)] (zH Q):=aU (ok 70) yA []
def QU (Q):Bk 70 Tryz.f163 (zl Q) 5 [(0,.p),(1,.i .i64)] (oM Q):=aU (ok 70) yA [aO (FY Q)]
def Ni:=λa b w Q=>bB (wT a b w Q) (cond a.isNone (Q none w) (wA a λc=>bg (c.add 1) w λd=>fg d b w λe w=>cond (e==0) (Q none w) (wA a λf=>bg f w λg=>wV g w λi w=>wA a λj=>bg (j.add 2) w.drew λl=>cond l.isNone (oM Q a b w.drew) (wA a λm=>bg (m.add 2) w.drew λn=>wA n λo=>af .i64 o w.drew λp=>cond (p !=b) (oM Q a b w.drew) (wA a λq=>bg (q.add 2) w.drew λr=>wA r λs=>af .i64 (s.add 1) w.drew λt=>wA a λu=>bg (u.add 1) w.drew λv=>gf v w.drew λx w=>w.cell? (s.add 1)=some (ae t)/\w.cell? (q.add 2)=some (.pointer r)/\cond (t !=x) (oM Q a b w) (zH Q a w)))))) (ok 70) yA [aO (QU Q),aO (FY Q)] Tryz.func163
def xK (Q:WP)(a:OA)(b:Addr)(w:World):Prop:=af .i64 (b.add 3) w λc=>cond (c==(-1)) (af .i64 (b.add 2) w λd=>wA a λe=>St (e.add 4) (ae d) w λw=>Q w) (wA a λf=>aA (f.add 1) w.drew λg i j=>af .i64 (b.add 3) w.drew λl=>af .i64 (b.add 2) w.drew λm=>aJ l i<|wA g λn=>St ((n.add (l.toNat*4)).add 2) (ae m) w.drew λw=>Q w)
noncomputable def HP:cz:=[(3,sp 0 10 (.op 10 .done)),(6,sp 0 10 (.op 10 .done))]
def Wm (Q):Bk 48 Tryz.f212 (Jk Q) 4 [(0,.p),(4,.a)] (xK Q):=aU (ok 48) HP []
def SV:=λa b w Q=>bB (uE a b w Q) (wA a λc=>aA (c.add 1) w λd e f=>aJ b e<|wA d λg=>af .i64 ((g.add (b.toNat*4)).add 0) w λi=>af .i64 ((g.add (b.toNat*4)).add 1) w λj=>af .i64 ((g.add (b.toNat*4)).add 2) w λl=>af .i64 ((g.add (b.toNat*4)).add 3) w λm=>Al T 334 w λn w=>St (n.add 0) (ae i) w λw=>St (n.add 1) (ae j) w λw=>St (n.add 2) (ae l) w λw=>St (n.add 3) (ae m) w λw=>af .i64 (n.add 2) w λo=>cond (o==(-1)) (af .i64 (n.add 3) w λp=>wA a λq=>St (q.add 3) (ae p) w λw=>xK Q a n w) (wA a λr=>aA (r.add 1) w.drew λs t u=>af .i64 (n.add 2) w.drew λv=>af .i64 (n.add 3) w.drew λx=>aJ v t<|wA s λy=>St ((y.add (v.toNat*4)).add 3) (ae x) w.drew λw=>xK Q a n w)) (ok 48) HP [aO (Wm Q)] Tryz.func212
def AK (Q:WP)(a:OA)(b:Int)(w:World):Prop:=wA a λc=>St (c.add 3) (ae b) w λw=>Q w
noncomputable def Kt:cz:=[(0,sp 0 16 (.op 16 (sp 17 2 (.op 19 .done)))),(3,sp 0 11 (.op 11 .done))]
def aag (Q):Bk 46 Tryz.f213 (LK Q) 4 [(0,.p),(1,.i .i64)] (AK Q):=aU (ok 46) Kt []
def Wn:=λa b w Q=>bB (xC a b w Q) (wA a λc=>aA (c.add 1) w.drew λd e f=>wA a λg=>aA (g.add 1) w.drew λi j l=>wA a λm=>af .i64 (m.add 3) w.drew λn=>aJ b e<|wA d λo=>St ((o.add (b.toNat*4)).add 2) (ae (-1)) w.drew λw=>aJ b j<|wA i λp=>St ((p.add (b.toNat*4)).add 3) (ae n) w λw=>wA a λq=>af .i64 (q.add 3) w λr=>cond (r==(-1)) (wA a λs=>St (s.add 4) (ae b) w λw=>AK Q a b w) (wA a λt=>aA (t.add 1) w.drew λu v x=>wA a λy=>af .i64 (y.add 3) w.drew λz=>aJ z v<|wA u λa1=>St ((a1.add (z.toNat*4)).add 2) (ae b) w.drew λw=>AK Q a b w)) (ok 46) Kt [aO (aag Q)] Tryz.func213
def ox (Q:Int->Bool->Bool->WP)(a:OA)(b:Int)(c d:Bool)(e:Addr)(w:World):Prop:=wA a λf=>cy (f.add 2) w.drew λg=>af .i64 (e.add 0) w.drew λi=>af .i64 (e.add 1) w.drew λj=>bG P (Instr.mapUpdate 180 (.map g) (.agg #[ae i,ae j]) (ae b)) w.drew λw=>xC a b w λw=>Q b c d w
noncomputable def LY:cz:=[(4,sp 0 5 (.op 5 (sp 6 3 (.op 9 (.op 10 .done))))),(7,sp 0 12 (.op 12 .done)),(8,sp 0 8 (.op 8 .done)),(11,sp 0 10 (.op 10 .done)),(13,sp 0 7 (.op 7 (.op 8 (sp 9 2 (.op 11 .done))))),(14,sp 0 6 (.op 6 .done))]
def aah (Q):Bk 95 Tryz.f180 (NP Q) 14 [(0,.p),(6,.i .i64),(7,.b),(8,.b),(9,.a)] (ox Q):=aU (ok 95) LY []
def YB:=λa b c w Q=>bB (D1 a b c w Q) (cond a.isNone (Q (-1) false false w) (Al T 253 w λd w=>St (d.add 0) (ae b) w λw=>St (d.add 1) (ae c) w λw=>wA a λe=>cy (e.add 2) w.drew λf=>af .i64 (d.add 0) w.drew λg=>af .i64 (d.add 1) w.drew λi=>aN P (Instr.lookup 180 (.map f) (.agg #[ae g,ae i]) true) w.drew λj w=>dT j λl=>dJ l λm n=>dI .i64 m λo=>dJ n λp q=>dB p λr=>kU q<|cond r (uE a o w λw=>ox Q a o r false d w) (wA a λs=>aA (s.add 1) w.drew λt u v=>wA a λx=>af .i64 x w.drew λy=>cond (decide ((u:Int)<y)) (wA a λz=>aA (z.add 1) w.drew λa1 b1 c1=>wA a λd1=>aA (d1.add 1) w.drew.drew λe1 f1 g1=>af .i64 (d.add 0) w.drew.drew λi1=>af .i64 (d.add 1) w.drew.drew λj1=>Bx [ae i1,ae j1,ae 0,ae 0] 334 w.drew.drew λl1 w=>w.cell? (d1.add 1)=some (.slice e1 f1 g1)/\App P #[179,179] 179 (.slice e1 f1 g1) (.slice (some l1) 1 1) w λm1 n1 o1 w=>wA a λp1=>St (p1.add 1) (.slice m1 n1 o1) w λw=>ox Q a (b1:Int) r false d w) (wA a λq1=>af .i64 (q1.add 4) w.drew λr1=>uE a r1 w.drew λw=>wA a λs1=>cy (s1.add 2) w.drew λt1=>wA a λu1=>aA (u1.add 1) w.drew λv1 x1 y1=>aJ r1 x1<|wA v1 λz1=>af .i64 ((z1.add (r1.toNat*4)).add 0) w.drew λa2=>af .i64 ((z1.add (r1.toNat*4)).add 1) w.drew λb2=>aN P (Builtin.delete_ #[180,253] 0 [.map t1,.agg #[ae a2,ae b2]].toArray) w.drew λc2 w=>wA a λd2=>aA (d2.add 1) w.drew λe2 f2 g2=>af .i64 (d.add 0) w.drew λi2=>af .i64 (d.add 1) w.drew λj2=>aJ r1 f2<|wA e2 λl2=>St ((l2.add (r1.toNat*4)).add 0) (ae i2) w.drew λw=>St ((l2.add (r1.toNat*4)).add 1) (ae j2) w λw=>ox Q a r1 r true d w)))) (ok 95) LY [aO (aah Q)] Tryz.func180
def ij (Q:Bool->WP)(R4:L3 (L3 (Int->Int->WP)))(a:OA)(b c:Nat)(d:OA)(e f:Nat)(g i:Int)(w:World):Prop:=cond (decide (i<g)) (aJ i b<|wA a λj=>af .i64 ((j.add (i.toNat*3)).add 0) w.drew λl=>af .i64 ((j.add (i.toNat*3)).add 1) w.drew λm=>af .i64 ((j.add (i.toNat*3)).add 2) w.drew λn=>aJ i e<|wA d λo=>af .i64 ((o.add (i.toNat*3)).add 0) w.drew λp=>af .i64 ((o.add (i.toNat*3)).add 1) w.drew λq=>af .i64 ((o.add (i.toNat*3)).add 2) w.drew λr=>bV P .neq 294 (.tmp 19) (.tmp 23) (.agg #[ae l,ae m,ae n]) (.agg #[ae p,ae q,ae r]) w.drew λs w=>cond s (Q false w) (R4 a b c d e f g (IntKind.wrap .i64 (i+1)) w)) (Q true w)
def fT (Q:Bool->WP):Nat->L3 (L3 (Int->Int->WP))
 |0,_,_,_,_,_,_,_,_,_=>False
 |k+1,a,b,c,d,e,f,g,i,w=>ij Q (fT Q k) a b c d e f g i w
noncomputable def sQ:cz:=[(6,sp 0 8 (.op 8 .done))]
def Ea (Q):∀k,Bk 26 Tryz.f214 (tJ Q) 4 [(0,.l),(1,.l),(12,.i .i64),(13,.i .i64)] (fT Q k):=bL λk h=>aU (ok 26) sQ [aO h]
def CI:=λa b c d e f w Q=>bB (r7 a b c d e f w Q) (cond ((b:Int) !=(e:Int)) (Q false w) (∃k',fT Q k' a b c d e f (b:Int) 0 w)) (ok 26) sQ [cq (Ea Q)] Tryz.func214
def aai:=λa b c d e f w Q=>bB (Fk a b c d e f w Q) (r7 a b c d e f w λg w=>Q g w) (ok 8) [] [] Tryz.func181
def ab2:=λa w Q=>bB (sK a w Q) (wA a λb=>af .u64 b w λc=>sG c 1 w λd w=>wA a λe=>St e (.int .u64 d) w λw=>Q w) (ok 8) [] [] Tryz.func182
noncomputable def aed:cz:=[(1,sp 0 2 (sp 3 2 (.op 2 (.op 5 (.op 6 (.op 7 .done))))))]
def ab3:=λa b c d e f w Q=>bB (BN a b c d e f w Q) (Bx [.slice a b c,.slice d e f] 213 w λg w=>Al T 213 w λi w=>aA g w.drew λj l m=>aA (g.add 1) w.drew λn o p=>kX j l m w.drew λq r s w=>w.cell? (g.add 1)=some (.slice n o p)/\kX n o p w λt u v w=>St (i.add 0) (.slice q r s) w λw=>St (i.add 1) (.slice t u v) w λw=>aA (i.add 0) w λx y z=>aA (i.add 1) w λa1 b1 c1=>Q x y z a1 b1 c1 w) (ok 10) aed [] Tryz.func183
def Du (P3:Int->Int->Int->Bool->L3 (Int->Int->WP))(Q:Int->WP)(a b:Int)(c:Addr)(d:OA)(e f:Nat)(g i:Int)(w:World):Prop:=af .i64 (c.add 2) w λj=>P3 a b j true d e f g (IntKind.wrap .i64 (i+1)) w
def zI (Q:Int->WP)(R3:Int->Int->Int->Bool->L3 (Int->Int->WP))(a b c:Int)(d:Bool)(e:OA)(f g:Nat)(i j:Int)(w:World):Prop:=cond (decide (j<i)) (aJ j f<|wA e λl=>af .i64 ((l.add (j.toNat*3)).add 0) w λm=>af .i64 ((l.add (j.toNat*3)).add 1) w λn=>af .i64 ((l.add (j.toNat*3)).add 2) w λo=>Al T 294 w λp w=>St (p.add 0) (ae m) w λw=>St (p.add 1) (ae n) w λw=>St (p.add 2) (ae o) w λw=>af .i64 p w λq=>cond (q==a) (af .i64 (p.add 1) w λr=>cond (r==b) (cond (!d) (Du R3 Q a b p e f g i j w) (af .i64 (p.add 2) w λs=>cond (decide (s<c)) (Du R3 Q a b p e f g i j w) (R3 a b c d e f g i (IntKind.wrap .i64 (j+1)) w))) (R3 a b c d e f g i (IntKind.wrap .i64 (j+1)) w)) (R3 a b c d e f g i (IntKind.wrap .i64 (j+1)) w)) (Q c w)
def oN (Q:Int->WP):Nat->Int->Int->Int->Bool->L3 (Int->Int->WP)
 |0,_,_,_,_,_,_,_,_,_,_=>False
 |k+1,a,b,c,d,e,f,g,i,j,w=>zI Q (oN Q k) a b c d e f g i j w
def aee {P3}(Q)(H3:Bk 41 Tryz.f237 (Dg Q) 3 [(1,.i .i64),(2,.i .i64),(7,.i .i64),(8,.b),(11,.l),(12,.i .i64),(13,.i .i64)] P3):Bk 41 Tryz.f237 (Dg Q) 6 [(1,.i .i64),(2,.i .i64),(10,.a),(11,.l),(12,.i .i64),(13,.i .i64)] (Du P3 Q):=aU (ok 41) [] [aO H3]
def aef (Q):∀k,Bk 41 Tryz.f237 (Dg Q) 3 [(1,.i .i64),(2,.i .i64),(7,.i .i64),(8,.b),(11,.l),(12,.i .i64),(13,.i .i64)] (oN Q k):=bL λk h=>aU (ok 41) [] [aO h,aO (aee Q h)]
def aaj:=λa b c d e w Q=>bB (AD a b c d e w Q) (∃k',oN Q k' d e 1099511627776 false a b c (b:Int) 0 w) (ok 41) [] [cq (aef Q)] Tryz.func237
def qV (Q:Int->WP)(a b c:Int)(w:World):Prop:=cond (b==3) (cond (decide (c>0)) (Q (IntKind.wrap .i64 (a-1)) w) (Q (-1) w)) (Q (-1) w)
def qW (Q:Int->WP)(a:OA)(b c d e:Int)(w:World):Prop:=cond (c==2) (wA a λf=>af .i64 (f.add 1) w λg=>cond (decide (e<(IntKind.wrap .i64 (g-1)))) (wA a λi=>af .i64 i w λj=>Q (IntKind.wrap .i64 (b+j)) w) (qV Q b c d w)) (qV Q b c d w)
def qX (Q:Int->WP)(a:OA)(b c d e:Int)(w:World):Prop:=cond (c==1) (wA a λf=>af .i64 f w λg=>cond (decide (d<(IntKind.wrap .i64 (g-1)))) (Q (IntKind.wrap .i64 (b+1)) w) (qW Q a b c d e w)) (qW Q a b c d e w)
noncomputable def uN:cz:=[(1,sp 0 14 (.op 14 (.op 15 .done)))]
def U5 (Q):Bk 81 Tryz.f277 (v_ Q) 8 [(1,.i .i64),(2,.i .i64),(7,.i .i64)] (qV Q):=aU (ok 81) uN []
def U6 (Q):Bk 81 Tryz.f277 (v_ Q) 6 [(0,.p),(1,.i .i64),(2,.i .i64),(7,.i .i64),(8,.i .i64)] (qW Q):=aU (ok 81) uN [aO (U5 Q)]
def U7 (Q):Bk 81 Tryz.f277 (v_ Q) 4 [(0,.p),(1,.i .i64),(2,.i .i64),(7,.i .i64),(8,.i .i64)] (qX Q):=aU (ok 81) uN [aO (U6 Q)]
def QV:=λa b c w Q=>bB (zu a b c w Q) (wA a λd=>af .i64 d w.drew λe=>NZ e<|wA a λf=>af .i64 f w.drew λg=>NZ g<|w.drew.cell? f=some (ae g)/\cond (c==0) (cond (decide ((IntKind.wrap .i64 (Int.tdiv b g))>0)) (wA a λi=>af .i64 i w.drew λj=>Q (IntKind.wrap .i64 (b-j)) w.drew) (qX Q a b c (Int.tmod b e) (IntKind.wrap .i64 (Int.tdiv b g)) w.drew)) (qX Q a b c (Int.tmod b e) (IntKind.wrap .i64 (Int.tdiv b g)) w.drew)) (ok 81) uN [aO (U7 Q)] Tryz.func277
noncomputable def Wo:cz:=[(3,sp 0 6 (sp 7 7 (.op 6 (.op 14 (.op 15 .done))))),(4,sp 0 36 (.op 36 .done))]
def U8:=λa b c w Q=>bB (nS a b c w Q) (zu a b c w λd w=>cond (decide (d<0)) (wA a λe=>aA (e.add 3) w.drew λf g i=>wA a λj=>aA (j.add 4) w.drew λl m n=>aJ b m<|wA l λo=>af .i64 (o.add (b.toNat*1)) w.drew λp=>AD f g i b c w.drew λq w=>w.cell? (o.add (b.toNat*1))=some (ae p)/\w.cell? (j.add 4)=some (.slice l m n)/\Q (q==p) w) (wA a λr=>aA (r.add 2) w.drew λs t u=>aJ d t<|wA s λv=>af .u8 (v.add (d.toNat*1)) w.drew λx=>cond (x !=255) (wA a λy=>aA (y.add 2) w.drew λz a1 b1=>aJ d a1<|wA z λc1=>af .u8 (c1.add (d.toNat*1)) w.drew λd1=>wA a λe1=>aA (e1.add 4) w.drew λf1 g1 i1=>aJ d g1<|wA f1 λj1=>af .i64 (j1.add (d.toNat*1)) w.drew λl1=>wA a λm1=>aA (m1.add 4) w.drew λn1 o1 p1=>aJ b o1<|wA n1 λq1=>af .i64 (q1.add (b.toNat*1)) w.drew λr1=>Q ((IntKind.wrap .i64 ((IntKind.wrap .i64 d1)+l1))==r1) w.drew) (Q false w.drew))) (ok 65) Wo [] Tryz.func263
def sR (Q:Int->WP)(a:OA)(b:Int)(w:World):Prop:=nS a b 3 w λc w=>cond c (Q 3 w) (Q 5 w)
def sS (Q:Int->WP)(a:OA)(b:Int)(w:World):Prop:=nS a b 2 w λc w=>cond c (Q 2 w) (sR Q a b w)
def uO (Q:Int->WP)(a:OA)(b:Int)(w:World):Prop:=nS a b 1 w λc w=>cond c (Q 1 w) (sS Q a b w)
def FZ (Q):Bk 28 Tryz.f238 (uH Q) 12 [(0,.p),(1,.i .i64)] (sR Q):=aU (ok 28) [] []
def F0 (Q):Bk 28 Tryz.f238 (uH Q) 10 [(0,.p),(1,.i .i64)] (sS Q):=aU (ok 28) [] [aO (FZ Q)]
def SW (Q):Bk 28 Tryz.f238 (uH Q) 8 [(0,.p),(1,.i .i64)] (uO Q):=aU (ok 28) [] [aO (F0 Q)]
def O7:=λa b c w Q=>bB (Et a b c w Q) (cond (c==0) (nS a b 0 w λd w=>cond d (Q 0 w) (uO Q a b w)) (cond (c==1) (uO Q a b w) (cond (c==2) (sS Q a b w) (cond (c==3) (sR Q a b w) (Q 5 w))))) (ok 28) [] [aO (SW Q),aO (F0 Q),aO (FZ Q)] Tryz.func238
def SX:=λa b w Q=>bB (Az a b w Q) (wA a λc=>aA (c.add 4) w λd e f=>aJ b e<|wA d λg=>af .i64 (g.add (b.toNat*1)) w λi=>cond (i==1099511627776) (Q 5 w) (wA a λj=>aA (j.add 3) w λl m n=>AD l m n b 4 w λo w=>cond (i==o) (Q 4 w) (Et a b 0 w λp w=>Q p w))) (ok 25) [] [] Tryz.func217
def xL (Q:L3 (L3 (Int->WP)))(R7:Addr->Addr->Addr->Int->Int->WP)(a b c:Addr)(d e:Int)(w:World):Prop:=cond (decide (e<d)) (aA (c.add 1) w.drew λf g i=>Az (some b) e w.drew λj w=>w.cell? (c.add 1)=some (.slice f g i)/\Bx [ae j] 3 w λl w=>w.cell? (c.add 1)=some (.slice f g i)/\App P #[29,29] 29 (.slice f g i) (.slice (some l) 1 1) w λm n o w=>St (c.add 1) (.slice m n o) w λw=>R7 a b c d (IntKind.wrap .i64 (e+1)) w) (aA (c.add 0) w λp q r=>aA (c.add 1) w λs t u=>St (a.add 0) (.slice p q r) w λw=>St (a.add 1) (.slice s t u) w λw=>aA (a.add 0) w λv x y=>aA (a.add 1) w λz a1 b1=>Q v x y z a1 b1 0 w)
def sU (Q:L3 (L3 (Int->WP))):Nat->Addr->Addr->Addr->Int->Int->WP
 |0,_,_,_,_,_,_=>False
 |k+1,a,b,c,d,e,w=>xL Q (sU Q k) a b c d e w
noncomputable def LZ:cz:=[(9,sp 0 4 (.op 4 (.op 5 (.op 6 (.op 7 (.op 8 .done))))))]
def ab4 (Q):∀k,Bk 43 Tryz.f184 (NQ Q) 7 [(4,.a),(8,.a),(9,.a),(29,.i .i64),(30,.i .i64)] (sU Q k):=bL λk h=>aU (ok 43) LZ [aO h]
def YC:=λa b c d e f g i w Q=>bB (D2 a b c d e f g i w Q) (Bx [ae a,ae b,.slice c d e] 84 w λj w=>Al T 213 w λl w=>af .i64 (j.add 0) w λm=>af .i64 (j.add 1) w λn=>aA (j.add 2) w λo p q=>xD m n o p q f g i w λr s t u w=>cond (u !=0) (St (l.add 0) (.slice none 0 0) w λw=>St (l.add 1) (.slice none 0 0) w λw=>aA (l.add 0) w λv x y=>aA (l.add 1) w λz a1 b1=>Q v x y z a1 b1 u w) (af .i64 (j.add 0) w λc1=>af .i64 (j.add 1) w λd1=>aA (j.add 2) w λe1 f1 g1=>Bx [ae c1,ae d1,.slice e1 f1 g1,.slice f g i,.slice r s t] 340 w λi1 w=>Al T 213 w λj1 w=>St (j1.add 0) (.slice r s t) w λw=>St (j1.add 1) (.slice none 0 0) w λw=>∃k',sU Q k' l i1 j1 (s:Int) 0 w)) (ok 43) LZ [cq (ab4 Q)] Tryz.func184
def BC (Q:L3 (L3 (Int->WP)))(a:Addr)(w:World):Prop:=St (a.add 0) (.slice none 0 0) w λw=>St (a.add 1) (.slice none 0 0) w λw=>aA (a.add 0) w λb c d=>aA (a.add 1) w λe f g=>Q b c d e f g 1 w
def pW (Q:L3 (L3 (Int->WP)))(a:OA)(b:Int)(c:OA)(d e:Nat)(f g i:Addr)(w:World):Prop:=wA a λj=>sK (some ((j.add 2).add 2)) w λw=>af .i64 (f.add 0) w λl=>af .i64 (f.add 1) w λm=>aA (f.add 2) w λn o p=>D2 l m n o p c d e w λq r s t u v x w=>Al T 213 w λy w=>St (y.add 0) (.slice q r s) w λw=>St (y.add 1) (.slice t u v) w λw=>aA (y.add 0) w.drew λz a1 b1=>aA (y.add 1) w.drew λc1 d1 e1=>jn c d e w.drew λf1 g1 i1 w=>w.cell? (y.add 0)=some (.slice z a1 b1)/\w.cell? (y.add 1)=some (.slice c1 d1 e1)/\St (i.add 0) (ae b) w λw=>St (i.add 1) (.slice f1 g1 i1) w λw=>St (i.add 2) (.slice z a1 b1) w λw=>St (i.add 3) (.slice c1 d1 e1) w λw=>aA (y.add 0) w λj1 l1 m1=>aA (y.add 1) w λn1 o1 p1=>BN j1 l1 m1 n1 o1 p1 w λq1 r1 s1 t1 u1 v1 w=>St (g.add 0) (.slice q1 r1 s1) w λw=>St (g.add 1) (.slice t1 u1 v1) w λw=>aA (g.add 0) w λx1 y1 z1=>aA (g.add 1) w λa2 b2 c2=>Q x1 y1 z1 a2 b2 c2 0 w
def pX (Q:L3 (L3 (Int->WP)))(a:OA)(b:Int)(c:OA)(d e:Nat)(f g:Addr)(i:Bool)(j:Addr)(w:World):Prop:=cond i (wA a λl=>sK (some ((l.add 2).add 5)) w λw=>pW Q a b c d e f g j w) (pW Q a b c d e f g j w)
def jt (Q:L3 (L3 (Int->WP)))(a:OA)(b:Int)(c:OA)(d e:Nat)(f g:Addr)(i j:Bool)(l:Addr)(w:World):Prop:=cond i (wA a λm=>sK (some ((m.add 2).add 4)) w λw=>pX Q a b c d e f g j l w) (pX Q a b c d e f g j l w)
def qY (Q:L3 (L3 (Int->WP)))(a:OA)(b:Int)(c:OA)(d e:Nat)(f g:Addr)(i:Int)(j l:Bool)(w:World):Prop:=wA a λm=>aA (m.add 1) w λn o p=>aJ i o<|wA n λq=>cond j (af .i64 (q.add (i.toNat*4)) w λr=>cond (r==b) (aA ((q.add (i.toNat*4)).add 1) w λs t u=>Fk s t u c d e w λv w=>cond v (wA a λx=>sK (some ((x.add 2).add 3)) w λw=>aA (((q.add (i.toNat*4)).add 2).add 0) w λy z a1=>aA (((q.add (i.toNat*4)).add 2).add 1) w λb1 c1 d1=>BN y z a1 b1 c1 d1 w λe1 f1 g1 i1 j1 l1 w=>St (g.add 0) (.slice e1 f1 g1) w λw=>St (g.add 1) (.slice i1 j1 l1) w λw=>aA (g.add 0) w λm1 n1 o1=>aA (g.add 1) w λp1 q1 r1=>Q m1 n1 o1 p1 q1 r1 0 w) (jt Q a b c d e f g j l (q.add (i.toNat*4)) w)) (jt Q a b c d e f g j l (q.add (i.toNat*4)) w)) (jt Q a b c d e f g j l (q.add (i.toNat*4)) w)
noncomputable def nk:cz:=[(16,sp 0 3 (.op 4 (.op 3 (sp 5 2 (.op 7 .done)))))]
def U9 (Q):Bk 122 Tryz.f164 (nR Q) 2 [(12,.a)] (BC Q):=aU (ok 122) nk []
def SY (Q):Bk 122 Tryz.f164 (nR Q) 14 [(0,.p),(3,.i .i64),(5,.l),(10,.a),(12,.a),(17,.a)] (pW Q):=aU (ok 122) nk []
def SZ (Q):Bk 122 Tryz.f164 (nR Q) 12 [(0,.p),(3,.i .i64),(5,.l),(10,.a),(12,.a),(16,.b),(17,.a)] (pX Q):=aU (ok 122) nk [aO (SY Q)]
def S0 (Q):Bk 122 Tryz.f164 (nR Q) 10 [(0,.p),(3,.i .i64),(5,.l),(10,.a),(12,.a),(15,.b),(16,.b),(17,.a)] (jt Q):=aU (ok 122) nk [aO (SZ Q)]
def U_ (Q):Bk 122 Tryz.f164 (nR Q) 6 [(0,.p),(3,.i .i64),(5,.l),(10,.a),(12,.a),(14,.i .i64),(15,.b),(16,.b)] (qY Q):=aU (ok 122) nk [aO (S0 Q)]
def QW:=λa b c d e f g i j l m n w Q=>bB (oB a b c d e f g i j l m n w Q) (Bx [ae e,ae f,.slice g i j] 84 w λo w=>Al T 213 w λp w=>cond a.isNone (BC Q p w) (af .i64 (o.add 0) w λq=>af .i64 (o.add 1) w λr=>aA (o.add 2) w λs t u=>BM q r s t u l m n w λv w=>cond (!v) (BC Q p w) (wA a λx=>bg x w λy=>D1 y b c w λz a1 b1 w=>wA a λc1=>aA (c1.add 1) w λd1 e1 f1=>cond (z==(e1:Int)) (wA a λg1=>aA (g1.add 1) w λi1 j1 l1=>Bx [ae 0,.slice none 0 0,.slice none 0 0,.slice none 0 0] 303 w λm1 w=>App P #[133,133] 133 (.slice i1 j1 l1) (.slice (some m1) 1 1) w λn1 o1 p1 w=>wA a λq1=>St (q1.add 1) (.slice n1 o1 p1) w λw=>qY Q a d l m n o p z a1 b1 w) (qY Q a d l m n o p z a1 b1 w)))) (ok 122) nk [aO (U9 Q),aO (U_ Q)] Tryz.func164
def yS (Q:L3 (L3 (Value->WP)))(a:Int)(b:Addr)(w:World):Prop:=b_ (aZ 2) w.drew λc=>dV c λd=>(Bx [ae a,d] 275 w.drew λe w=>St (b.add 0) (.slice none 0 0) w λw=>St (b.add 1) (.slice none 0 0) w λw=>w.cell? (aZ 2)=some c/\aA (b.add 0) w λf g i=>aA (b.add 1) w λj l m=>Q f g i j l m (.iface 273 (.pointer (some e))) w)/\(St (b.add 0) (.slice none 0 0) w.drew λw=>St (b.add 1) (.slice none 0 0) w λw=>w.cell? (aZ 2)=some c/\Bx [ae a,d] 275 w λn w=>aA (b.add 0) w λo p q=>aA (b.add 1) w λr s t=>Q o p q r s t (.iface 273 (.pointer (some n))) w)
def tQ (Q:L3 (L3 (Value->WP)))(a:Int)(b:Addr)(w:World):Prop:=b_ (aZ 3) w.drew λc=>dV c λd=>(Bx [ae a,d] 275 w.drew λe w=>St (b.add 0) (.slice none 0 0) w λw=>St (b.add 1) (.slice none 0 0) w λw=>w.cell? (aZ 3)=some c/\aA (b.add 0) w λf g i=>aA (b.add 1) w λj l m=>Q f g i j l m (.iface 273 (.pointer (some e))) w)/\(St (b.add 0) (.slice none 0 0) w.drew λw=>St (b.add 1) (.slice none 0 0) w λw=>w.cell? (aZ 3)=some c/\Bx [ae a,d] 275 w λn w=>aA (b.add 0) w λo p q=>aA (b.add 1) w λr s t=>Q o p q r s t (.iface 273 (.pointer (some n))) w)
def jO (Q:L3 (L3 (Value->WP)))(a:Int)(b c:Addr)(d:Int)(w:World):Prop:=cond (d !=0) (b_ (aZ 4) w.drew λe=>dV e λf=>(Bx [ae a,f] 275 w.drew λg w=>St (b.add 0) (.slice none 0 0) w λw=>St (b.add 1) (.slice none 0 0) w λw=>w.cell? (aZ 4)=some e/\aA (b.add 0) w λi j l=>aA (b.add 1) w λm n o=>Q i j l m n o (.iface 273 (.pointer (some g))) w)/\(St (b.add 0) (.slice none 0 0) w.drew λw=>St (b.add 1) (.slice none 0 0) w λw=>w.cell? (aZ 4)=some e/\Bx [ae a,f] 275 w λp w=>aA (b.add 0) w λq r s=>aA (b.add 1) w λt u v=>Q q r s t u v (.iface 273 (.pointer (some p))) w)) (aA (c.add 0) w λx y z=>aA (c.add 1) w λa1 b1 c1=>St (b.add 0) (.slice x y z) w λw=>St (b.add 1) (.slice a1 b1 c1) w λw=>aA (b.add 0) w λd1 e1 f1=>aA (b.add 1) w λg1 i1 j1=>Q d1 e1 f1 g1 i1 j1 (.nilIface) w)
noncomputable def xM:cz:=[(2,sp 0 4 (.br (.op 4 (.op 5 (.op 6 (.op 7 .done)))) (.op 6 (.op 4 (.op 5 (.op 7 .done)))))),(5,sp 0 4 (.br (.op 4 (.op 5 (.op 6 (.op 7 .done)))) (.op 6 (.op 4 (.op 5 (.op 7 .done)))))),(6,sp 0 9 (.op 10 (.op 9 (.op 11 (.op 12 .done))))),(7,sp 0 11 (sp 12 2 (.br (.op 11 (.br (.op 14 (sp 15 3 (.op 18 (.op 19 (.op 20 .done))))) (.op 18 (.op 14 (sp 15 3 (.op 19 (.op 20 .done))))))) (.op 18 (.op 11 (.op 14 (sp 15 3 (.op 19 (.op 20 .done))))))))),(9,sp 0 4 (.br (.op 4 (.op 5 (.op 6 (.op 7 .done)))) (.op 6 (.op 4 (.op 5 (.op 7 .done))))))]
def YD (Q):Bk 93 Tryz.f150 (yN Q) 2 [(1,.i .i64),(6,.a)] (yS Q):=aU (ok 93) xM []
def YE (Q):Bk 93 Tryz.f150 (yN Q) 5 [(1,.i .i64),(6,.a)] (tQ Q):=aU (ok 93) xM []
def YF (Q):Bk 93 Tryz.f150 (yN Q) 8 [(1,.i .i64),(6,.a),(11,.a),(12,.i .i64)] (jO Q):=aU (ok 93) xM []
def Va:=λa b c w Q=>bB (vZ a b c w Q) (Al T 213 w λd w=>cond a.isNone (yS Q b d w) (wA a λe=>bg e w λf=>cond f.isNone (yS Q b d w) (wA a λg=>bg g w λi=>uA i c w λj l m n o p w=>Al T 84 w λq w=>St (q.add 0) (ae j) w λw=>St (q.add 1) (ae l) w λw=>St (q.add 2) (.slice m n o) w λw=>wA a λr=>bg r w λs=>fg s b w λt w=>cond (t==0) (tQ Q b d w) (cond (!p) (tQ Q b d w) (wA a λu=>bg u w.drew λv=>wA a λx=>bg (x.add 2) w.drew λy=>wT y b w.drew λz w=>w.cell? u=some (.pointer v)/\Cp v z c w λa1 b1 c1 w=>wA a λd1=>bg (d1.add 3) w.drew λe1=>wA a λf1=>bg f1 w.drew λg1=>af .i64 (q.add 0) w.drew λi1=>af .i64 (q.add 1) w.drew λj1=>aA (q.add 2) w.drew λl1 m1 n1=>(jf g1 c w.drew λo1 w=>w.cell? (q.add 0)=some (ae i1)/\w.cell? (q.add 1)=some (ae j1)/\w.cell? (q.add 2)=some (.slice l1 m1 n1)/\w.cell? (d1.add 3)=some (.pointer e1)/\(oB e1 b c o1 i1 j1 l1 m1 n1 a1 b1 c1 w λp1 q1 r1 s1 t1 u1 v1 w=>Al T 213 w λx1 w=>w.cell? (q.add 0)=some (ae i1)/\w.cell? (q.add 1)=some (ae j1)/\w.cell? (q.add 2)=some (.slice l1 m1 n1)/\w.cell? f1=some (.pointer g1)/\w.cell? (d1.add 3)=some (.pointer e1)/\St (x1.add 0) (.slice p1 q1 r1) w λw=>St (x1.add 1) (.slice s1 t1 u1) w λw=>jO Q b d x1 v1 w)/\(Al T 213 w λy1 w=>w.cell? (q.add 0)=some (ae i1)/\w.cell? (q.add 1)=some (ae j1)/\w.cell? (q.add 2)=some (.slice l1 m1 n1)/\w.cell? f1=some (.pointer g1)/\w.cell? (d1.add 3)=some (.pointer e1)/\oB e1 b c o1 i1 j1 l1 m1 n1 a1 b1 c1 w λz1 a2 b2 c2 d2 e2 f2 w=>St (y1.add 0) (.slice z1 a2 b2) w λw=>St (y1.add 1) (.slice c2 d2 e2) w λw=>jO Q b d y1 f2 w))/\(Al T 213 w.drew λg2 w=>w.cell? (q.add 0)=some (ae i1)/\w.cell? (q.add 1)=some (ae j1)/\w.cell? (q.add 2)=some (.slice l1 m1 n1)/\w.cell? f1=some (.pointer g1)/\w.cell? (d1.add 3)=some (.pointer e1)/\jf g1 c w λi2 w=>w.cell? (q.add 0)=some (ae i1)/\w.cell? (q.add 1)=some (ae j1)/\w.cell? (q.add 2)=some (.slice l1 m1 n1)/\w.cell? (d1.add 3)=some (.pointer e1)/\oB e1 b c i2 i1 j1 l1 m1 n1 a1 b1 c1 w λj2 l2 m2 n2 o2 p2 q2 w=>St (g2.add 0) (.slice j2 l2 m2) w λw=>St (g2.add 1) (.slice n2 o2 p2) w λw=>jO Q b d g2 q2 w)))))) (ok 93) xM [aO (YD Q),aO (YE Q),aO (YF Q)] Tryz.func150
end Go.Proofs.YtmegplnmiepfbaaGreatDoor.S
