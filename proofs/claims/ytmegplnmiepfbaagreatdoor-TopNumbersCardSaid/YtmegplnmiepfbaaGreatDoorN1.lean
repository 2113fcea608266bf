/- Part 2 of the proof. -/
import Derived.Test.YtmegplnmiepfbaaGreatDoorN0
import Derived.Test.YtmegplnmiepfbaaGreatDoorProg
set_option linter.unusedVariables false
set_option linter.unusedSimpArgs false
set_option linter.defProp false
set_option maxRecDepth 100000
namespace Go.Proofs.YtmegplnmiepfbaaGreatDoor.S
open Go.Sx
noncomputable abbrev P:Program:=Go.Proofs.Tryz.prog
noncomputable def rows:List (Nat×TI):=[(0,⟨.uR [],1,0,[.tuple #[]],[]⟩),
 (2,⟨.int .i64,1,8,[.int .i64 0],[.int .i64]⟩),
 (3,⟨.int .i64,1,8,[.int .i64 0],[.int .i64]⟩),
 (4,⟨.bool,1,1,[.bool false],[.bool]⟩),
 (5,⟨.int .u8,1,1,[.int .u8 0],[.int .u8]⟩),
 (9,⟨.str,1,16,[.string .empty],[.str]⟩),
 (17,⟨.ptr,1,8,[.pointer none],[.ptr]⟩),
 (20,⟨.iface,1,16,[.nilIface],[.any]⟩),
 (21,⟨.int .i32,1,4,[.int .i32 0],[.int .i32]⟩),
 (22,⟨.slice 5,1,24,[.slice none 0 0],[.sl]⟩),
 (25,⟨.struct [(0,3),(1,3),(2,22)],3,40,[.int .i64 0,.int .i64 0,.slice none 0 0],[.int .i64,.int .i64,.sl]⟩),
 (26,⟨.ptr,1,8,[.pointer none],[.ptr]⟩),
 (28,⟨.slice 51,1,24,[.slice none 0 0],[.sl]⟩),
 (29,⟨.slice 3,1,24,[.slice none 0 0],[.sl]⟩),
 (30,⟨.int .u64,1,8,[.int .u64 0],[.int .u64]⟩),
 (32,⟨.struct [(0,30),(1,30),(2,30),(3,30),(4,30),(5,30)],6,48,[.int .u64 0,.int .u64 0,.int .u64 0,.int .u64 0,.int .u64 0,.int .u64 0],[.int .u64,.int .u64,.int .u64,.int .u64,.int .u64,.int .u64]⟩),
 (34,⟨.struct [(0,3),(1,3),(2,3),(3,3),(4,28),(5,29),(6,32)],12,128,[.int .i64 0,.int .i64 0,.int .i64 0,.int .i64 0,.slice none 0 0,.slice none 0 0,.int .u64 0,.int .u64 0,.int .u64 0,.int .u64 0,.int .u64 0,.int .u64 0],[.int .i64,.int .i64,.int .i64,.int .i64,.sl,.sl,.int .u64,.int .u64,.int .u64,.int .u64,.int .u64,.int .u64]⟩),
 (38,⟨.struct [(0,3),(1,3),(2,3),(3,22)],4,48,[.int .i64 0,.int .i64 0,.int .i64 0,.slice none 0 0],[.int .i64,.int .i64,.int .i64,.sl]⟩),
 (39,⟨.slice 43,1,24,[.slice none 0 0],[.sl]⟩),
 (43,⟨.struct [(0,3),(1,3),(2,3)],3,24,[.int .i64 0,.int .i64 0,.int .i64 0],[.int .i64,.int .i64,.int .i64]⟩),
 (45,⟨.slice 90,1,24,[.slice none 0 0],[.sl]⟩),
 (46,⟨.slice 38,1,24,[.slice none 0 0],[.sl]⟩),
 (49,⟨.slice 4,1,24,[.slice none 0 0],[.sl]⟩),
 (51,⟨.struct [(0,3),(1,3)],2,16,[.int .i64 0,.int .i64 0],[.int .i64,.int .i64]⟩),
 (55,⟨.uR [3,3,4],1,0,[.tuple #[.int .i64 0,.int .i64 0,.bool false]],[]⟩),
 (64,⟨.slice 34,1,24,[.slice none 0 0],[.sl]⟩),
 (68,⟨.ptr,1,8,[.pointer none],[.ptr]⟩),
 (70,⟨.ptr,1,8,[.pointer none],[.ptr]⟩),
 (72,⟨.struct [(0,3),(1,68),(2,70)],3,24,[.int .i64 0,.pointer none,.pointer none],[.int .i64,.ptr,.ptr]⟩),
 (74,⟨.iface,1,16,[.nilIface],[.any]⟩),
 (76,⟨.ptr,1,8,[.pointer none],[.ptr]⟩),
 (78,⟨.ptr,1,8,[.pointer none],[.ptr]⟩),
 (80,⟨.struct [(0,3),(1,74)],2,24,[.int .i64 0,.nilIface],[.int .i64,.any]⟩),
 (81,⟨.int .u64,1,8,[.int .u64 0],[.int .u64]⟩),
 (82,⟨.uR [3,22],1,0,[.tuple #[.int .i64 0,.slice none 0 0]],[]⟩),
 (84,⟨.struct [(0,3),(1,3),(2,22)],3,40,[.int .i64 0,.int .i64 0,.slice none 0 0],[.int .i64,.int .i64,.sl]⟩),
 (90,⟨.struct [(0,3),(1,3),(2,3)],3,24,[.int .i64 0,.int .i64 0,.int .i64 0],[.int .i64,.int .i64,.int .i64]⟩),
 (95,⟨.uR [3,3],1,0,[.tuple #[.int .i64 0,.int .i64 0]],[]⟩),
 (100,⟨.ptr,1,8,[.pointer none],[.ptr]⟩),
 (102,⟨.ptr,1,8,[.pointer none],[.ptr]⟩),
 (103,⟨.ptr,1,8,[.pointer none],[.ptr]⟩),
 (104,⟨.ptr,1,8,[.pointer none],[.ptr]⟩),
 (106,⟨.struct [(0,102),(1,103),(2,104),(3,100),(4,32)],10,80,[.pointer none,.pointer none,.pointer none,.pointer none,.int .u64 0,.int .u64 0,.int .u64 0,.int .u64 0,.int .u64 0,.int .u64 0],[.ptr,.ptr,.ptr,.ptr,.int .u64,.int .u64,.int .u64,.int .u64,.int .u64,.int .u64]⟩),
 (108,⟨.int .i64,1,8,[.int .i64 0],[.int .i64]⟩),
 (112,⟨.uR [3,74],1,0,[.tuple #[.int .i64 0,.nilIface]],[]⟩),
 (120,⟨.ptr,1,8,[.pointer none],[.ptr]⟩),
 (122,⟨.ptr,1,8,[.pointer none],[.ptr]⟩),
 (123,⟨.ptr,1,8,[.pointer none],[.ptr]⟩),
 (125,⟨.struct [(0,3),(1,3),(2,3),(3,122),(4,123)],5,40,[.int .i64 0,.int .i64 0,.int .i64 0,.pointer none,.pointer none],[.int .i64,.int .i64,.int .i64,.ptr,.ptr]⟩),
 (131,⟨.ptr,1,8,[.pointer none],[.ptr]⟩),
 (133,⟨.slice 303,1,24,[.slice none 0 0],[.sl]⟩),
 (135,⟨.struct [(0,131),(1,133),(2,32)],8,80,[.pointer none,.slice none 0 0,.int .u64 0,.int .u64 0,.int .u64 0,.int .u64 0,.int .u64 0,.int .u64 0],[.ptr,.sl,.int .u64,.int .u64,.int .u64,.int .u64,.int .u64,.int .u64]⟩),
 (137,⟨.struct [(0,3),(1,3),(2,4)],3,24,[.int .i64 0,.int .i64 0,.bool false],[.int .i64,.int .i64,.bool]⟩),
 (138,⟨.uR [137,4],1,0,[.tuple #[.agg #[.int .i64 0,.int .i64 0,.bool false],.bool false]],[]⟩),
 (140,⟨.uR [25,3],1,0,[.tuple #[.agg #[.int .i64 0,.int .i64 0,.slice none 0 0],.int .i64 0]],[]⟩),
 (144,⟨.uR [43,4],1,0,[.tuple #[.agg #[.int .i64 0,.int .i64 0,.int .i64 0],.bool false]],[]⟩),
 (146,⟨.func,1,8,[.nilFunc],[.any]⟩),
 (148,⟨.uR [3,3,3],1,0,[.tuple #[.int .i64 0,.int .i64 0,.int .i64 0]],[]⟩),
 (150,⟨.uR [29,74],1,0,[.tuple #[.slice none 0 0,.nilIface]],[]⟩),
 (152,⟨.uR [28,29,3],1,0,[.tuple #[.slice none 0 0,.slice none 0 0,.int .i64 0]],[]⟩),
 (155,⟨.iface,1,16,[.nilIface],[.any]⟩),
 (158,⟨.other,1,8,[.pointer none],[.ptr]⟩),
 (159,⟨.int .u64,1,8,[.int .u64 0],[.int .u64]⟩),
 (161,⟨.struct [(0,17),(1,158),(2,159)],3,24,[.pointer none,.pointer none,.int .u64 0],[.ptr,.ptr,.int .u64]⟩),
 (164,⟨.int .u8,1,1,[.int .u8 0],[.int .u8]⟩),
 (169,⟨.map,1,8,[.map none],[.map]⟩),
 (171,⟨.struct [(0,3),(1,3),(2,169),(3,29)],4,48,[.int .i64 0,.int .i64 0,.map none,.slice none 0 0],[.int .i64,.int .i64,.map,.sl]⟩),
 (172,⟨.slice 2,1,24,[.slice none 0 0],[.sl]⟩),
 (174,⟨.struct [(0,25),(3,2),(4,172)],5,72,[.int .i64 0,.int .i64 0,.slice none 0 0,.int .i64 0,.slice none 0 0],[.int .i64,.int .i64,.sl,.int .i64,.sl]⟩),
 (175,⟨.arr 6 30,6,48,[.int .u64 0,.int .u64 0,.int .u64 0,.int .u64 0,.int .u64 0,.int .u64 0],[.int .u64,.int .u64,.int .u64,.int .u64,.int .u64,.int .u64]⟩),
 (179,⟨.slice 334,1,24,[.slice none 0 0],[.sl]⟩),
 (180,⟨.map,1,8,[.map none],[.map]⟩),
 (182,⟨.struct [(0,3),(1,179),(2,180),(3,3),(4,3)],5,56,[.int .i64 0,.slice none 0 0,.map none,.int .i64 0,.int .i64 0],[.int .i64,.sl,.map,.int .i64,.int .i64]⟩),
 (183,⟨.uR [38,3],1,0,[.tuple #[.agg #[.int .i64 0,.int .i64 0,.int .i64 0,.slice none 0 0],.int .i64 0]],[]⟩),
 (185,⟨.uR [25,74],1,0,[.tuple #[.agg #[.int .i64 0,.int .i64 0,.slice none 0 0],.nilIface]],[]⟩),
 (187,⟨.int .i64,1,8,[.int .i64 0],[.int .i64]⟩),
 (188,⟨.ptr,1,8,[.pointer none],[.ptr]⟩),
 (195,⟨.ptr,1,8,[.pointer none],[.ptr]⟩),
 (197,⟨.struct [(0,103),(1,102),(2,195),(3,30)],4,32,[.pointer none,.pointer none,.pointer none,.int .u64 0],[.ptr,.ptr,.ptr,.int .u64]⟩),
 (198,⟨.uR [3,4],1,0,[.tuple #[.int .i64 0,.bool false]],[]⟩),
 (202,⟨.ptr,1,8,[.pointer none],[.ptr]⟩),
 (203,⟨.func,1,8,[.nilFunc],[.any]⟩),
 (204,⟨.uR [3,3,74],1,0,[.tuple #[.int .i64 0,.int .i64 0,.nilIface]],[]⟩),
 (207,⟨.map,1,8,[.map none],[.map]⟩),
 (208,⟨.slice 211,1,24,[.slice none 0 0],[.sl]⟩),
 (211,⟨.struct [(0,3),(1,3),(2,29)],3,40,[.int .i64 0,.int .i64 0,.slice none 0 0],[.int .i64,.int .i64,.sl]⟩),
 (213,⟨.struct [(0,29),(1,29)],2,48,[.slice none 0 0,.slice none 0 0],[.sl,.sl]⟩),
 (214,⟨.uR [213,3],1,0,[.tuple #[.agg #[.slice none 0 0,.slice none 0 0],.int .i64 0]],[]⟩),
 (216,⟨.uR [39,28,29,3],1,0,[.tuple #[.slice none 0 0,.slice none 0 0,.slice none 0 0,.int .i64 0]],[]⟩),
 (221,⟨.iface,1,16,[.nilIface],[.any]⟩),
 (224,⟨.iface,1,16,[.nilIface],[.any]⟩),
 (226,⟨.iface,1,16,[.nilIface],[.any]⟩),
 (227,⟨.slice 74,1,24,[.slice none 0 0],[.sl]⟩),
 (231,⟨.iface,1,16,[.nilIface],[.any]⟩),
 (234,⟨.slice 319,1,24,[.slice none 0 0],[.sl]⟩),
 (236,⟨.struct [(0,102),(1,234),(2,2),(3,30)],4,48,[.pointer none,.slice none 0 0,.int .i64 0,.int .u64 0],[.ptr,.sl,.int .i64,.int .u64]⟩),
 (238,⟨.uR [84,3,3],1,0,[.tuple #[.agg #[.int .i64 0,.int .i64 0,.slice none 0 0],.int .i64 0,.int .i64 0]],[]⟩),
 (240,⟨.ptr,1,8,[.pointer none],[.ptr]⟩),
 (242,⟨.struct [(0,3),(1,74)],2,24,[.int .i64 0,.nilIface],[.int .i64,.any]⟩),
 (245,⟨.slice 248,1,24,[.slice none 0 0],[.sl]⟩),
 (247,⟨.struct [(0,245),(1,3)],2,32,[.slice none 0 0,.int .i64 0],[.sl,.int .i64]⟩),
 (248,⟨.int .u32,1,4,[.int .u32 0],[.int .u32]⟩),
 (249,⟨.uR [213,74],1,0,[.tuple #[.agg #[.slice none 0 0,.slice none 0 0],.nilIface]],[]⟩),
 (253,⟨.arr 2 3,2,16,[.int .i64 0,.int .i64 0],[.int .i64,.int .i64]⟩),
 (257,⟨.ptr,1,8,[.pointer none],[.ptr]⟩),
 (258,⟨.map,1,8,[.map none],[.map]⟩),
 (260,⟨.struct [(0,3),(1,3),(2,258),(3,28),(4,29)],5,72,[.int .i64 0,.int .i64 0,.map none,.slice none 0 0,.slice none 0 0],[.int .i64,.int .i64,.map,.sl,.sl]⟩),
 (263,⟨.ptr,1,8,[.pointer none],[.ptr]⟩),
 (265,⟨.struct [(0,22),(1,3)],2,32,[.slice none 0 0,.int .i64 0],[.sl,.int .i64]⟩),
 (266,⟨.uR [84,74],1,0,[.tuple #[.agg #[.int .i64 0,.int .i64 0,.slice none 0 0],.nilIface]],[]⟩),
 (268,⟨.ptr,1,8,[.pointer none],[.ptr]⟩),
 (269,⟨.ptr,1,8,[.pointer none],[.ptr]⟩),
 (271,⟨.struct [(0,3),(1,3),(2,74)],3,32,[.int .i64 0,.int .i64 0,.nilIface],[.int .i64,.int .i64,.any]⟩),
 (273,⟨.ptr,1,8,[.pointer none],[.ptr]⟩),
 (275,⟨.struct [(0,3),(1,74)],2,24,[.int .i64 0,.nilIface],[.int .i64,.any]⟩),
 (276,⟨.uR [84,4],1,0,[.tuple #[.agg #[.int .i64 0,.int .i64 0,.slice none 0 0],.bool false]],[]⟩),
 (278,⟨.slice 294,1,24,[.slice none 0 0],[.sl]⟩),
 (284,⟨.uR [22,74],1,0,[.tuple #[.slice none 0 0,.nilIface]],[]⟩),
 (286,⟨.uR [22,3],1,0,[.tuple #[.slice none 0 0,.int .i64 0]],[]⟩),
 (289,⟨.slice 292,1,24,[.slice none 0 0],[.sl]⟩),
 (292,⟨.struct [(0,3),(1,3)],2,16,[.int .i64 0,.int .i64 0],[.int .i64,.int .i64]⟩),
 (294,⟨.struct [(0,3),(1,3),(2,3)],3,24,[.int .i64 0,.int .i64 0,.int .i64 0],[.int .i64,.int .i64,.int .i64]⟩),
 (296,⟨.slice 21,1,24,[.slice none 0 0],[.sl]⟩),
 (298,⟨.struct [(0,3),(1,2),(2,296)],3,40,[.int .i64 0,.int .i64 0,.slice none 0 0],[.int .i64,.int .i64,.sl]⟩),
 (300,⟨.uR [3,4,4],1,0,[.tuple #[.int .i64 0,.bool false,.bool false]],[]⟩),
 (303,⟨.struct [(0,2),(1,278),(2,213)],4,80,[.int .i64 0,.slice none 0 0,.slice none 0 0,.slice none 0 0],[.int .i64,.sl,.sl,.sl]⟩),
 (307,⟨.ptr,1,8,[.pointer none],[.ptr]⟩),
 (314,⟨.arr 4 3,4,32,[.int .i64 0,.int .i64 0,.int .i64 0,.int .i64 0],[.int .i64,.int .i64,.int .i64,.int .i64]⟩),
 (317,⟨.func,1,8,[.nilFunc],[.any]⟩),
 (319,⟨.struct [(0,2),(1,29),(2,296)],3,56,[.int .i64 0,.slice none 0 0,.slice none 0 0],[.int .i64,.sl,.sl]⟩),
 (322,⟨.ptr,1,8,[.pointer none],[.ptr]⟩),
 (331,⟨.func,1,8,[.nilFunc],[.any]⟩),
 (334,⟨.struct [(0,253),(2,3),(3,3)],4,32,[.int .i64 0,.int .i64 0,.int .i64 0,.int .i64 0],[.int .i64,.int .i64,.int .i64,.int .i64]⟩),
 (336,⟨.uR [29,3],1,0,[.tuple #[.slice none 0 0,.int .i64 0]],[]⟩),
 (338,⟨.ptr,1,8,[.pointer none],[.ptr]⟩),
 (340,⟨.struct [(0,84),(3,278),(4,29)],5,88,[.int .i64 0,.int .i64 0,.slice none 0 0,.slice none 0 0,.slice none 0 0],[.int .i64,.int .i64,.sl,.sl,.sl]⟩),
 (341,⟨.uR [81,81],1,0,[.tuple #[.int .u64 0,.int .u64 0]],[]⟩),
 (349,⟨.slice 353,1,24,[.slice none 0 0],[.sl]⟩),
 (351,⟨.struct [(0,349)],1,24,[.slice none 0 0],[.sl]⟩),
 (353,⟨.struct [(0,3),(1,3)],2,16,[.int .i64 0,.int .i64 0],[.int .i64,.int .i64]⟩),
 (354,⟨.ptr,1,8,[.pointer none],[.ptr]⟩),
 (355,⟨.uR [354,3,4],1,0,[.tuple #[.pointer none,.int .i64 0,.bool false]],[]⟩),
 (358,⟨.ptr,1,8,[.pointer none],[.ptr]⟩),
 (359,⟨.ptr,1,8,[.pointer none],[.ptr]⟩),
 (363,⟨.struct [(0,84),(3,359),(4,278),(5,29)],6,96,[.int .i64 0,.int .i64 0,.slice none 0 0,.pointer none,.slice none 0 0,.slice none 0 0],[.int .i64,.int .i64,.sl,.ptr,.sl,.sl]⟩),
 (367,⟨.uR [30,30],1,0,[.tuple #[.int .u64 0,.int .u64 0]],[]⟩),
 (370,⟨.func,1,8,[.nilFunc],[.any]⟩),
 (372,⟨.int .i64,1,8,[.int .i64 0],[.int .i64]⟩),
 (373,⟨.uR [3,372],1,0,[.tuple #[.int .i64 0,.int .i64 0]],[]⟩),
 (385,⟨.struct [(0,29),(1,3)],2,32,[.slice none 0 0,.int .i64 0],[.sl,.int .i64]⟩),
 (386,⟨.arr 256 385,512,8192,([]++(List.replicate 256 [.slice none 0 0,.int .i64 0]).flatten),([]++(List.replicate 256 [.sl,.int .i64]).flatten)⟩),
 (388,⟨.struct [(0,3),(1,3),(2,386)],514,8208,([.int .i64 0,.int .i64 0]++(List.replicate 256 [.slice none 0 0,.int .i64 0]).flatten),([.int .i64,.int .i64]++(List.replicate 256 [.sl,.int .i64]).flatten)⟩),
 (390,⟨.int .u64,1,8,[.int .u64 0],[.int .u64]⟩),
 (393,⟨.ptr,1,8,[.pointer none],[.ptr]⟩),
 (397,⟨.ptr,1,8,[.pointer none],[.ptr]⟩),
 (400,⟨.ptr,1,8,[.pointer none],[.ptr]⟩)]
noncomputable def T:uJ:=aay rows
noncomputable def fns:List Nat:=[3,4,5,6,7,8,9,10,11,12,13,14,15,16,17,18,19,20,21,22,23,24,25,26,27,28,29,30,31,32,33,34,35,36,37,38,39,40,41,42,43,44,45,46,47,48,49,50,51,52,53,54,55,56,57,58,59,60,61,62,63,64,65,66,67,68,69,70,71,72,73,74,75,76,77,78,79,80,81,82,83,84,85,86,87,88,89,90,91,92,93,94,96,100,101,102,103,104,105,106,107,108,109,110,111,112,113,114,115,116,117,118,119,120,121,122,123,124,125,126,127,128,129,130,131,132,133,134,135,136,137,140,141,142,143,144,145,146,147,148,149,150,151,152,153,154,155,156,157,158,159,160,161,162,163,164,165,166,167,168,169,170,171,172,173,174,175,176,177,178,179,180,181,182,183,184,185,186,187,188,189,190,191,192,193,194,195,196,197,198,199,200,201,202,203,204,205,206,207,208,209,210,211,212,213,214,215,216,217,218,220,221,222,223,224,225,226,227,228,229,230,231,232,233,234,235,236,237,238,240,241,242,243,244,245,246,247,248,249,250,252,253,254,255,256,257,258,259,260,261,262,263,264,265,266,267,268,269,270,271,272,273,274,275,276,277,278,279,280,281,282,302,321,323,325]
noncomputable def cx (n:Nat):Cx:=⟨P,T,λf=>oT f fns,n⟩
def HC:rows.map (λp=>Uz P p.1)=rows.map (λp=>some (p.2.d,p.2.size,p.2.bytes,p.2.zero)):=by kernel_rfl
def at0:alg P fns=true:=by kernel_rfl
def apV:P.follows .mixedOrders=true:=by kernel_rfl
def ok (n:Nat):mJ (cx n):=asy HC at0 apV n
abbrev Bk (n:Nat)(fn:Func)(K:Value->World->Prop)(j:Nat)(l:List (Nat×Kd))(B:KP l):Prop:=YU (cx n) fn (aht (cx n) fn K) j l B
def nU:=bE (.o .b)
def yG:=λb c d e f g i j w (Q:Bool->WP)=>aq P 7 #[ae b,ae c,.slice d e f,.slice g i j] w (nU Q)
def Mo:=bE (.o (.i .i64))
def aY:=λb c d w (Q:Int->WP)=>aq P 10 #[ae b,ae c,ae d] w (Mo Q)
def ajz:=bE (.o .p)
def Ep:=λb c w (Q:OA->WP)=>aq P 11 #[ae b,ae c] w (ajz Q)
def IQ:=bE (.g [.i .i64,.i .i64,.i .i64,.i .i64,.l,.l,.i .u64,.i .u64,.i .u64,.i .u64,.i .u64,.i .u64])
def jg:=λb c d e f g i w (Q:Int->Int->Int->Int->L3 (L3 (Int->Int->Int->Int->Int->Int->WP)))=>aq P 12 #[.pointer b,.agg #[ae c,ae d,ae e,.slice f g i]] w (IQ Q)
def Dc:=bE (.o .l)
def lG:=λb c d e f w (Q:L3 WP)=>aq P 13 #[.agg #[ae b,ae c,.slice d e f]] w (Dc Q)
def O8:=bE (.o .l)
def mW:=λb w (Q:L3 WP)=>aq P 14 #[.pointer b] w (O8 Q)
def O9:=bE (.o .b)
def v_:=λw (Q:Bool->WP)=>aq P 15 #[] w (O9 Q)
def fN:=bE (.o .l)
def uV:=λb c d e f g i j w (Q:L3 WP)=>aq P 16 #[ae b,ae c,.slice d e f,.slice g i j] w (fN Q)
def TB:=bE (.o .l)
def yH:=λb c d e w (Q:L3 WP)=>aq P 17 #[.slice b c d,ae e] w (TB Q)
def TC:=bE (.g [.i .i64,.i .i64,.l])
def rX:=λb w (Q:Int->Int->L3 WP)=>aq P 19 #[.pointer b] w (TC Q)
def CG:=bE (.o (.i .i64))
def n6:=λb c d e w (Q:Int->WP)=>aq P 21 #[ae b,ae c,ae d,ae e] w (CG Q)
def O_:=bE (.g [.i .u64,.i .u64,.i .u64,.i .u64,.i .u64,.i .u64])
def qk:=λb w (Q:Int->Int->Int->Int->Int->Int->WP)=>aq P 22 #[.pointer b] w (O_ Q)
def N9:=bE (.o (.i .i64))
def jI:=λb c w (Q:Int->WP)=>aq P 23 #[ae b,ae c] w (N9 Q)
def ajA:=bE (.o .p)
def Jo:=λb w (Q:OA->WP)=>aq P 27 #[ae b] w (ajA Q)
def BO:=bE (.o .w)
def zS:=λb c d e f g i j w (Q:Value->WP)=>aq P 28 #[.pointer b,.agg #[ae c,ae d,ae e,.slice f g i],.pointer j] w (BO Q)
def ahv:=bE (.o (.i .i64))
def CH:=λb w (Q:Int->WP)=>aq P 29 #[b] w (ahv Q)
def K1:=gh [.o (.i .i64),.o .l]
def sP:=λb c d e f w (Q:Int->L3 WP)=>aq P 30 #[.agg #[ae b,ae c,.slice d e f]] w (K1 Q)
def Dd:=bE (.g [.i .i64,.i .i64,.l])
def tO:=λb c d e f g w (Q:Int->Int->L3 WP)=>aq P 31 #[.agg #[ae b,ae c,.slice d e f],ae g] w (Dd Q)
def TE:=bE (.o .p)
def Fi:=λb w (Q:OA->WP)=>aq P 32 #[.pointer b] w (TE Q)
def Pa:=bE (.o .l)
def mX:=λb w (Q:L3 WP)=>aq P 33 #[.pointer b] w (Pa Q)
def De:=bE (.o .b)
def tP:=λb c d e f g w (Q:Bool->WP)=>aq P 34 #[.slice b c d,.slice e f g] w (De Q)
def rY:=bE (.g [.i .i64,.i .i64,.l])
def ql:=λb c d e f w (Q:Int->Int->L3 WP)=>aq P 35 #[ae b,ae c,.slice d e f] w (rY Q)
def Pb:=bE (.o (.i .u8))
def qm:=λb w (Q:Int->WP)=>aq P 36 #[.int .u8 b] w (Pb Q)
def Fj:=bE (.g [.i .i64,.i .i64,.i .i64,.l])
def wc:=λb c d e w (Q:Int->Int->Int->L3 WP)=>aq P 37 #[.agg #[ae b,ae c,ae d],ae e] w (Fj Q)
def TF:=bE (.o .p)
def yI:=λb w (Q:OA->WP)=>aq P 39 #[.pointer b] w (TF Q)
def aaP:=bE (.g [.i .i64,.i .i64,.l])
def Dw:=λb w (Q:Int->Int->L3 WP)=>aq P 40 #[.pointer b] w (aaP Q)
def aaQ:=gh [.o (.i .i64),.o (.i .i64)]
def s8:=λb c d w (Q:Int->Int->WP)=>aq P 41 #[ae b,ae c,ae d] w (aaQ Q)
def acW:=bE (.o (.i .i64))
def zT:=λb c d e w (Q:Int->WP)=>aq P 42 #[ae b,ae c,ae d,ae e] w (acW Q)
def Xk:=bE (.g [.i .u64,.i .u64,.i .u64,.i .u64,.i .u64,.i .u64])
def AV:=λb w (Q:Int->Int->Int->Int->Int->Int->WP)=>aq P 43 #[.pointer b] w (Xk Q)
def K2:=gh [.o (.i .i64),.o (.i .i64)]
def kM:=λb c w (Q:Int->Int->WP)=>aq P 44 #[ae b,ae c] w (K2 Q)
def afF:=bE (.o .p)
def F6:=λb w (Q:OA->WP)=>aq P 47 #[ae b] w (afF Q)
def alm:=bE (.o .b)
def K3:=λb c d e f g w (Q:Bool->WP)=>aq P 48 #[.agg #[ae b,ae c,ae d,.slice e f g]] w (alm Q)
def Fk:=bE (.o .w)
def we:=λb c d e f g i w (Q:Value->WP)=>aq P 49 #[.pointer b,.agg #[ae c,ae d,ae e,.slice f g i]] w (Fk Q)
def Rt:=bE (.o .w)
def xJ:=λb c d e w (Q:Value->WP)=>aq P 50 #[.pointer b,.slice c d e] w (Rt Q)
def Xl:=gh []
def vA:=λb w (Q:WP)=>aq P 51 #[.pointer b] w (Xl Q)
def F7:=bE (.o .w)
def xK:=λb c d w (Q:Value->WP)=>aq P 52 #[.pointer b,ae c,ae d] w (F7 Q)
def Pc:=gh [.o (.i .i64),.o .w]
def wg:=λb c d w (Q:Int->Value->WP)=>aq P 53 #[.pointer b,ae c,ae d] w (Pc Q)
def acX:=bE (.o .w)
def gm:=λb w (Q:Value->WP)=>aq P 54 #[ae b] w (acX Q)
def K4:=bE (.o (.i .i64))
def sQ:=λb c d w (Q:Int->WP)=>aq P 55 #[.pointer b,ae c,ae d] w (K4 Q)
def Mp:=bE (.o (.i .i64))
def tQ:=λb c w (Q:Int->WP)=>aq P 56 #[.pointer b,ae c] w (Mp Q)
def Pd:=bE (.o .w)
def wj:=λb c d e w (Q:Value->WP)=>aq P 57 #[.pointer b,.pointer c,ae d,ae e] w (Pd Q)
def Ru:=bE (.o .w)
def xL:=λb c w (Q:Value->WP)=>aq P 58 #[.pointer b,.pointer c] w (Ru Q)
def afG:=bE (.o .b)
def o_:=λb c w (Q:Bool->WP)=>aq P 59 #[b,c] w (afG Q)
def Jp:=bE (.o .b)
def nv:=λb c w (Q:Bool->WP)=>aq P 60 #[b,c] w (Jp Q)
def lT:=bE (.o .l)
def wk:=λb c d w (Q:L3 WP)=>aq P 61 #[.slice b c d] w (lT Q)
def Pe:=gh [.o (.i .i64),.o (.i .i64)]
def qo:=λb c d w (Q:Int->Int->WP)=>aq P 62 #[ae b,ae c,ae d] w (Pe Q)
def Mq:=bE (.o (.i .i64))
def tR:=λb c d e w (Q:Int->WP)=>aq P 63 #[ae b,ae c,ae d,ae e] w (Mq Q)
def G9:=bE (.o .l)
def yJ:=λb w (Q:L3 WP)=>aq P 64 #[.pointer b] w (G9 Q)
def Rv:=bE (.o .b)
def ri:=λb c w (Q:Bool->WP)=>aq P 65 #[ae b,ae c] w (Rv Q)
def Xm:=bE (.g [.i .i64,.i .i64,.l])
def AW:=λb w (Q:Int->Int->L3 WP)=>aq P 67 #[.pointer b] w (Xm Q)
def ahw:=bE (.o .b)
def yK:=λb c d w (Q:Bool->WP)=>aq P 68 #[ae b,ae c,ae d] w (ahw Q)
def afH:=bE (.o .b)
def lH:=λb c w (Q:Bool->WP)=>aq P 69 #[ae b,ae c] w (afH Q)
def Jq:=bE (.g [.i .u64,.i .u64,.i .u64,.i .u64,.i .u64,.i .u64])
def wS:=λb c d e f g i j l m n o w (Q:Int->Int->Int->Int->Int->Int->WP)=>aq P 70 #[.agg #[.int .u64 b,.int .u64 c,.int .u64 d,.int .u64 e,.int .u64 f,.int .u64 g],.agg #[.int .u64 i,.int .u64 j,.int .u64 l,.int .u64 m,.int .u64 n,.int .u64 o]] w (Jq Q)
def U1:=bE (.g [.i .u64,.i .u64,.i .u64,.i .u64,.i .u64,.i .u64])
def tS:=λb w (Q:Int->Int->Int->Int->Int->Int->WP)=>aq P 71 #[.pointer b] w (U1 Q)
def Pf:=bE (.g [.i .u64,.i .u64,.i .u64,.i .u64,.i .u64,.i .u64])
def wm:=λb w (Q:Int->Int->Int->Int->Int->Int->WP)=>aq P 72 #[.pointer b] w (Pf Q)
def ajB:=bE (.o .p)
def Jr:=λb w (Q:OA->WP)=>aq P 74 #[ae b] w (ajB Q)
def aln:=bE (.o .b)
def K5:=λb c d w (Q:Bool->WP)=>aq P 75 #[.slice b c d] w (aln Q)
def Js:=gh [.g [.i .i64,.i .i64,.b],.o .b]
def wT:=λb w (Q:Int->Int->Bool->Bool->WP)=>aq P 76 #[ae b] w (Js Q)
def ajC:=bE (.o .b)
def AB:=λb c w (Q:Bool->WP)=>aq P 77 #[ae b,ae c] w (ajC Q)
def YV:=bE (.o (.i .i64))
def rI:=λb c w (Q:Int->WP)=>aq P 78 #[.pointer b,ae c] w (YV Q)
def afI:=gh [.g [.i .i64,.i .i64,.l],.o (.i .i64)]
def F8:=λb c d w (Q:Int->Int->L3 (Int->WP))=>aq P 79 #[.slice b c d] w (afI Q)
def YW:=bE (.o (.i .i64))
def BP:=λb c d e f g w (Q:Int->WP)=>aq P 80 #[.pointer b,.agg #[ae c,ae d,.slice e f g]] w (YW Q)
def afJ:=bE (.o .p)
def F9:=λb c d w (Q:OA->WP)=>aq P 81 #[ae b,ae c,ae d] w (afJ Q)
def Pg:=gh []
def qp:=λb w (Q:WP)=>aq P 82 #[.pointer b] w (Pg Q)
def Ph:=gh []
def qq:=λb w (Q:WP)=>aq P 83 #[.pointer b] w (Ph Q)
def TG:=bE (.o (.i .i64))
def yL:=λb c w (Q:Int->WP)=>aq P 84 #[.pointer b,ae c] w (TG Q)
def YX:=bE (.o (.i .i64))
def BQ:=λb c d w (Q:Int->WP)=>aq P 85 #[.pointer b,ae c,ae d] w (YX Q)
def Pj:=gh [.o (.i .i64),.o (.i .i64)]
def wo:=λb c d w (Q:Int->Int->WP)=>aq P 86 #[.pointer b,ae c,ae d] w (Pj Q)
def TJ:=gh [.g [.i .i64,.i .i64,.i .i64],.o .b]
def iR:=λb c w (Q:Int->Int->Int->Bool->WP)=>aq P 87 #[.pointer b,ae c] w (TJ Q)
def U2:=bE (.o .b)
def pe:=λb c w (Q:Bool->WP)=>aq P 88 #[.pointer b,ae c] w (U2 Q)
def rZ:=bE (.o (.i .i64))
def mY:=λb c d e w (Q:Int->WP)=>aq P 89 #[.pointer b,ae c,ae d,ae e] w (rZ Q)
def Rw:=gh []
def nI:=λb c d e w (Q:WP)=>aq P 90 #[.pointer b,.agg #[ae c,ae d,ae e]] w (Rw Q)
def TK:=bE (.o .b)
def yM:=λb c d w (Q:Bool->WP)=>aq P 91 #[.pointer b,ae c,ae d] w (TK Q)
def YY:=gh [.o (.i .i64),.o (.i .i64),.o (.i .i64)]
def BR:=λb c d w (Q:Int->Int->Int->WP)=>aq P 92 #[.pointer b,ae c,ae d] w (YY Q)
def jh:=gh [.o .l,.o .w]
def xM:=λb c d e w (Q:L3 (Value->WP))=>aq P 93 #[.pointer b,.slice c d e] w (jh Q)
def tT:=gh [.o .l,.o .l,.o (.i .i64)]
def xN:=λb c d e w (Q:L3 (L3 (Int->WP)))=>aq P 94 #[.pointer b,.slice c d e] w (tT Q)
def pW:=bE (.o .b)
def wU:=λb c d w (Q:Bool->WP)=>aq P 96 #[b,c,.bool d] w (pW Q)
def wJ:=bE (.o .b)
def F_:=λb c d e f g w (Q:Bool->WP)=>aq P 100 #[b,c,.agg #[.pointer d,.pointer e,.int .u64 f],g] w (wJ Q)
def TL:=bE (.o .b)
def lU:=λb c d w (Q:Bool->WP)=>aq P 101 #[ae b,ae c,ae d] w (TL Q)
def Fl:=bE (.o .l)
def qt:=λb w (Q:L3 WP)=>aq P 102 #[.pointer b] w (Fl Q)
def Jt:=bE (.o .l)
def jJ:=λb c d w (Q:L3 WP)=>aq P 103 #[.slice b c d] w (Jt Q)
def YZ:=bE (.g [.i .u64,.i .u64,.i .u64,.i .u64,.i .u64,.i .u64])
def cU:=λb c d e f g w (Q:Int->Int->Int->Int->Int->Int->WP)=>aq P 104 #[.agg #[.int .u64 b,.int .u64 c,.int .u64 d,.int .u64 e,.int .u64 f,.int .u64 g]] w (YZ Q)
def afK:=bE (.o (.i .u64))
def r6:=λb c w (Q:Int->WP)=>aq P 105 #[.int .u64 b,.int .u64 c] w (afK Q)
def TM:=bE (.o (.i .u64))
def r7:=λb w (Q:Int->WP)=>aq P 106 #[.pointer b] w (TM Q)
def N_:=bE (.o (.i .u64))
def pz:=λb w (Q:Int->WP)=>aq P 107 #[.pointer b] w (N_ Q)
def Xn:=gh []
def vB:=λb w (Q:WP)=>aq P 108 #[.pointer b] w (Xn Q)
def ajD:=gh [.g [.i .i64,.i .i64,.i .i64,.l],.o (.i .i64)]
def Ju:=λb c d w (Q:Int->Int->Int->L3 (Int->WP))=>aq P 109 #[.slice b c d] w (ajD Q)
def U3:=bE (.o (.i .i64))
def fe:=λb c w (Q:Int->WP)=>aq P 110 #[.pointer b,ae c] w (U3 Q)
def Pm:=gh [.g [.i .i64,.i .i64,.l],.o .w]
def EM:=λb c d w (Q:Int->Int->L3 (Value->WP))=>aq P 111 #[.slice b c d] w (Pm Q)
def afL:=bE (.o .b)
def Bd:=λb c d e f w (Q:Bool->WP)=>aq P 112 #[.agg #[ae b,ae c,.slice d e f]] w (afL Q)
def U4:=bE (.o .p)
def HD:=λb c d e f g w (Q:OA->WP)=>aq P 113 #[.agg #[ae b,ae c,.slice d e f],ae g] w (U4 Q)
def TN:=bE (.o (.i .i64))
def f_:=λb w (Q:Int->WP)=>aq P 114 #[.pointer b] w (TN Q)
def ahx:=bE (.o .p)
def HE:=λb w (Q:OA->WP)=>aq P 115 #[.pointer b] w (ahx Q)
def afM:=bE (.o .p)
def Ga:=λb c w (Q:OA->WP)=>aq P 116 #[.pointer b,.pointer c] w (afM Q)
def afN:=bE (.o .p)
def Gb:=λb w (Q:OA->WP)=>aq P 117 #[ae b] w (afN Q)
def afO:=bE (.o .p)
def Gc:=λb w (Q:OA->WP)=>aq P 118 #[ae b] w (afO Q)
def TO:=bE (.o (.i .i64))
def lV:=λb c w (Q:Int->WP)=>aq P 119 #[.pointer b,ae c] w (TO Q)
def U5:=bE (.o (.i .i64))
def zU:=λb c d w (Q:Int->WP)=>aq P 120 #[.pointer b,ae c,ae d] w (U5 Q)
def TP:=gh [.o (.i .i64),.o .b]
def yN:=λb c d w (Q:Int->Bool->WP)=>aq P 121 #[.pointer b,ae c,ae d] w (TP Q)
def TQ:=bE (.o .b)
def r8:=λb c d w (Q:Bool->WP)=>aq P 122 #[.pointer b,ae c,ae d] w (TQ Q)
def Y0:=bE (.o (.i .i64))
def dZ:=λb c d w (Q:Int->WP)=>aq P 123 #[ae b,ae c,ae d] w (Y0 Q)
def TR:=bE (.o (.i .i64))
def yO:=λb w (Q:Int->WP)=>aq P 124 #[.pointer b] w (TR Q)
def Rx:=bE (.o .b)
def xO:=λb c w (Q:Bool->WP)=>aq P 125 #[.pointer b,ae c] w (Rx Q)
def Ry:=bE (.o (.i .i64))
def rj:=λb c w (Q:Int->WP)=>aq P 126 #[.pointer b,ae c] w (Ry Q)
def TS:=bE (.o .b)
def r9:=λb c d w (Q:Bool->WP)=>aq P 127 #[.pointer b,ae c,d] w (TS Q)
def Pn:=gh []
def Df:=λb c w (Q:WP)=>aq P 128 #[.pointer b,.pointer c] w (Pn Q)
def Y1:=gh [.o (.i .i64),.o (.i .i64),.o .w]
def BS:=λb c d w (Q:Int->Int->Value->WP)=>aq P 129 #[.pointer b,ae c,ae d] w (Y1 Q)
def ahy:=bE (.o (.i .i64))
def yP:=λb w (Q:Int->WP)=>aq P 130 #[b] w (ahy Q)
def Y2:=gh [.o (.i .i64),.o (.i .i64)]
def wV:=λb w (Q:Int->Int->WP)=>aq P 131 #[.pointer b] w (Y2 Q)
def aaR:=bE (.o (.i .i64))
def nh:=λb c d w (Q:Int->WP)=>aq P 132 #[ae b,ae c,ae d] w (aaR Q)
def yQ:=bE (.o .l)
def EO:=λb c d e f w (Q:L3 WP)=>aq P 133 #[ae b,ae c,.slice d e f] w (yQ Q)
def Xo:=gh [.g [.l,.l],.o (.i .i64)]
def vC:=λb c d w (Q:L3 (L3 (Int->WP)))=>aq P 134 #[.pointer b,ae c,ae d] w (Xo Q)
def K6:=gh [.o .l,.o .l,.o .l,.o (.i .i64)]
def HF:=λb c d e f g i j w (Q:L3 (L3 (L3 (Int->WP))))=>aq P 135 #[ae b,ae c,.slice d e f,.slice g i j] w (K6 Q)
def Po:=bE (.o .b)
def wq:=λb c d w (Q:Bool->WP)=>aq P 136 #[.pointer b,ae c,ae d] w (Po Q)
def Rz:=bE (.o .b)
def xP:=λb c d w (Q:Bool->WP)=>aq P 137 #[.pointer b,ae c,ae d] w (Rz Q)
def Tb:=bE (.o (.i .i64))
def wW:=λb c d w (Q:Int->WP)=>aq P 140 #[.slice b c d] w (Tb Q)
def acY:=bE (.o (.i .i64))
def EP:=λb c w (Q:Int->WP)=>aq P 141 #[ae b,ae c] w (acY Q)
def acZ:=gh [.o (.i .i64),.o (.i .i64)]
def n7:=λb c d w (Q:Int->Int->WP)=>aq P 142 #[ae b,ae c,ae d] w (acZ Q)
def U6:=gh [.g [.i .i64,.i .i64,.l],.o (.i .i64),.o (.i .i64)]
def HG:=λb c d e f w (Q:Int->Int->L3 (Int->Int->WP))=>aq P 143 #[.slice b c d,ae e,ae f] w (U6 Q)
def Tc:=gh []
def Gd:=λb c d e f g i j l m n w (Q:WP)=>aq P 144 #[.agg #[ae b,ae c,.slice d e f],ae g,.agg #[ae i,ae j,.slice l m n]] w (Tc Q)
def G3:=bE (.o .b)
def iV:=λb c d e w (Q:Bool->WP)=>aq P 145 #[.slice b c d,.int .u8 e] w (G3 Q)
def Xp:=gh [.o (.i .i64),.o (.i .i64)]
def lu:=λb c w (Q:Int->Int->WP)=>aq P 146 #[ae b,ae c] w (Xp Q)
def U7:=gh [.o (.i .i64),.o (.i .i64)]
def eN:=λb w (Q:Int->Int->WP)=>aq P 147 #[.pointer b] w (U7 Q)
def U8:=bE (.o .b)
def tU:=λb c w (Q:Bool->WP)=>aq P 148 #[.pointer b,ae c] w (U8 Q)
def RA:=bE (.o .b)
def rm:=λb c w (Q:Bool->WP)=>aq P 149 #[.pointer b,ae c] w (RA Q)
def yl:=gh [.g [.l,.l],.o .w]
def vD:=λb c d w (Q:L3 (L3 (Value->WP)))=>aq P 150 #[.pointer b,ae c,ae d] w (yl Q)
def U9:=bE (.o .b)
def CI:=λb c d e f w (Q:Bool->WP)=>aq P 151 #[ae b,ae c,.slice d e f] w (U9 Q)
def Pp:=bE (.o .l)
def ER:=λb c d w (Q:L3 WP)=>aq P 152 #[.slice b c d] w (Pp Q)
def ac0:=bE (.o .b)
def K7:=λb w (Q:Bool->WP)=>aq P 153 #[ae b] w (ac0 Q)
def FP:=bE (.o .b)
def nJ:=λb c d e w (Q:Bool->WP)=>aq P 154 #[.slice b c d,e] w (FP Q)
def Ge:=bE (.o .b)
def xQ:=λb c d w (Q:Bool->WP)=>aq P 155 #[.pointer b,.pointer c,ae d] w (Ge Q)
def Oa:=gh []
def BT:=λb c w (Q:WP)=>aq P 156 #[.pointer b,.pointer c] w (Oa Q)
def Y3:=gh [.o (.i .i64),.o (.i .i64),.o .b]
def wX:=λb c d w (Q:Int->Int->Bool->WP)=>aq P 157 #[ae b,ae c,ae d] w (Y3 Q)
def zV:=gh [.g [.i .i64,.i .i64,.l],.o .w]
def xR:=λb c d w (Q:Int->Int->L3 (Value->WP))=>aq P 158 #[.pointer b,ae c,ae d] w (zV Q)
def Y4:=bE (.o (.i .i64))
def og:=λb c d e w (Q:Int->WP)=>aq P 159 #[ae b,ae c,ae d,ae e] w (Y4 Q)
def AD:=bE (.o (.i .i64))
def yR:=λb c d e w (Q:Int->WP)=>aq P 160 #[.slice b c d,.int .u8 e] w (AD Q)
def IS:=gh [.g [.i .i64,.i .i64,.l],.o .b]
def tV:=λb c w (Q:Int->Int->L3 (Bool->WP))=>aq P 161 #[.pointer b,ae c] w (IS Q)
def zW:=bE (.o .l)
def BU:=λb c d w (Q:L3 WP)=>aq P 162 #[.pointer b,.pointer c,ae d] w (zW Q)
def yS:=bE (.o .p)
def wu:=λb c w (Q:OA->WP)=>aq P 163 #[.pointer b,ae c] w (yS Q)
def nE:=gh [.g [.l,.l],.o (.i .i64)]
def oh:=λb c d e f g i j l m n o w (Q:L3 (L3 (Int->WP)))=>aq P 164 #[.pointer b,ae c,ae d,ae e,.agg #[ae f,ae g,.slice i j l],.slice m n o] w (nE Q)
def Pq:=bE (.o (.i .i64))
def i_:=λb c w (Q:Int->WP)=>aq P 165 #[.pointer b,ae c] w (Pq Q)
def yT:=bE (.o (.i .i64))
def wY:=λb c d e w (Q:Int->WP)=>aq P 166 #[.slice b c d,e] w (yT Q)
def RB:=gh [.o .l,.o .w]
def xS:=λb c w (Q:L3 (Value->WP))=>aq P 167 #[.pointer b,ae c] w (RB Q)
def ahz:=gh [.o .l,.o (.i .i64)]
def HH:=λb c d e f w (Q:L3 (Int->WP))=>aq P 168 #[.agg #[ae b,ae c,.slice d e f]] w (ahz Q)
def aaS:=bE (.o .b)
def Dx:=λb c d e f g w (Q:Bool->WP)=>aq P 169 #[.slice b c d,.slice e f g] w (aaS Q)
def Pt:=bE (.o (.i .i64))
def wv:=λb w (Q:Int->WP)=>aq P 170 #[.pointer b] w (Pt Q)
def K8:=bE (.o .l)
def om:=λb c w (Q:L3 WP)=>aq P 171 #[.pointer b,ae c] w (K8 Q)
def K9:=bE (.o .l)
def BV:=λb c w (Q:L3 WP)=>aq P 172 #[.pointer b,ae c] w (K9 Q)
def U_:=bE (.o (.i .i64))
def zX:=λb c w (Q:Int->WP)=>aq P 173 #[.pointer b,ae c] w (U_ Q)
def Pu:=bE (.o (.i .i64))
def ES:=λb c d e w (Q:Int->WP)=>aq P 174 #[ae b,ae c,ae d,ae e] w (Pu Q)
def RC:=bE (.o (.i .i64))
def xU:=λb w (Q:Int->WP)=>aq P 175 #[.pointer b] w (RC Q)
def ac1:=bE (.o .l)
def kC:=λb c d w (Q:L3 WP)=>aq P 176 #[.slice b c d] w (ac1 Q)
def Fm:=bE (.o (.i .i64))
def wB:=λb w (Q:Int->WP)=>aq P 177 #[.pointer b] w (Fm Q)
def ja:=bE (.o .p)
def tW:=λb c w (Q:OA->WP)=>aq P 178 #[.pointer b,ae c] w (ja Q)
def afP:=bE (.o .b)
def Be:=λb c d e f g i j w (Q:Bool->WP)=>aq P 179 #[.agg #[ae b,ae c,.slice d e f],.slice g i j] w (afP Q)
def Na:=gh [.o (.i .i64),.o .b,.o .b]
def Dy:=λb c d w (Q:Int->Bool->Bool->WP)=>aq P 180 #[.pointer b,ae c,ae d] w (Na Q)
def ac2:=bE (.o .b)
def ET:=λb c d e f g w (Q:Bool->WP)=>aq P 181 #[.slice b c d,.slice e f g] w (ac2 Q)
def afQ:=gh []
def r_:=λb w (Q:WP)=>aq P 182 #[.pointer b] w (afQ Q)
def afR:=bE (.g [.l,.l])
def Bf:=λb c d e f g w (Q:L3 (L3 WP))=>aq P 183 #[.agg #[.slice b c d,.slice e f g]] w (afR Q)
def Nb:=gh [.g [.l,.l],.o (.i .i64)]
def Dz:=λb c d e f g i j w (Q:L3 (L3 (Int->WP)))=>aq P 184 #[.agg #[ae b,ae c,.slice d e f],.slice g i j] w (Nb Q)
def DA:=bE (.o .l)
def ji:=λb c d w (Q:L3 WP)=>aq P 185 #[.slice b c d] w (DA Q)
def RD:=gh [.o .l,.o .w]
def nK:=λb c w (Q:L3 (Value->WP))=>aq P 186 #[.pointer b,ae c] w (RD Q)
def Pv:=gh [.o .l,.o .w]
def qu:=λb c w (Q:L3 (Value->WP))=>aq P 187 #[.pointer b,ae c] w (Pv Q)
def zY:=bE (.o .l)
def rJ:=λb c d e w (Q:L3 WP)=>aq P 188 #[.slice b c d,ae e] w (zY Q)
def tX:=gh [.o .l,.o .w]
def xV:=λb c w (Q:L3 (Value->WP))=>aq P 189 #[.pointer b,ae c] w (tX Q)
def ahA:=bE (.o .b)
def uN:=λb c d e f w (Q:Bool->WP)=>aq P 190 #[.agg #[ae b,ae c,.slice d e f]] w (ahA Q)
def CJ:=gh [.o (.i .i64),.o .l]
def EU:=λb c d e f w (Q:Int->L3 WP)=>aq P 191 #[.agg #[ae b,ae c,.slice d e f]] w (CJ Q)
def uW:=bE (.o .l)
def BW:=λb c d w (Q:L3 WP)=>aq P 192 #[ae b,ae c,ae d] w (uW Q)
def aaT:=bE (.o .b)
def s9:=λb c w (Q:Bool->WP)=>aq P 193 #[.pointer b,ae c] w (aaT Q)
def Y5:=bE (.g [.i .i64,.i .i64,.i .i64,.i .i64])
def wZ:=λw (Q:Int->Int->Int->Int->WP)=>aq P 194 #[] w (Y5 Q)
def aaU:=bE (.o (.i .i64))
def ym:=λb c d e w (Q:Int->WP)=>aq P 195 #[ae b,ae c,ae d,ae e] w (aaU Q)
def Bv:=gh []
def kN:=λb c d e w (Q:WP)=>aq P 196 #[.slice b c d,e] w (Bv Q)
def aaV:=bE (.o (.i .i64))
def DB:=λb c d e f g w (Q:Int->WP)=>aq P 197 #[.agg #[ae b,ae c,ae d],.agg #[ae e,ae f,ae g]] w (aaV Q)
def jj:=bE (.o .l)
def lz:=λb c d w (Q:L3 WP)=>aq P 198 #[.slice b c d] w (jj Q)
def G_:=bE (.o .l)
def yU:=λb w (Q:L3 WP)=>aq P 199 #[.pointer b] w (G_ Q)
def w8:=bE (.g [.i .i64,.l,.l])
def zZ:=λb c w (Q:Int->L3 (L3 WP))=>aq P 200 #[.pointer b,ae c] w (w8 Q)
def qf:=bE (.o .l)
def oV:=λb c d e w (Q:L3 WP)=>aq P 201 #[.slice b c d,ae e] w (qf Q)
def ahB:=bE (.o .p)
def CK:=λw (Q:OA->WP)=>aq P 202 #[] w (ahB Q)
def kj:=bE (.o .m)
def tY:=λb c w (Q:ON->WP)=>aq P 203 #[.pointer b,ae c] w (kj Q)
def TT:=bE (.o .l)
def yV:=λb c w (Q:L3 WP)=>aq P 204 #[.pointer b,ae c] w (TT Q)
def RE:=bE (.o .b)
def rq:=λb c d w (Q:Bool->WP)=>aq P 205 #[.pointer b,ae c,ae d] w (RE Q)
def Va:=gh []
def mL:=λb c d w (Q:WP)=>aq P 206 #[.pointer b,ae c,ae d] w (Va Q)
def DC (Q:Int->Int->Bool->World->Prop)(v:Value)(w:World):Prop:=
 dT v λc=>dK c λd e=>dI .i64 d λf=>dK e λg i=>dI .i64 g λj=>dK i λl m=>dB l λn=>kL m<|Q f j n w
def jD:=λb w (Q:Int->Int->Bool->WP)=>aq P 207 #[.pointer b] w (DC Q)
def He {b:Option Addr}{w:World}{Q Q':Int->Int->Bool->World->Prop}(hq:∀a b c w,Q a b c w->Q' a b c w)(h:jD b w Q):jD b w Q':=by
 refine aq.mono ?_ h
 intro v w' h0
 unfold DC at h0⊢
 obtain⟨c,rfl,h1⟩:=acJ h0
 obtain⟨d,e,rfl,h2⟩:=jE h1
 obtain⟨f,rfl,h3⟩:=CA h2
 obtain⟨g,i,rfl,h4⟩:=jE h3
 obtain⟨j,rfl,h5⟩:=CA h4
 obtain⟨l,m,rfl,h6⟩:=jE h5
 obtain⟨n,rfl,h7⟩:=Ht h6
 obtain⟨rfl,h8⟩:=rE h7
 exact hq _ _ _ w' h8
def BX:=bE (.o .l)
def z0:=λb c w (Q:L3 WP)=>aq P 208 #[.pointer b,ae c] w (BX Q)
def zD:=bE (.o .b)
def nX:=λb c d e w (Q:Bool->WP)=>aq P 209 #[.slice b c d,e] w (zD Q)
def aaW:=bE (.o .b)
def DD:=λb c d e w (Q:Bool->WP)=>aq P 210 #[.agg #[ae b,ae c,ae d],.pointer e] w (aaW Q)
def afS:=bE (.o .b)
def Gf:=λb c d e f g i w (Q:Bool->WP)=>aq P 211 #[.agg #[ae b,ae c,.slice d e f],ae g,ae i] w (afS Q)
def IT:=gh []
def tZ:=λb c w (Q:WP)=>aq P 212 #[.pointer b,ae c] w (IT Q)
def K_:=gh []
def w9:=λb c w (Q:WP)=>aq P 213 #[.pointer b,ae c] w (K_ Q)
def s_:=bE (.o .b)
def rK:=λb c d e f g w (Q:Bool->WP)=>aq P 214 #[.slice b c d,.slice e f g] w (s_ Q)
def La:=bE (.o .l)
def kO:=λb c d w (Q:L3 WP)=>aq P 215 #[.slice b c d] w (La Q)
def Lb:=gh [.o .l,.o (.i .i64)]
def w_:=λb c d e f g i j w (Q:L3 (Int->WP))=>aq P 216 #[.agg #[ae b,ae c,.slice d e f],.slice g i j] w (Lb Q)
def Vb:=bE (.o (.i .i64))
def z6:=λb c w (Q:Int->WP)=>aq P 217 #[.pointer b,ae c] w (Vb Q)
def Xq:=gh [.o (.i .u64),.o (.i .u64)]
def qy:=λb c w (Q:Int->Int->WP)=>aq P 218 #[.int .u64 b,.int .u64 c] w (Xq Q)
def ac3:=bE (.o .b)
def z7:=λb w (Q:Bool->WP)=>aq P 220 #[ae b] w (ac3 Q)
def yW:=bE (.o .l)
def HI:=λb c d e f g w (Q:L3 WP)=>aq P 221 #[.agg #[ae b,ae c,.slice d e f],ae g] w (yW Q)
def EV:=bE (.o .l)
def BY:=λb c d w (Q:L3 WP)=>aq P 222 #[ae b,ae c,ae d] w (EV Q)
def cG:=gh []
def fm:=λb c d e f g i w (Q:WP)=>aq P 223 #[.slice b c d,ae e,ae f,ae g,i] w (cG Q)
def Xr:=bE (.o (.i .i64))
def vF:=λb w (Q:Int->WP)=>aq P 224 #[.int .u64 b] w (Xr Q)
def Pw:=bE (.o (.i .i64))
def EW:=λb c d w (Q:Int->WP)=>aq P 225 #[.slice b c d] w (Pw Q)
def TU:=bE (.o (.i .i64))
def oo:=λb c w (Q:Int->WP)=>aq P 226 #[ae b,ae c] w (TU Q)
def CL:=gh [.o .l,.o (.i .i64)]
def EX:=λb c d e f g i j w (Q:L3 (Int->WP))=>aq P 227 #[.agg #[ae b,ae c,.slice d e f],.slice g i j] w (CL Q)
def Lc:=gh []
def BZ:=λb w (Q:WP)=>aq P 228 #[.pointer b] w (Lc Q)
def Xs:=gh [.o (.i .i64),.o (.i .i64),.o .b]
def AX:=λb w (Q:Int->Int->Bool->WP)=>aq P 229 #[.pointer b] w (Xs Q)
def oq:=gh []
def z8:=λb w (Q:WP)=>aq P 230 #[.pointer b] w (oq Q)
def Vc:=gh [.o .p,.o (.i .i64),.o .b]
def t_:=λb c w (Q:OA->Int->Bool->WP)=>aq P 231 #[.pointer b,ae c] w (Vc Q)
def Px:=bE (.o (.i .i64))
def wC:=λb c d w (Q:Int->WP)=>aq P 232 #[.pointer b,ae c,ae d] w (Px Q)
def qz:=bE (.o (.i .i64))
def pA:=λb c d e w (Q:Int->WP)=>aq P 233 #[.slice b c d,e] w (qz Q)
def ahC:=bE (.o .p)
def CM:=λb w (Q:OA->WP)=>aq P 234 #[ae b] w (ahC Q)
def ug:=bE (.o .l)
def j_:=λb c d e w (Q:L3 WP)=>aq P 235 #[.slice b c d,ae e] w (ug Q)
def Fo:=gh []
def Dg:=λb w (Q:WP)=>aq P 236 #[.pointer b] w (Fo Q)
def CN:=bE (.o (.i .i64))
def z9:=λb c d e f w (Q:Int->WP)=>aq P 237 #[.slice b c d,ae e,ae f] w (CN Q)
def uh:=bE (.o (.i .i64))
def DW:=λb c d w (Q:Int->WP)=>aq P 238 #[.pointer b,ae c,ae d] w (uh Q)
def TV:=gh [.o (.i .u64),.o (.i .u64)]
def Fp:=λb c w (Q:Int->Int->WP)=>aq P 240 #[.int .u64 b,.int .u64 c] w (TV Q)
def DX:=bE (.o .b)
def mM:=λb c d e w (Q:Bool->WP)=>aq P 241 #[.slice b c d,e] w (DX Q)
def ac4:=bE (.o .b)
def Ld:=λb c w (Q:Bool->WP)=>aq P 242 #[.int .u8 b,.pointer c] w (ac4 Q)
def iy:=gh []
def jK:=λb c d e f g w (Q:WP)=>aq P 243 #[.slice b c d,ae e,ae f,g] w (iy Q)
def mN:=gh []
def lQ:=λb c d e f g w (Q:WP)=>aq P 244 #[.slice b c d,ae e,ae f,g] w (mN Q)
def iz:=gh []
def jL:=λb c d e f g w (Q:WP)=>aq P 245 #[.slice b c d,ae e,ae f,g] w (iz Q)
def lA:=gh [.o (.i .i64),.o (.i .i64)]
def kE:=λb c d e f g w (Q:Int->Int->WP)=>aq P 246 #[.slice b c d,ae e,ae f,g] w (lA Q)
def pX:=gh []
def jZ:=λb c d e f g w (Q:WP)=>aq P 247 #[.slice b c d,ae e,ae f,g] w (pX Q)
def bq:=bE (.o .b)
def iG:=λb c d e f g w (Q:Bool->WP)=>aq P 248 #[.slice b c d,ae e,ae f,g] w (bq Q)
def eG:=bE (.o (.i .i64))
def jB:=λb c d e f g i w (Q:Int->WP)=>aq P 249 #[.slice b c d,ae e,ae f,ae g,i] w (eG Q)
def cP:=gh [.o (.i .i64),.o .b]
def lC:=λb c d e f g i w (Q:Int->Bool->WP)=>aq P 250 #[.slice b c d,ae e,ae f,ae g,i] w (cP Q)
def vG:=bE (.o (.i .i64))
def Fq:=λb w (Q:Int->WP)=>aq P 252 #[.int .u64 b] w (vG Q)
def Xt:=bE (.o .b)
def qA:=λb w (Q:Bool->WP)=>aq P 253 #[ae b] w (Xt Q)
def Td:=bE (.o .b)
def Gg:=λb c d e f g i j w (Q:Bool->WP)=>aq P 254 #[.agg #[ae b,ae c,.slice d e f],.slice g i j] w (Td Q)
def ahD:=gh [.o .l,.o (.i .i64)]
def HJ:=λb c d e f g w (Q:L3 (Int->WP))=>aq P 255 #[.agg #[ae b,ae c,.slice d e f],ae g] w (ahD Q)
def TX:=bE (.o .b)
def sj:=λb c d e w (Q:Bool->WP)=>aq P 256 #[.agg #[ae b,ae c],.agg #[ae d,ae e]] w (TX Q)
def Xu:=bE (.o (.i .i64))
def AY:=λb w (Q:Int->WP)=>aq P 257 #[.pointer b] w (Xu Q)
def TY:=gh [.o (.i .i64),.o .b]
def Fs:=λb c w (Q:Int->Bool->WP)=>aq P 258 #[.pointer b,ae c] w (TY Q)
def DY:=gh []
def jM:=λb w (Q:WP)=>aq P 259 #[.pointer b] w (DY Q)
def Xv:=bE (.o (.i .i64))
def qB:=λb w (Q:Int->WP)=>aq P 260 #[.pointer b] w (Xv Q)
def JV:=gh [.o (.i .i64),.o (.i .i64),.o .b]
def AZ:=λb w (Q:Int->Int->Bool->WP)=>aq P 261 #[.pointer b] w (JV Q)
def pB:=gh []
def sR:=λb c w (Q:WP)=>aq P 262 #[.pointer b,ae c] w (pB Q)
def Xw:=bE (.o .b)
def nF:=λb c d w (Q:Bool->WP)=>aq P 263 #[.pointer b,ae c,ae d] w (Xw Q)
def xd:=bE (.o (.i .i64))
def uX:=λb c d e w (Q:Int->WP)=>aq P 264 #[.slice b c d,e] w (xd Q)
def jv:=gh []
def iY:=λb c d e f g i w (Q:WP)=>aq P 265 #[.slice b c d,ae e,ae f,ae g,i] w (jv Q)
def Kc:=bE (.o (.i .u64))
def zK:=λb w (Q:Int->WP)=>aq P 266 #[ae b] w (Kc Q)
def Le:=bE (.o (.i .u64))
def sS:=λb w (Q:Int->WP)=>aq P 267 #[.pointer b] w (Le Q)
def zE:=bE (.o (.i .i64))
def fk:=λb c d e f g w (Q:Int->WP)=>aq P 268 #[.slice b c d,ae e,.pointer f,g] w (zE Q)
def DZ:=bE (.o (.i .i64))
def jw:=λb c d e f g i j w (Q:Int->WP)=>aq P 269 #[.slice b c d,ae e,ae f,ae g,.pointer i,j] w (DZ Q)
def ajE:=bE (.o (.i .i64))
def Jv:=λb c d e f g w (Q:Int->WP)=>aq P 270 #[.agg #[ae b,ae c,.slice d e f],ae g] w (ajE Q)
def vY:=gh [.o (.i .i64),.o .b]
def nL:=λb c d e w (Q:Int->Bool->WP)=>aq P 271 #[.slice b c d,ae e] w (vY Q)
def Vd:=bE (.o .b)
def z_:=λb c w (Q:Bool->WP)=>aq P 272 #[.pointer b,ae c] w (Vd Q)
def Xx:=bE (.o .b)
def vH:=λb c d w (Q:Bool->WP)=>aq P 273 #[.pointer b,ae c,ae d] w (Xx Q)
def Py:=bE (.o .b)
def qv:=λb w (Q:Bool->WP)=>aq P 274 #[.pointer b] w (Py Q)
def TZ:=bE (.o (.i .i64))
def yX:=λb w (Q:Int->WP)=>aq P 275 #[.pointer b] w (TZ Q)
def Mr:=gh []
def iA:=λb c d w (Q:WP)=>aq P 276 #[.pointer b,ae c,ae d] w (Mr Q)
def vJ:=bE (.o (.i .i64))
def yY:=λb c d w (Q:Int->WP)=>aq P 277 #[.pointer b,ae c,ae d] w (vJ Q)
def D0:=gh [.o (.i .i64),.o (.i .i64)]
def gQ:=λb c d e f g i w (Q:Int->Int->WP)=>aq P 278 #[.slice b c d,ae e,ae f,.pointer g,i] w (D0 Q)
def ajF:=bE (.o .b)
def Jw:=λb c d e f g w (Q:Bool->WP)=>aq P 279 #[.agg #[ae b,ae c,.slice d e f],ae g] w (ajF Q)
def Y6:=bE (.o .b)
def IU:=λb c w (Q:Bool->WP)=>aq P 280 #[ae b,ae c] w (Y6 Q)
def RF:=bE (.o .b)
def nM:=λb w (Q:Bool->WP)=>aq P 281 #[ae b] w (RF Q)
def T0:=gh []
def yZ:=λb c w (Q:WP)=>aq P 282 #[.pointer b,ae c] w (T0 Q)
def Ve:=bE (.o .w)
def Gh:=λb w (Q:Value->WP)=>aq P 302 #[.pointer b] w (Ve Q)
def Pz:=bE (.o .w)
def Dh:=λb w (Q:Value->WP)=>aq P 321 #[.pointer b] w (Pz Q)
def T1:=bE (.o .w)
def Ft:=λb w (Q:Value->WP)=>aq P 325 #[.pointer b] w (T1 Q)
def uj:=λa b c w Q=>bB (aY a b c w Q) (NZ (IntKind.wrap .i64 ((IntKind.wrap .i64 (c-b))+1))<|cond (decide ((Int.tmod a (IntKind.wrap .i64 ((IntKind.wrap .i64 (c-b))+1)))<0)) (Q (IntKind.wrap .i64 (b+(IntKind.wrap .i64 ((IntKind.wrap .i64 ((IntKind.wrap .i64 ((Int.tmod a (IntKind.wrap .i64 ((IntKind.wrap .i64 (c-b))+1)))+c))-b))+1)))) w) (Q (IntKind.wrap .i64 (b+(Int.tmod a (IntKind.wrap .i64 ((IntKind.wrap .i64 (c-b))+1))))) w)) (ok 24) [] [] Tryz.func10
def T2:=λa w Q=>bB (vB a w Q) (cond (!a.isNone) (cw P 180 none w λb w=>wA a λc=>St (c.add 1) (.slice none 0 0) w λw=>wA a λd=>St (d.add 2) (.map b) w λw=>wA a λe=>St (e.add 3) (ae (-1)) w λw=>wA a λf=>St (f.add 4) (ae (-1)) w λw=>Q w) (Q w)) (ok 17) [] [] Tryz.func108
def afT:=λa w Q=>bB (Jr a w Q) (cond (decide (a<1)) (Q none w) (Bx [ae a,.slice none 0 0,.map none,ae 0,ae 0] 182 w λb w=>vB (some b) w λw=>Q (some b) w)) (ok 12) [] [] Tryz.func74
def aaX:=λa w Q=>bB (F6 a w Q) (cond (decide (a<1)) (Q none w) (Jr a w λb w=>Bx [.pointer b,.slice none 0 0,.int .u64 0,.int .u64 0,.int .u64 0,.int .u64 0,.int .u64 0,.int .u64 0] 135 w λc w=>Q (some c) w)) (ok 9) [] [] Tryz.func47
def afU:=λa w Q=>bB (Jo a w Q) (cond (decide (a<1)) (Q none w) (F6 a w λb w=>Bx [.pointer none,.pointer none,.pointer none,.pointer b,.int .u64 0,.int .u64 0,.int .u64 0,.int .u64 0,.int .u64 0,.int .u64 0] 106 w λc w=>Q (some c) w)) (ok 9) [] [] Tryz.func27
def afV:=λa b w Q=>bB (Ep a b w Q) (cond (decide (a<1)) (Q none w) (cond (decide (b<1)) (Q none w) (cond (decide (b>65536)) (Q none w) (Jo a w λc w=>Bx [ae b,.pointer c,.pointer none] 72 w λd w=>Q (some d) w)))) (ok 20) [] [] Tryz.func11
def Fu:=λa w Q=>bB (yI a w Q) (cond a.isNone (Q none w) (wA a λb=>bg (b.add 1) w λc=>Q c w)) (ok 9) [] [] Tryz.func39
def Vf:=λa b c d e f w Q=>bB (cU a b c d e f w Q) (Bx [.int .u64 a,.int .u64 b,.int .u64 c,.int .u64 d,.int .u64 e,.int .u64 f] 32 w λg w=>Al T 175 w λi w=>af .u64 g w λj=>af .u64 (g.add 1) w λl=>af .u64 (g.add 2) w λm=>af .u64 (g.add 3) w λn=>af .u64 (g.add 4) w λo=>af .u64 (g.add 5) w λp=>St (i.add 0) (.int .u64 j) w λw=>St (i.add 1) (.int .u64 l) w λw=>St (i.add 2) (.int .u64 m) w λw=>St (i.add 3) (.int .u64 n) w λw=>St (i.add 4) (.int .u64 o) w λw=>St (i.add 5) (.int .u64 p) w λw=>af .u64 (i.add 0) w λq=>af .u64 (i.add 1) w λr=>af .u64 (i.add 2) w λs=>af .u64 (i.add 3) w λt=>af .u64 (i.add 4) w λu=>af .u64 (i.add 5) w λv=>Q q r s t u v w) (ok 16) [] [] Tryz.func104
def aaY:=λa b w Q=>bB (r6 a b w Q) (cond (decide (a>(IntKind.wrap .u64 (18446744073709551615-b)))) (Q 18446744073709551615 w) (Q (IntKind.wrap .u64 (a+b)) w)) (ok 12) [] [] Tryz.func105
def sU (Q:Int->Int->Int->Int->Int->Int->WP)(R3:Addr->Addr->Addr->Int->WP)(a b c:Addr)(d:Int)(w:World):Prop:=cond (decide (d<6)) (aK d 6<|af .u64 (b.add (d.toNat*1)) w.drew λe=>aK d 6<|af .u64 (c.add (d.toNat*1)) w.drew λf=>r6 e f w.drew λg w=>aK d 6<|St (b.add (d.toNat*1)) (.int .u64 g) w λw=>R3 a b c (IntKind.wrap .i64 (d+1)) w) (aK 0 6<|af .u64 (b.add (((0:Int).toNat)*1)) w λi=>aK 1 6<|af .u64 (b.add (((1:Int).toNat)*1)) w λj=>aK 2 6<|af .u64 (b.add (((2:Int).toNat)*1)) w λl=>aK 3 6<|af .u64 (b.add (((3:Int).toNat)*1)) w λm=>aK 4 6<|af .u64 (b.add (((4:Int).toNat)*1)) w λn=>aK 5 6<|af .u64 (b.add (((5:Int).toNat)*1)) w λo=>St (a.add 0) (.int .u64 i) w λw=>St (a.add 1) (.int .u64 j) w λw=>St (a.add 2) (.int .u64 l) w λw=>St (a.add 3) (.int .u64 m) w λw=>St (a.add 4) (.int .u64 n) w λw=>St (a.add 5) (.int .u64 o) w λw=>af .u64 (a.add 0) w λp=>af .u64 (a.add 1) w λq=>af .u64 (a.add 2) w λr=>af .u64 (a.add 3) w λs=>af .u64 (a.add 4) w λt=>af .u64 (a.add 5) w λu=>Q p q r s t u w)
def pY (Q:Int->Int->Int->Int->Int->Int->WP):Nat->Addr->Addr->Addr->Int->WP
 |0,_,_,_,_,_=>False
 |k+1,a,b,c,d,w=>sU Q (pY Q k) a b c d w
def gY (Q:Int->Int->Int->Int->Int->Int->WP)(a b c:Addr)(w:World):Prop:=∃k',pY Q k' a b c 0 w
noncomputable def HK:cv:=[(1,.op 0 (.op 2 (.br (.op 1 (.br (.op 3 (.br (.op 4 (.op 5 (.op 6 (.op 7 .done)))) (.op 5 (.op 4 (.op 6 (.op 7 .done)))))) (.br (.op 4 (.br (.op 3 (.op 5 (.op 6 (.op 7 .done)))) (.op 5 (.op 3 (.op 6 (.op 7 .done)))))) (.op 5 (.br (.op 3 (.op 4 (.op 6 (.op 7 .done)))) (.op 4 (.op 3 (.op 6 (.op 7 .done))))))))) (.br (.op 4 (.br (.op 1 (.br (.op 3 (.op 5 (.op 6 (.op 7 .done)))) (.op 5 (.op 3 (.op 6 (.op 7 .done)))))) (.op 5 (.op 1 (.op 3 (.op 6 (.op 7 .done))))))) (.op 5 (.br (.op 1 (.br (.op 3 (.op 4 (.op 6 (.op 7 .done)))) (.op 4 (.op 3 (.op 6 (.op 7 .done)))))) (.op 4 (.op 1 (.op 3 (.op 6 (.op 7 .done))))))))))),(5,sp 0 7 (.op 7 (.op 8 (.op 9 .done))))]
def afW (Q):∀k,Bk 38 Tryz.f70 (Jq Q) 3 [(4,.a),(5,.a),(6,.a),(12,.i .i64)] (pY Q k):=bM λk h=>aT (ok 38) HK [aM h]
def afX (Q):Bk 38 Tryz.f70 (Jq Q) 2 [(4,.a),(5,.a),(6,.a)] (gY Q):=aT (ok 38) HK [cu (afW Q)]
def aaZ:=λa b c d e f g i j l m n w Q=>bB (wS a b c d e f g i j l m n w Q) (Bx [.int .u64 a,.int .u64 b,.int .u64 c,.int .u64 d,.int .u64 e,.int .u64 f] 32 w λo w=>Bx [.int .u64 g,.int .u64 i,.int .u64 j,.int .u64 l,.int .u64 m,.int .u64 n] 32 w λp w=>Al T 32 w λq w=>af .u64 (o.add 0) w.drew λr=>af .u64 (o.add 1) w.drew λs=>af .u64 (o.add 2) w.drew λt=>af .u64 (o.add 3) w.drew λu=>af .u64 (o.add 4) w.drew λv=>af .u64 (o.add 5) w.drew λx=>af .u64 (p.add 0) w.drew λy=>af .u64 (p.add 1) w.drew λz=>af .u64 (p.add 2) w.drew λa1=>af .u64 (p.add 3) w.drew λb1=>af .u64 (p.add 4) w.drew λc1=>af .u64 (p.add 5) w.drew λd1=>(cU r s t u v x w.drew λe1 f1 g1 i1 j1 l1 w=>w.cell? (p.add 0)=some (.int .u64 y)/\w.cell? (p.add 1)=some (.int .u64 z)/\w.cell? (p.add 2)=some (.int .u64 a1)/\w.cell? (p.add 3)=some (.int .u64 b1)/\w.cell? (p.add 4)=some (.int .u64 c1)/\w.cell? (p.add 5)=some (.int .u64 d1)/\(cU y z a1 b1 c1 d1 w λm1 n1 o1 p1 q1 r1 w=>(Al T 175 w λs1 w=>w.cell? (p.add 0)=some (.int .u64 y)/\w.cell? (p.add 1)=some (.int .u64 z)/\w.cell? (p.add 2)=some (.int .u64 a1)/\w.cell? (p.add 3)=some (.int .u64 b1)/\w.cell? (p.add 4)=some (.int .u64 c1)/\w.cell? (p.add 5)=some (.int .u64 d1)/\w.cell? (o.add 0)=some (.int .u64 r)/\w.cell? (o.add 1)=some (.int .u64 s)/\w.cell? (o.add 2)=some (.int .u64 t)/\w.cell? (o.add 3)=some (.int .u64 u)/\w.cell? (o.add 4)=some (.int .u64 v)/\w.cell? (o.add 5)=some (.int .u64 x)/\Al T 175 w λt1 w=>w.cell? (p.add 0)=some (.int .u64 y)/\w.cell? (p.add 1)=some (.int .u64 z)/\w.cell? (p.add 2)=some (.int .u64 a1)/\w.cell? (p.add 3)=some (.int .u64 b1)/\w.cell? (p.add 4)=some (.int .u64 c1)/\w.cell? (p.add 5)=some (.int .u64 d1)/\w.cell? (o.add 0)=some (.int .u64 r)/\w.cell? (o.add 1)=some (.int .u64 s)/\w.cell? (o.add 2)=some (.int .u64 t)/\w.cell? (o.add 3)=some (.int .u64 u)/\w.cell? (o.add 4)=some (.int .u64 v)/\w.cell? (o.add 5)=some (.int .u64 x)/\St (s1.add 0) (.int .u64 e1) w λw=>St (s1.add 1) (.int .u64 f1) w λw=>St (s1.add 2) (.int .u64 g1) w λw=>St (s1.add 3) (.int .u64 i1) w λw=>St (s1.add 4) (.int .u64 j1) w λw=>St (s1.add 5) (.int .u64 l1) w λw=>St (t1.add 0) (.int .u64 m1) w λw=>St (t1.add 1) (.int .u64 n1) w λw=>St (t1.add 2) (.int .u64 o1) w λw=>St (t1.add 3) (.int .u64 p1) w λw=>St (t1.add 4) (.int .u64 q1) w λw=>St (t1.add 5) (.int .u64 r1) w λw=>gY Q q s1 t1 w)/\(Al T 175 w λu1 w=>w.cell? (p.add 0)=some (.int .u64 y)/\w.cell? (p.add 1)=some (.int .u64 z)/\w.cell? (p.add 2)=some (.int .u64 a1)/\w.cell? (p.add 3)=some (.int .u64 b1)/\w.cell? (p.add 4)=some (.int .u64 c1)/\w.cell? (p.add 5)=some (.int .u64 d1)/\w.cell? (o.add 0)=some (.int .u64 r)/\w.cell? (o.add 1)=some (.int .u64 s)/\w.cell? (o.add 2)=some (.int .u64 t)/\w.cell? (o.add 3)=some (.int .u64 u)/\w.cell? (o.add 4)=some (.int .u64 v)/\w.cell? (o.add 5)=some (.int .u64 x)/\Al T 175 w λv1 w=>w.cell? (p.add 0)=some (.int .u64 y)/\w.cell? (p.add 1)=some (.int .u64 z)/\w.cell? (p.add 2)=some (.int .u64 a1)/\w.cell? (p.add 3)=some (.int .u64 b1)/\w.cell? (p.add 4)=some (.int .u64 c1)/\w.cell? (p.add 5)=some (.int .u64 d1)/\w.cell? (o.add 0)=some (.int .u64 r)/\w.cell? (o.add 1)=some (.int .u64 s)/\w.cell? (o.add 2)=some (.int .u64 t)/\w.cell? (o.add 3)=some (.int .u64 u)/\w.cell? (o.add 4)=some (.int .u64 v)/\w.cell? (o.add 5)=some (.int .u64 x)/\St (v1.add 0) (.int .u64 e1) w λw=>St (v1.add 1) (.int .u64 f1) w λw=>St (v1.add 2) (.int .u64 g1) w λw=>St (v1.add 3) (.int .u64 i1) w λw=>St (v1.add 4) (.int .u64 j1) w λw=>St (v1.add 5) (.int .u64 l1) w λw=>St (u1.add 0) (.int .u64 m1) w λw=>St (u1.add 1) (.int .u64 n1) w λw=>St (u1.add 2) (.int .u64 o1) w λw=>St (u1.add 3) (.int .u64 p1) w λw=>St (u1.add 4) (.int .u64 q1) w λw=>St (u1.add 5) (.int .u64 r1) w λw=>gY Q q v1 u1 w))/\((Al T 175 w λx1 w=>w.cell? (p.add 0)=some (.int .u64 y)/\w.cell? (p.add 1)=some (.int .u64 z)/\w.cell? (p.add 2)=some (.int .u64 a1)/\w.cell? (p.add 3)=some (.int .u64 b1)/\w.cell? (p.add 4)=some (.int .u64 c1)/\w.cell? (p.add 5)=some (.int .u64 d1)/\w.cell? (o.add 0)=some (.int .u64 r)/\w.cell? (o.add 1)=some (.int .u64 s)/\w.cell? (o.add 2)=some (.int .u64 t)/\w.cell? (o.add 3)=some (.int .u64 u)/\w.cell? (o.add 4)=some (.int .u64 v)/\w.cell? (o.add 5)=some (.int .u64 x)/\(cU y z a1 b1 c1 d1 w λy1 z1 a2 b2 c2 d2 w=>Al T 175 w λe2 w=>w.cell? (p.add 0)=some (.int .u64 y)/\w.cell? (p.add 1)=some (.int .u64 z)/\w.cell? (p.add 2)=some (.int .u64 a1)/\w.cell? (p.add 3)=some (.int .u64 b1)/\w.cell? (p.add 4)=some (.int .u64 c1)/\w.cell? (p.add 5)=some (.int .u64 d1)/\w.cell? (o.add 0)=some (.int .u64 r)/\w.cell? (o.add 1)=some (.int .u64 s)/\w.cell? (o.add 2)=some (.int .u64 t)/\w.cell? (o.add 3)=some (.int .u64 u)/\w.cell? (o.add 4)=some (.int .u64 v)/\w.cell? (o.add 5)=some (.int .u64 x)/\St (x1.add 0) (.int .u64 e1) w λw=>St (x1.add 1) (.int .u64 f1) w λw=>St (x1.add 2) (.int .u64 g1) w λw=>St (x1.add 3) (.int .u64 i1) w λw=>St (x1.add 4) (.int .u64 j1) w λw=>St (x1.add 5) (.int .u64 l1) w λw=>St (e2.add 0) (.int .u64 y1) w λw=>St (e2.add 1) (.int .u64 z1) w λw=>St (e2.add 2) (.int .u64 a2) w λw=>St (e2.add 3) (.int .u64 b2) w λw=>St (e2.add 4) (.int .u64 c2) w λw=>St (e2.add 5) (.int .u64 d2) w λw=>gY Q q x1 e2 w)/\(Al T 175 w λf2 w=>w.cell? (p.add 0)=some (.int .u64 y)/\w.cell? (p.add 1)=some (.int .u64 z)/\w.cell? (p.add 2)=some (.int .u64 a1)/\w.cell? (p.add 3)=some (.int .u64 b1)/\w.cell? (p.add 4)=some (.int .u64 c1)/\w.cell? (p.add 5)=some (.int .u64 d1)/\w.cell? (o.add 0)=some (.int .u64 r)/\w.cell? (o.add 1)=some (.int .u64 s)/\w.cell? (o.add 2)=some (.int .u64 t)/\w.cell? (o.add 3)=some (.int .u64 u)/\w.cell? (o.add 4)=some (.int .u64 v)/\w.cell? (o.add 5)=some (.int .u64 x)/\cU y z a1 b1 c1 d1 w λg2 i2 j2 l2 m2 n2 w=>St (x1.add 0) (.int .u64 e1) w λw=>St (x1.add 1) (.int .u64 f1) w λw=>St (x1.add 2) (.int .u64 g1) w λw=>St (x1.add 3) (.int .u64 i1) w λw=>St (x1.add 4) (.int .u64 j1) w λw=>St (x1.add 5) (.int .u64 l1) w λw=>St (f2.add 0) (.int .u64 g2) w λw=>St (f2.add 1) (.int .u64 i2) w λw=>St (f2.add 2) (.int .u64 j2) w λw=>St (f2.add 3) (.int .u64 l2) w λw=>St (f2.add 4) (.int .u64 m2) w λw=>St (f2.add 5) (.int .u64 n2) w λw=>gY Q q x1 f2 w))/\(Al T 175 w λo2 w=>w.cell? (p.add 0)=some (.int .u64 y)/\w.cell? (p.add 1)=some (.int .u64 z)/\w.cell? (p.add 2)=some (.int .u64 a1)/\w.cell? (p.add 3)=some (.int .u64 b1)/\w.cell? (p.add 4)=some (.int .u64 c1)/\w.cell? (p.add 5)=some (.int .u64 d1)/\w.cell? (o.add 0)=some (.int .u64 r)/\w.cell? (o.add 1)=some (.int .u64 s)/\w.cell? (o.add 2)=some (.int .u64 t)/\w.cell? (o.add 3)=some (.int .u64 u)/\w.cell? (o.add 4)=some (.int .u64 v)/\w.cell? (o.add 5)=some (.int .u64 x)/\(cU y z a1 b1 c1 d1 w λp2 q2 r2 s2 t2 u2 w=>Al T 175 w λv2 w=>w.cell? (p.add 0)=some (.int .u64 y)/\w.cell? (p.add 1)=some (.int .u64 z)/\w.cell? (p.add 2)=some (.int .u64 a1)/\w.cell? (p.add 3)=some (.int .u64 b1)/\w.cell? (p.add 4)=some (.int .u64 c1)/\w.cell? (p.add 5)=some (.int .u64 d1)/\w.cell? (o.add 0)=some (.int .u64 r)/\w.cell? (o.add 1)=some (.int .u64 s)/\w.cell? (o.add 2)=some (.int .u64 t)/\w.cell? (o.add 3)=some (.int .u64 u)/\w.cell? (o.add 4)=some (.int .u64 v)/\w.cell? (o.add 5)=some (.int .u64 x)/\St (v2.add 0) (.int .u64 e1) w λw=>St (v2.add 1) (.int .u64 f1) w λw=>St (v2.add 2) (.int .u64 g1) w λw=>St (v2.add 3) (.int .u64 i1) w λw=>St (v2.add 4) (.int .u64 j1) w λw=>St (v2.add 5) (.int .u64 l1) w λw=>St (o2.add 0) (.int .u64 p2) w λw=>St (o2.add 1) (.int .u64 q2) w λw=>St (o2.add 2) (.int .u64 r2) w λw=>St (o2.add 3) (.int .u64 s2) w λw=>St (o2.add 4) (.int .u64 t2) w λw=>St (o2.add 5) (.int .u64 u2) w λw=>gY Q q v2 o2 w)/\(Al T 175 w λx2 w=>w.cell? (p.add 0)=some (.int .u64 y)/\w.cell? (p.add 1)=some (.int .u64 z)/\w.cell? (p.add 2)=some (.int .u64 a1)/\w.cell? (p.add 3)=some (.int .u64 b1)/\w.cell? (p.add 4)=some (.int .u64 c1)/\w.cell? (p.add 5)=some (.int .u64 d1)/\w.cell? (o.add 0)=some (.int .u64 r)/\w.cell? (o.add 1)=some (.int .u64 s)/\w.cell? (o.add 2)=some (.int .u64 t)/\w.cell? (o.add 3)=some (.int .u64 u)/\w.cell? (o.add 4)=some (.int .u64 v)/\w.cell? (o.add 5)=some (.int .u64 x)/\cU y z a1 b1 c1 d1 w λy2 z2 a3 b3 c3 d3 w=>St (x2.add 0) (.int .u64 e1) w λw=>St (x2.add 1) (.int .u64 f1) w λw=>St (x2.add 2) (.int .u64 g1) w λw=>St (x2.add 3) (.int .u64 i1) w λw=>St (x2.add 4) (.int .u64 j1) w λw=>St (x2.add 5) (.int .u64 l1) w λw=>St (o2.add 0) (.int .u64 y2) w λw=>St (o2.add 1) (.int .u64 z2) w λw=>St (o2.add 2) (.int .u64 a3) w λw=>St (o2.add 3) (.int .u64 b3) w λw=>St (o2.add 4) (.int .u64 c3) w λw=>St (o2.add 5) (.int .u64 d3) w λw=>gY Q q x2 o2 w))))/\((Al T 175 w.drew λe3 w=>w.cell? (p.add 0)=some (.int .u64 y)/\w.cell? (p.add 1)=some (.int .u64 z)/\w.cell? (p.add 2)=some (.int .u64 a1)/\w.cell? (p.add 3)=some (.int .u64 b1)/\w.cell? (p.add 4)=some (.int .u64 c1)/\w.cell? (p.add 5)=some (.int .u64 d1)/\w.cell? (o.add 0)=some (.int .u64 r)/\w.cell? (o.add 1)=some (.int .u64 s)/\w.cell? (o.add 2)=some (.int .u64 t)/\w.cell? (o.add 3)=some (.int .u64 u)/\w.cell? (o.add 4)=some (.int .u64 v)/\w.cell? (o.add 5)=some (.int .u64 x)/\(cU r s t u v x w λf3 g3 i3 j3 l3 m3 w=>w.cell? (p.add 0)=some (.int .u64 y)/\w.cell? (p.add 1)=some (.int .u64 z)/\w.cell? (p.add 2)=some (.int .u64 a1)/\w.cell? (p.add 3)=some (.int .u64 b1)/\w.cell? (p.add 4)=some (.int .u64 c1)/\w.cell? (p.add 5)=some (.int .u64 d1)/\(cU y z a1 b1 c1 d1 w λn3 o3 p3 q3 r3 s3 w=>Al T 175 w λt3 w=>w.cell? (p.add 0)=some (.int .u64 y)/\w.cell? (p.add 1)=some (.int .u64 z)/\w.cell? (p.add 2)=some (.int .u64 a1)/\w.cell? (p.add 3)=some (.int .u64 b1)/\w.cell? (p.add 4)=some (.int .u64 c1)/\w.cell? (p.add 5)=some (.int .u64 d1)/\w.cell? (o.add 0)=some (.int .u64 r)/\w.cell? (o.add 1)=some (.int .u64 s)/\w.cell? (o.add 2)=some (.int .u64 t)/\w.cell? (o.add 3)=some (.int .u64 u)/\w.cell? (o.add 4)=some (.int .u64 v)/\w.cell? (o.add 5)=some (.int .u64 x)/\St (e3.add 0) (.int .u64 f3) w λw=>St (e3.add 1) (.int .u64 g3) w λw=>St (e3.add 2) (.int .u64 i3) w λw=>St (e3.add 3) (.int .u64 j3) w λw=>St (e3.add 4) (.int .u64 l3) w λw=>St (e3.add 5) (.int .u64 m3) w λw=>St (t3.add 0) (.int .u64 n3) w λw=>St (t3.add 1) (.int .u64 o3) w λw=>St (t3.add 2) (.int .u64 p3) w λw=>St (t3.add 3) (.int .u64 q3) w λw=>St (t3.add 4) (.int .u64 r3) w λw=>St (t3.add 5) (.int .u64 s3) w λw=>gY Q q e3 t3 w)/\(Al T 175 w λu3 w=>w.cell? (p.add 0)=some (.int .u64 y)/\w.cell? (p.add 1)=some (.int .u64 z)/\w.cell? (p.add 2)=some (.int .u64 a1)/\w.cell? (p.add 3)=some (.int .u64 b1)/\w.cell? (p.add 4)=some (.int .u64 c1)/\w.cell? (p.add 5)=some (.int .u64 d1)/\w.cell? (o.add 0)=some (.int .u64 r)/\w.cell? (o.add 1)=some (.int .u64 s)/\w.cell? (o.add 2)=some (.int .u64 t)/\w.cell? (o.add 3)=some (.int .u64 u)/\w.cell? (o.add 4)=some (.int .u64 v)/\w.cell? (o.add 5)=some (.int .u64 x)/\cU y z a1 b1 c1 d1 w λv3 x3 y3 z3 a4 b4 w=>St (e3.add 0) (.int .u64 f3) w λw=>St (e3.add 1) (.int .u64 g3) w λw=>St (e3.add 2) (.int .u64 i3) w λw=>St (e3.add 3) (.int .u64 j3) w λw=>St (e3.add 4) (.int .u64 l3) w λw=>St (e3.add 5) (.int .u64 m3) w λw=>St (u3.add 0) (.int .u64 v3) w λw=>St (u3.add 1) (.int .u64 x3) w λw=>St (u3.add 2) (.int .u64 y3) w λw=>St (u3.add 3) (.int .u64 z3) w λw=>St (u3.add 4) (.int .u64 a4) w λw=>St (u3.add 5) (.int .u64 b4) w λw=>gY Q q e3 u3 w))/\(Al T 175 w λc4 w=>w.cell? (p.add 0)=some (.int .u64 y)/\w.cell? (p.add 1)=some (.int .u64 z)/\w.cell? (p.add 2)=some (.int .u64 a1)/\w.cell? (p.add 3)=some (.int .u64 b1)/\w.cell? (p.add 4)=some (.int .u64 c1)/\w.cell? (p.add 5)=some (.int .u64 d1)/\w.cell? (o.add 0)=some (.int .u64 r)/\w.cell? (o.add 1)=some (.int .u64 s)/\w.cell? (o.add 2)=some (.int .u64 t)/\w.cell? (o.add 3)=some (.int .u64 u)/\w.cell? (o.add 4)=some (.int .u64 v)/\w.cell? (o.add 5)=some (.int .u64 x)/\cU r s t u v x w λd4 e4 f4 g4 i4 j4 w=>w.cell? (p.add 0)=some (.int .u64 y)/\w.cell? (p.add 1)=some (.int .u64 z)/\w.cell? (p.add 2)=some (.int .u64 a1)/\w.cell? (p.add 3)=some (.int .u64 b1)/\w.cell? (p.add 4)=some (.int .u64 c1)/\w.cell? (p.add 5)=some (.int .u64 d1)/\cU y z a1 b1 c1 d1 w λl4 m4 n4 o4 p4 q4 w=>St (e3.add 0) (.int .u64 d4) w λw=>St (e3.add 1) (.int .u64 e4) w λw=>St (e3.add 2) (.int .u64 f4) w λw=>St (e3.add 3) (.int .u64 g4) w λw=>St (e3.add 4) (.int .u64 i4) w λw=>St (e3.add 5) (.int .u64 j4) w λw=>St (c4.add 0) (.int .u64 l4) w λw=>St (c4.add 1) (.int .u64 m4) w λw=>St (c4.add 2) (.int .u64 n4) w λw=>St (c4.add 3) (.int .u64 o4) w λw=>St (c4.add 4) (.int .u64 p4) w λw=>St (c4.add 5) (.int .u64 q4) w λw=>gY Q q e3 c4 w))/\(Al T 175 w.drew λr4 w=>w.cell? (p.add 0)=some (.int .u64 y)/\w.cell? (p.add 1)=some (.int .u64 z)/\w.cell? (p.add 2)=some (.int .u64 a1)/\w.cell? (p.add 3)=some (.int .u64 b1)/\w.cell? (p.add 4)=some (.int .u64 c1)/\w.cell? (p.add 5)=some (.int .u64 d1)/\w.cell? (o.add 0)=some (.int .u64 r)/\w.cell? (o.add 1)=some (.int .u64 s)/\w.cell? (o.add 2)=some (.int .u64 t)/\w.cell? (o.add 3)=some (.int .u64 u)/\w.cell? (o.add 4)=some (.int .u64 v)/\w.cell? (o.add 5)=some (.int .u64 x)/\(cU r s t u v x w λs4 t4 u4 v4 x4 y4 w=>w.cell? (p.add 0)=some (.int .u64 y)/\w.cell? (p.add 1)=some (.int .u64 z)/\w.cell? (p.add 2)=some (.int .u64 a1)/\w.cell? (p.add 3)=some (.int .u64 b1)/\w.cell? (p.add 4)=some (.int .u64 c1)/\w.cell? (p.add 5)=some (.int .u64 d1)/\(cU y z a1 b1 c1 d1 w λz4 a5 b5 c5 d5 e5 w=>Al T 175 w λf5 w=>w.cell? (p.add 0)=some (.int .u64 y)/\w.cell? (p.add 1)=some (.int .u64 z)/\w.cell? (p.add 2)=some (.int .u64 a1)/\w.cell? (p.add 3)=some (.int .u64 b1)/\w.cell? (p.add 4)=some (.int .u64 c1)/\w.cell? (p.add 5)=some (.int .u64 d1)/\w.cell? (o.add 0)=some (.int .u64 r)/\w.cell? (o.add 1)=some (.int .u64 s)/\w.cell? (o.add 2)=some (.int .u64 t)/\w.cell? (o.add 3)=some (.int .u64 u)/\w.cell? (o.add 4)=some (.int .u64 v)/\w.cell? (o.add 5)=some (.int .u64 x)/\St (f5.add 0) (.int .u64 s4) w λw=>St (f5.add 1) (.int .u64 t4) w λw=>St (f5.add 2) (.int .u64 u4) w λw=>St (f5.add 3) (.int .u64 v4) w λw=>St (f5.add 4) (.int .u64 x4) w λw=>St (f5.add 5) (.int .u64 y4) w λw=>St (r4.add 0) (.int .u64 z4) w λw=>St (r4.add 1) (.int .u64 a5) w λw=>St (r4.add 2) (.int .u64 b5) w λw=>St (r4.add 3) (.int .u64 c5) w λw=>St (r4.add 4) (.int .u64 d5) w λw=>St (r4.add 5) (.int .u64 e5) w λw=>gY Q q f5 r4 w)/\(Al T 175 w λg5 w=>w.cell? (p.add 0)=some (.int .u64 y)/\w.cell? (p.add 1)=some (.int .u64 z)/\w.cell? (p.add 2)=some (.int .u64 a1)/\w.cell? (p.add 3)=some (.int .u64 b1)/\w.cell? (p.add 4)=some (.int .u64 c1)/\w.cell? (p.add 5)=some (.int .u64 d1)/\w.cell? (o.add 0)=some (.int .u64 r)/\w.cell? (o.add 1)=some (.int .u64 s)/\w.cell? (o.add 2)=some (.int .u64 t)/\w.cell? (o.add 3)=some (.int .u64 u)/\w.cell? (o.add 4)=some (.int .u64 v)/\w.cell? (o.add 5)=some (.int .u64 x)/\cU y z a1 b1 c1 d1 w λi5 j5 l5 m5 n5 o5 w=>St (g5.add 0) (.int .u64 s4) w λw=>St (g5.add 1) (.int .u64 t4) w λw=>St (g5.add 2) (.int .u64 u4) w λw=>St (g5.add 3) (.int .u64 v4) w λw=>St (g5.add 4) (.int .u64 x4) w λw=>St (g5.add 5) (.int .u64 y4) w λw=>St (r4.add 0) (.int .u64 i5) w λw=>St (r4.add 1) (.int .u64 j5) w λw=>St (r4.add 2) (.int .u64 l5) w λw=>St (r4.add 3) (.int .u64 m5) w λw=>St (r4.add 4) (.int .u64 n5) w λw=>St (r4.add 5) (.int .u64 o5) w λw=>gY Q q g5 r4 w))/\(Al T 175 w λp5 w=>w.cell? (p.add 0)=some (.int .u64 y)/\w.cell? (p.add 1)=some (.int .u64 z)/\w.cell? (p.add 2)=some (.int .u64 a1)/\w.cell? (p.add 3)=some (.int .u64 b1)/\w.cell? (p.add 4)=some (.int .u64 c1)/\w.cell? (p.add 5)=some (.int .u64 d1)/\w.cell? (o.add 0)=some (.int .u64 r)/\w.cell? (o.add 1)=some (.int .u64 s)/\w.cell? (o.add 2)=some (.int .u64 t)/\w.cell? (o.add 3)=some (.int .u64 u)/\w.cell? (o.add 4)=some (.int .u64 v)/\w.cell? (o.add 5)=some (.int .u64 x)/\cU r s t u v x w λq5 r5 s5 t5 u5 v5 w=>w.cell? (p.add 0)=some (.int .u64 y)/\w.cell? (p.add 1)=some (.int .u64 z)/\w.cell? (p.add 2)=some (.int .u64 a1)/\w.cell? (p.add 3)=some (.int .u64 b1)/\w.cell? (p.add 4)=some (.int .u64 c1)/\w.cell? (p.add 5)=some (.int .u64 d1)/\cU y z a1 b1 c1 d1 w λx5 y5 z5 a6 b6 c6 w=>St (p5.add 0) (.int .u64 q5) w λw=>St (p5.add 1) (.int .u64 r5) w λw=>St (p5.add 2) (.int .u64 s5) w λw=>St (p5.add 3) (.int .u64 t5) w λw=>St (p5.add 4) (.int .u64 u5) w λw=>St (p5.add 5) (.int .u64 v5) w λw=>St (r4.add 0) (.int .u64 x5) w λw=>St (r4.add 1) (.int .u64 y5) w λw=>St (r4.add 2) (.int .u64 z5) w λw=>St (r4.add 3) (.int .u64 a6) w λw=>St (r4.add 4) (.int .u64 b6) w λw=>St (r4.add 5) (.int .u64 c6) w λw=>gY Q q p5 r4 w)))) (ok 38) HK [aM (afX Q)] Tryz.func70
def Fv:=λa w Q=>bB (r7 a w Q) (cond a.isNone (Q 0 w) (wA a λb=>af .u64 (b.add 3) w λc=>Q c w)) (ok 9) [] [] Tryz.func106
def B0:=λa w Q=>bB (pz a w Q) (cond a.isNone (Q 0 w) (wA a λb=>af .u64 (b.add 3) w λc=>Q c w)) (ok 9) [] [] Tryz.func107
noncomputable def T3:cv:=[(1,sp 0 4 (sp 5 4 (.op 4 (.op 9 (.op 10 (.op 11 .done))))))]
def RG:=λa w Q=>bB (tS a w Q) (Al T 32 w λb w=>wA a λc=>bg (c.add 1) w.drew λd=>wA a λe=>bg (e.add 2) w.drew λf=>r7 d w.drew λg w=>w.cell? (e.add 2)=some (.pointer f)/\pz f w λi w=>St (b.add 0) (.int .u64 g) w λw=>St (b.add 1) (.int .u64 i) w λw=>St (b.add 2) (.int .u64 0) w λw=>St (b.add 3) (.int .u64 0) w λw=>St (b.add 4) (.int .u64 0) w λw=>St (b.add 5) (.int .u64 0) w λw=>af .u64 (b.add 0) w λj=>af .u64 (b.add 1) w λl=>af .u64 (b.add 2) w λm=>af .u64 (b.add 3) w λn=>af .u64 (b.add 4) w λo=>af .u64 (b.add 5) w λp=>Q j l m n o p w) (ok 14) T3 [] Tryz.func71
def Ms:=λa w Q=>bB (wm a w Q) (Al T 32 w λb w=>cond a.isNone (St (b.add 0) (.int .u64 0) w λw=>St (b.add 1) (.int .u64 0) w λw=>St (b.add 2) (.int .u64 0) w λw=>St (b.add 3) (.int .u64 0) w λw=>St (b.add 4) (.int .u64 0) w λw=>St (b.add 5) (.int .u64 0) w λw=>af .u64 (b.add 0) w λc=>af .u64 (b.add 1) w λd=>af .u64 (b.add 2) w λe=>af .u64 (b.add 3) w λf=>af .u64 (b.add 4) w λg=>af .u64 (b.add 5) w λi=>Q c d e f g i w) (wA a λj=>af .u64 ((j.add 2).add 0) w λl=>af .u64 ((j.add 2).add 1) w λm=>af .u64 ((j.add 2).add 2) w λn=>af .u64 ((j.add 2).add 3) w λo=>af .u64 ((j.add 2).add 4) w λp=>af .u64 ((j.add 2).add 5) w λq=>St (b.add 0) (.int .u64 l) w λw=>St (b.add 1) (.int .u64 m) w λw=>St (b.add 2) (.int .u64 n) w λw=>St (b.add 3) (.int .u64 o) w λw=>St (b.add 4) (.int .u64 p) w λw=>St (b.add 5) (.int .u64 q) w λw=>af .u64 (b.add 0) w λr=>af .u64 (b.add 1) w λs=>af .u64 (b.add 2) w λt=>af .u64 (b.add 3) w λu=>af .u64 (b.add 4) w λv=>af .u64 (b.add 5) w λx=>Q r s t u v x w)) (ok 10) [] [] Tryz.func72
noncomputable def Vg:cv:=[(3,sp 0 5 (sp 7 4 (.op 5 (.op 6 (.op 11 (.op 12 (.op 13 .done)))))))]
def T4:=λa w Q=>bB (AV a w Q) (Al T 32 w λb w=>cond a.isNone (St (b.add 0) (.int .u64 0) w λw=>St (b.add 1) (.int .u64 0) w λw=>St (b.add 2) (.int .u64 0) w λw=>St (b.add 3) (.int .u64 0) w λw=>St (b.add 4) (.int .u64 0) w λw=>St (b.add 5) (.int .u64 0) w λw=>af .u64 (b.add 0) w λc=>af .u64 (b.add 1) w λd=>af .u64 (b.add 2) w λe=>af .u64 (b.add 3) w λf=>af .u64 (b.add 4) w λg=>af .u64 (b.add 5) w λi=>Q c d e f g i w) (wA a λj=>af .u64 ((j.add 4).add 0) w.drew λl=>af .u64 ((j.add 4).add 1) w.drew λm=>af .u64 ((j.add 4).add 2) w.drew λn=>af .u64 ((j.add 4).add 3) w.drew λo=>af .u64 ((j.add 4).add 4) w.drew λp=>af .u64 ((j.add 4).add 5) w.drew λq=>wA a λr=>bg (r.add 3) w.drew λs=>tS a w.drew λt u v x y z w=>w.cell? (r.add 3)=some (.pointer s)/\w.cell? ((j.add 4).add 0)=some (.int .u64 l)/\w.cell? ((j.add 4).add 1)=some (.int .u64 m)/\w.cell? ((j.add 4).add 2)=some (.int .u64 n)/\w.cell? ((j.add 4).add 3)=some (.int .u64 o)/\w.cell? ((j.add 4).add 4)=some (.int .u64 p)/\w.cell? ((j.add 4).add 5)=some (.int .u64 q)/\wS l m n o p q t u v x y z w λa1 b1 c1 d1 e1 f1 w=>w.cell? (r.add 3)=some (.pointer s)/\wm s w λg1 i1 j1 l1 m1 n1 w=>wS a1 b1 c1 d1 e1 f1 g1 i1 j1 l1 m1 n1 w λo1 p1 q1 r1 s1 t1 w=>St (b.add 0) (.int .u64 o1) w λw=>St (b.add 1) (.int .u64 p1) w λw=>St (b.add 2) (.int .u64 q1) w λw=>St (b.add 3) (.int .u64 r1) w λw=>St (b.add 4) (.int .u64 s1) w λw=>St (b.add 5) (.int .u64 t1) w λw=>af .u64 (b.add 0) w λu1=>af .u64 (b.add 1) w λv1=>af .u64 (b.add 2) w λx1=>af .u64 (b.add 3) w λy1=>af .u64 (b.add 4) w λz1=>af .u64 (b.add 5) w λa2=>Q u1 v1 x1 y1 z1 a2 w)) (ok 19) Vg [] Tryz.func43
def Mt:=λa w Q=>bB (qk a w Q) (Al T 32 w λb w=>yI a w λc w=>AV c w λd e f g i j w=>St (b.add 0) (.int .u64 d) w λw=>St (b.add 1) (.int .u64 e) w λw=>St (b.add 2) (.int .u64 f) w λw=>St (b.add 3) (.int .u64 g) w λw=>St (b.add 4) (.int .u64 i) w λw=>St (b.add 5) (.int .u64 j) w λw=>af .u64 (b.add 0) w λl=>af .u64 (b.add 1) w λm=>af .u64 (b.add 2) w λn=>af .u64 (b.add 3) w λo=>af .u64 (b.add 4) w λp=>af .u64 (b.add 5) w λq=>Q l m n o p q w) (ok 6) [] [] Tryz.func22
def mO (Q:Int->Int->Bool->Bool->WP)(a b:Addr)(w:World):Prop:=af .i64 (b.add 0) w λc=>af .i64 (b.add 1) w λd=>cA (b.add 2) w λe=>St (a.add 0) (ae c) w λw=>St (a.add 1) (ae d) w λw=>St (a.add 2) (.bool e) w λw=>af .i64 (a.add 0) w λf=>af .i64 (a.add 1) w λg=>cA (a.add 2) w λi=>Q f g i true w
def uO (Q:Int->Int->Bool->Bool->WP)(a b:Addr)(w:World):Prop:=St (b.add 1) (ae 4) w λw=>St b (ae 4) w λw=>mO Q a b w
def PA (Q):Bk 26 Tryz.f76 (Js Q) 16 [(2,.a),(4,.a)] (mO Q):=aT (ok 26) [] []
def ac5 (Q):Bk 26 Tryz.f76 (Js Q) 13 [(2,.a),(4,.a)] (uO Q):=aT (ok 26) [] [aM (PA Q)]
def aa0:=λa w Q=>bB (wT a w Q) (Al T 137 w λb w=>Al T 137 w λc w=>cond (a==1) (St (c.add 2) (.bool true) w λw=>mO Q b c w) (cond (a==2) (St c (ae 4) w λw=>St (c.add 1) (ae 1) w λw=>mO Q b c w) (cond (a==3) (uO Q b c w) (cond (a==4) (uO Q b c w) (cond (a==6) (uO Q b c w) (cond (a==5) (St c (ae 4) w λw=>mO Q b c w) (cond (a==7) (mO Q b c w) (cond (a==8) (mO Q b c w) (St (b.add 0) (ae 0) w λw=>St (b.add 1) (ae 0) w λw=>St (b.add 2) (.bool false) w λw=>af .i64 (b.add 0) w λd=>af .i64 (b.add 1) w λe=>cA (b.add 2) w λf=>Q d e f false w))))))))) (ok 26) [] [aM (ac5 Q),aM (PA Q)] Tryz.func76
def AE (Q:Int->WP)(R3:Int->L3 (Int->Int->WP))(a:Int)(b:OA)(c d:Nat)(e f:Int)(w:World):Prop:=cond (decide (f<e)) (aK f c<|wA b λg=>af .u8 (g.add (f.toNat*1)) w λi=>DT (IntKind.wrap .i64 (8*f))<|R3 (ior .i64 a (BD .i64 (IntKind.wrap .i64 i) (IntKind.wrap .i64 (8*f)))) b c d e (IntKind.wrap .i64 (f+1)) w) (Q a w)
def wK (Q:Int->WP):Nat->Int->L3 (Int->Int->WP)
 |0,_,_,_,_,_,_,_=>False
 |k+1,a,b,c,d,e,f,w=>AE Q (wK Q k) a b c d e f w
def afZ (Q):∀k,Bk 22 Tryz.f140 (Tb Q) 3 [(3,.i .i64),(6,.l),(7,.i .i64),(8,.i .i64)] (wK Q k):=bM λk h=>aT (ok 22) [] [aM h]
def aa1:=λa b c w Q=>bB (wW a b c w Q) (∃k',wK Q k' 0 a b c (b:Int) 0 w) (ok 22) [] [cu (afZ Q)] Tryz.func140
noncomputable def ahH:cv:=[(1,sp 0 6 (.op 6 (.op 7 .done))),(14,sp 0 5 (sp 6 9 (sp 17 6 (.op 5 (.op 15 (.op 16 (.op 23 (.op 24 .done))))))))]
def af0:=λa b c w Q=>bB (Ju a b c w Q) (Al T 38 w λd w=>aK 0 b<|wA a λe=>af .u8 (e.add (((0:Int).toNat)*1)) w.drew λf=>bR a b c 1 (some 1) none λg i j=>wT (IntKind.wrap .i64 f) w.drew λl m n o w=>Al T 137 w λp w=>St (p.add 0) (ae l) w λw=>St (p.add 1) (ae m) w λw=>St (p.add 2) (.bool n) w λw=>cond (!o) (St (d.add 0) (ae 0) w λw=>St (d.add 1) (ae (IntKind.wrap .i64 f)) w λw=>St (d.add 2) (ae 0) w λw=>St (d.add 3) (.slice none 0 0) w λw=>af .i64 (d.add 0) w λq=>af .i64 (d.add 1) w λr=>af .i64 (d.add 2) w λs=>aA (d.add 3) w λt u v=>Q q r s t u v 1 w) (cA (p.add 2) w λx=>cond x (cond (decide ((i:Int)<4)) (St (d.add 0) (ae 0) w λw=>St (d.add 1) (ae 0) w λw=>St (d.add 2) (ae 0) w λw=>St (d.add 3) (.slice none 0 0) w λw=>af .i64 (d.add 0) w λy=>af .i64 (d.add 1) w λz=>af .i64 (d.add 2) w λa1=>aA (d.add 3) w λb1 c1 d1=>Q y z a1 b1 c1 d1 0 w) (bR g i j 1 none (some 4) λe1 f1 g1=>wW e1 f1 g1 w λi1 w=>cond (decide ((IntKind.wrap .i64 ((i:Int)-4))<i1)) (St (d.add 0) (ae 0) w λw=>St (d.add 1) (ae 0) w λw=>St (d.add 2) (ae 0) w λw=>St (d.add 3) (.slice none 0 0) w λw=>af .i64 (d.add 0) w λj1=>af .i64 (d.add 1) w λl1=>af .i64 (d.add 2) w λm1=>aA (d.add 3) w λn1 o1 p1=>Q j1 l1 m1 n1 o1 p1 0 w) (bR g i j 1 (some 4) (some (IntKind.wrap .i64 (4+i1))) λq1 r1 s1=>App P #[22,22] 22 (.slice none 0 0) (.slice q1 r1 s1) w λt1 u1 v1 w=>St (d.add 0) (ae (IntKind.wrap .i64 f)) w λw=>St (d.add 1) (ae 0) w λw=>St (d.add 2) (ae 0) w λw=>St (d.add 3) (.slice t1 u1 v1) w λw=>af .i64 (d.add 0) w λx1=>af .i64 (d.add 1) w λy1=>af .i64 (d.add 2) w λz1=>aA (d.add 3) w λa2 b2 c2=>Q x1 y1 z1 a2 b2 c2 (IntKind.wrap .i64 (5+i1)) w))) (af .i64 p w λd2=>af .i64 (p.add 1) w λe2=>cond (decide ((i:Int)<(IntKind.wrap .i64 (d2+e2)))) (St (d.add 0) (ae 0) w λw=>St (d.add 1) (ae 0) w λw=>St (d.add 2) (ae 0) w λw=>St (d.add 3) (.slice none 0 0) w λw=>af .i64 (d.add 0) w λf2=>af .i64 (d.add 1) w λg2=>af .i64 (d.add 2) w λi2=>aA (d.add 3) w λj2 l2 m2=>Q f2 g2 i2 j2 l2 m2 0 w) (af .i64 p w.drew λn2=>bR g i j 1 none (some n2) λo2 p2 q2=>af .i64 p w.drew λr2=>af .i64 p w.drew λs2=>af .i64 (p.add 1) w.drew λt2=>bR g i j 1 (some r2) (some (IntKind.wrap .i64 (s2+t2))) λu2 v2 x2=>af .i64 p w.drew λy2=>af .i64 (p.add 1) w.drew λz2=>wW o2 p2 q2 w.drew λa3 w=>w.cell? (p.add 1)=some (ae z2)/\w.cell? p=some (ae y2)/\w.cell? (p.add 1)=some (ae t2)/\w.cell? p=some (ae s2)/\w.cell? p=some (ae r2)/\wW u2 v2 x2 w λb3 w=>w.cell? (p.add 1)=some (ae z2)/\w.cell? p=some (ae y2)/\St (d.add 0) (ae (IntKind.wrap .i64 f)) w λw=>St (d.add 1) (ae a3) w λw=>St (d.add 2) (ae b3) w λw=>St (d.add 3) (.slice none 0 0) w λw=>w.cell? (p.add 1)=some (ae z2)/\w.cell? p=some (ae y2)/\af .i64 (d.add 0) w λc3=>af .i64 (d.add 1) w λd3=>af .i64 (d.add 2) w λe3=>aA (d.add 3) w λf3 g3 i3=>Q c3 d3 e3 f3 g3 i3 (IntKind.wrap .i64 ((IntKind.wrap .i64 (1+y2))+z2)) w)))) (ok 80) ahH [] Tryz.func109
def ahI:=λa b c w Q=>bB (K5 a b c w Q) (cond ((b:Int)==0) (Q false w) (Ju a b c w λd e f g i j l w=>Al T 38 w λm w=>St (m.add 0) (ae d) w λw=>St (m.add 1) (ae e) w λw=>St (m.add 2) (ae f) w λw=>St (m.add 3) (.slice g i j) w λw=>Q (l==0) w)) (ok 15) [] [] Tryz.func75
def af1:=λa b w Q=>bB (AB a b w Q) (cond (decide (a≥0)) (DT (IntKind.wrap .i64 (8*b))<|Q (decide (a<(BD .i64 1 (IntKind.wrap .i64 (8*b))))) w) (Q false w)) (ok 14) [] [] Tryz.func77
def ahJ:=λa b c d e f w Q=>bB (K3 a b c d e f w Q) (Bx [ae a,ae b,ae c,.slice d e f] 38 w λg w=>af .i64 g w λi=>cond (i==0) (af .i64 (g.add 1) w λj=>cond (j==(-1)) (af .i64 (g.add 2) w λl=>cond (l==0) (aA (g.add 3) w λm n o=>K5 m n o w λp w=>Q p w) (Q false w)) (af .i64 (g.add 1) w λq=>wT q w λr s t u w=>Al T 137 w λv w=>St (v.add 0) (ae r) w λw=>St (v.add 1) (ae s) w λw=>St (v.add 2) (.bool t) w λw=>af .i64 (g.add 1) w λx=>AB x 1 w λy w=>cond y (cond (!u) (af .i64 (g.add 2) w λz=>cond (z==0) (aA (g.add 3) w λa1 b1 c1=>Q ((b1:Int)==0) w) (Q false w)) (Q false w)) (Q false w))) (af .i64 g w λd1=>wT d1 w λe1 f1 g1 i1 w=>Al T 137 w λj1 w=>St (j1.add 0) (ae e1) w λw=>St (j1.add 1) (ae f1) w λw=>St (j1.add 2) (.bool g1) w λw=>cond i1 (af .i64 (g.add 1) w λl1=>af .i64 j1 w λm1=>AB l1 m1 w λn1 w=>cond n1 (af .i64 (g.add 2) w λo1=>af .i64 (j1.add 1) w λp1=>AB o1 p1 w λq1 w=>cond q1 (aA (g.add 3) w λr1 s1 t1=>cond ((s1:Int)==0) (Q true w) (cA (j1.add 2) w λu1=>cond u1 (aA (g.add 3) w λv1 x1 y1=>Q (decide ((x1:Int)<=4294967295)) w) (Q false w))) (Q false w)) (Q false w)) (Q false w))) (ok 82) [] [] Tryz.func48
def RH:=λa b w Q=>bB (fe a b w Q) (cond a.isNone (Q 0 w) (cond (decide (b<0)) (Q 0 w) (wA a λc=>aA (c.add 2) w λd e f=>cond (decide (b≥(e:Int))) (Q 0 w) (wA a λg=>aA (g.add 2) w λi j l=>aK b j<|wA i λm=>af .u8 (m.add (b.toNat*1)) w λn=>Q (IntKind.wrap .i64 n) w)))) (ok 30) [] [] Tryz.func110
def Vh:=λa b w Q=>bB (rI a b w Q) (cond a.isNone (Q 0 w) (wA a λc=>bg c w λd=>fe d b w λe w=>Q e w)) (ok 13) [] [] Tryz.func78
def sq (Q:Value->WP)(a:OA)(b:Addr)(w:World):Prop:=wA a λc=>bg (c.add 1) w.drew λd=>af .i64 (b.add 1) w.drew λe=>rI d e w.drew λf w=>cond (f==0) (Q (.iface 108 (ae 7)) w) (Q (.nilIface) w)
noncomputable def D1:cv:=[(4,sp 0 6 (.op 6 (.op 7 .done))),(6,sp 0 6 (.op 6 (.op 7 .done)))]
def PB (Q):Bk 29 Tryz.f49 (Fk Q) 6 [(0,.p),(3,.a)] (sq Q):=aT (ok 29) D1 []
def Mu:=λa b c d e f g w Q=>bB (we a b c d e f g w Q) (Bx [ae b,ae c,ae d,.slice e f g] 38 w λi w=>af .i64 i w λj=>cond (j==3) (wA a λl=>bg (l.add 1) w.drew λm=>af .i64 (i.add 2) w.drew λn=>rI m n w.drew λo w=>cond (o==0) (Q (.iface 108 (ae 7)) w) (sq Q a i w)) (cond (j==2) (sq Q a i w) (Q (.nilIface) w))) (ok 29) D1 [aM (PB Q)] Tryz.func49
def EY:=λa w Q=>bB (gm a w Q) (cond (a==0) (Q (.nilIface) w) (Q (.iface 108 (ae a)) w)) (ok 7) [] [] Tryz.func54
def ac6 (P1:Value->Value->Value->Addr->WP)(Q:Bool->WP)(R18:Value->Value->Addr->L3 (Int->Int->WP))(a b:Value)(c:Addr)(d:OA)(e f:Nat)(g i:Int)(w:World):Prop:=cond (decide (i<g)) (aK i e<|wA d λj=>bY (j.add (i.toNat*1)) w λl=>BE l λm=>cond m (R18 a b c d e f g (IntKind.wrap .i64 (i+1)) w) (bg (c.add 0) w λn=>bg (c.add 1) w λo=>af .u64 (c.add 2) w λp=>F_ l a n o p b w λq w=>cond q (Q true w) (R18 a b c d e f g (IntKind.wrap .i64 (i+1)) w))) (Q false w)
def HL (P1:Value->Value->Value->Addr->WP)(Q:Bool->WP):Nat->Value->Value->Addr->L3 (Int->Int->WP)
 |0,_,_,_,_,_,_,_,_,_=>False
 |k+1,a,b,c,d,e,f,g,i,w=>ac6 P1 Q (HL P1 Q k) a b c d e f g i w
def Jx (P1:Value->Value->Value->Addr->WP)(Q:Bool->WP)(a b c:Value)(d:Addr)(w:World):Prop:=aL P (Instr.typeAssert a 74 224 true) w λe w=>dT e λf=>dK f λg i=>dV g λj=>dK i λl m=>dB l λn=>kL m<|cond n (yB (cx 62) j "Unwrap" [] w λo w=>dV o λp=>BE p λq=>cond q (Q false w) (P1 p b c d w)) (aL P (Instr.typeAssert a 74 226 true) w λr w=>dT r λs=>dK s λt u=>dV t λv=>dK u λx y=>dB x λz=>kL y<|cond z (yB (cx 62) v "Unwrap" [] w λa1 w=>dS a1 λb1 c1 d1=>∃k',HL P1 Q k' b c d b1 c1 d1 (c1:Int) 0 w) (Q false w))
def wL (Q:Bool->WP)(R1:Value->Value->Value->Addr->WP)(a b c:Value)(d:Addr)(w:World):Prop:=tH P 95 #[a] w λe w=>dV e λf=>yB (cx 62) f "AssignableTo" [c] w λg w=>dB g λi=>cond i (bg (d.add 0) w λj=>bg (d.add 1) w λl=>af .u64 (d.add 2) w λm=>tH P 138 #[.agg #[.pointer j,.pointer l,.int .u64 m]] w λn w=>dL n λo=>dK o λp q=>dP p λr=>dK q λs t=>dP s λu=>dK t λv x=>dI .u64 v λy=>kL x<|tH P 97 #[a] w λz w=>dL z λa1=>dK a1 λb1 c1=>dP b1 λd1=>dK c1 λe1 f1=>dP e1 λg1=>dK f1 λi1 j1=>dI .u64 i1 λl1=>kL j1<|tH P 139 #[.agg #[.pointer r,.pointer u,.int .u64 y],.agg #[.pointer d1,.pointer g1,.int .u64 l1]] w λm1 w=>dT m1 λn1=>kL n1<|Q true w) (aL P (Instr.typeAssert a 74 231 true) w λo1 w=>dT o1 λp1=>dK p1 λq1 r1=>dV q1 λs1=>dK r1 λt1 u1=>dB t1 λv1=>kL u1<|cond v1 (yB (cx 62) s1 "As" [b] w λx1 w=>dB x1 λy1=>cond y1 (Q true w) (Jx R1 Q a b c d w)) (Jx R1 Q a b c d w))
def je (Q:Bool->WP):Nat->Value->Value->Value->Addr->WP
 |0,_,_,_,_,_=>False
 |k+1,a,b,c,d,w=>wL Q (je Q k) a b c d w
def ac7 {P1}(Q)(H1:Bk 62 Tryz.f100 (wJ Q) 1 [(0,.v),(1,.v),(3,.v),(6,.a)] P1):∀k,Bk 62 Tryz.f100 (wJ Q) 18 [(1,.v),(3,.v),(6,.a),(48,.l),(49,.i .i64),(50,.i .i64)] (HL P1 Q k):=bM λk h=>aT (ok 62) [] [aM h]
def af2 {P1}(Q)(H1:Bk 62 Tryz.f100 (wJ Q) 1 [(0,.v),(1,.v),(3,.v),(6,.a)] P1):Bk 62 Tryz.f100 (wJ Q) 7 [(0,.v),(1,.v),(3,.v),(6,.a)] (Jx P1 Q):=aT (ok 62) [] [aM H1,cu (ac7 Q H1)]
def af3 (Q):∀k,Bk 62 Tryz.f100 (wJ Q) 1 [(0,.v),(1,.v),(3,.v),(6,.a)] (je Q k):=bM λk h=>aT (ok 62) [] [aM (af2 Q h)]
def Gi:=λa b c d e f w Q=>bB (F_ a b c d e f w Q) (Bx [.pointer c,.pointer d,.int .u64 e] 161 w λg w=>∃k',je Q k' a b f g w) (ok 62) [] [cu (af3 Q)] Tryz.func100
def HM (Q:Bool->WP)(a b:Value)(c:Addr)(d:Value)(w:World):Prop:=bg (c.add 0) w λe=>bg (c.add 1) w λf=>af .u64 (c.add 2) w λg=>F_ a b e f g d w λi w=>Q i w
def Jy (Q:Bool->WP)(a b:Value)(c:Addr)(d:Value)(w:World):Prop:=False
def PC (Q):Bk 42 Tryz.f60 (Jp Q) 12 [(0,.v),(1,.v),(5,.a),(7,.v)] (HM Q):=aT (ok 42) [] []
def af4 (Q):Bk 42 Tryz.f60 (Jp Q) 8 [(0,.v),(1,.v),(5,.a),(6,.v)] (Jy Q):=aT (ok 42) [] [aM (PC Q)]
def Bg:=λa b w Q=>bB (nv a b w Q) (BE a λc=>cond c (Q false w) (BE b λd=>cond d (False) (tH P 97 #[b] w λe w=>dL e λf=>dK f λg i=>dP g λj=>dK i λl m=>dP l λn=>dK m λo p=>dI .u64 o λq=>kL p<|Al T 161 w λr w=>St (r.add 0) (.pointer j) w λw=>St (r.add 1) (.pointer n) w λw=>St (r.add 2) (.int .u64 q) w λw=>bg (r.add 0) w λs=>bg (r.add 1) w λt=>af .u64 (r.add 2) w λu=>tH P 98 #[.agg #[.pointer s,.pointer t,.int .u64 u]] w λv w=>dV v λx=>yB (cx 42) x "Kind" [] w λy w=>dI .u8 y λz=>cond (z !=22) (Jy Q a b r x w) (bg (r.add 0) w λa1=>bg (r.add 1) w λb1=>af .u64 (r.add 2) w λc1=>tH P 99 #[.agg #[.pointer a1,.pointer b1,.int .u64 c1]] w λd1 w=>dB d1 λe1=>cond e1 (Jy Q a b r x w) (yB (cx 42) x "Elem" [] w λf1 w=>dV f1 λg1=>yB (cx 42) g1 "Kind" [] w λi1 w=>dI .u8 i1 λj1=>cond (j1 !=20) (bY (aZ 1) w λl1=>yB (cx 42) g1 "Implements" [l1] w λm1 w=>dB m1 λn1=>cond (!n1) (False) (HM Q a b r g1 w)) (HM Q a b r g1 w)))))) (ok 42) [] [aM (af4 Q),aM (PC Q)] Tryz.func60
def aa2:=λa b w Q=>bB (lH a b w Q) (cond (decide (a≥1)) (cond (decide (a<=1024)) (cond (decide (b≥1)) (Q (decide (b<=1024)) w) (Q false w)) (Q false w)) (Q false w)) (ok 19) [] [] Tryz.func69
def T6:=λa b w Q=>bB (lu a b w Q) (lH a b w λc w=>cond (!c) (Q 0 0 w) (NZ 16<|NZ 16<|Q (IntKind.wrap .i64 (Int.tdiv (IntKind.wrap .i64 ((IntKind.wrap .i64 (a+16))-1)) 16)) (IntKind.wrap .i64 (Int.tdiv (IntKind.wrap .i64 ((IntKind.wrap .i64 (b+16))-1)) 16)) w)) (ok 18) [] [] Tryz.func146
def Y8:=λa b w Q=>bB (EP a b w Q) (lu a b w λc d w=>Q (IntKind.wrap .i64 (c*d)) w) (ok 16) [] [] Tryz.func141
noncomputable def Xy:cv:=[(4,sp 0 8 (.op 8 (.op 9 (.op 10 .done))))]
def Vi:=λa b c w Q=>bB (wX a b c w Q) (lu a b w λd e w=>cond (decide (c<0)) (Q 0 0 false w) (cond (decide (c≥(IntKind.wrap .i64 (d*e)))) (Q 0 0 false w) (NZ d<|NZ d<|Q (IntKind.wrap .i64 ((Int.tmod c d)*16)) (IntKind.wrap .i64 ((IntKind.wrap .i64 (Int.tdiv c d))*16)) true w.drew))) (ok 34) Xy [] Tryz.func157
def Y9:=λa b c w Q=>bB (n7 a b c w Q) (wX a b c w λd e f w=>cond (!f) (Q 0 0 w) (Q (Dt 16 (IntKind.wrap .i64 (a-d))) (Dt 16 (IntKind.wrap .i64 (b-e))) w)) (ok 29) [] [] Tryz.func142
def ac8 (P1:Value->Value->Bool->WP)(Q:Bool->WP)(R17:Value->Bool->L3 (Int->Int->WP))(a:Value)(b:Bool)(c:OA)(d e:Nat)(f g:Int)(w:World):Prop:=cond (decide (g<f)) (aK g d<|wA c λi=>bY (i.add (g.toNat*1)) w λj=>wU j a b w λl w=>cond l (Q true w) (R17 a b c d e f (IntKind.wrap .i64 (g+1)) w)) (Q false w)
def HN (P1:Value->Value->Bool->WP)(Q:Bool->WP):Nat->Value->Bool->L3 (Int->Int->WP)
 |0,_,_,_,_,_,_,_,_=>False
 |k+1,a,b,c,d,e,f,g,w=>ac8 P1 Q (HN P1 Q k) a b c d e f g w
def Jz (P1:Value->Value->Bool->WP)(Q:Bool->WP)(a b:Value)(c:Bool)(w:World):Prop:=aL P (Instr.typeAssert a 74 224 true) w λd w=>dT d λe=>dK e λf g=>dV f λi=>dK g λj l=>dB j λm=>kL l<|cond m (yB (cx 54) i "Unwrap" [] w λn w=>dV n λo=>BE o λp=>cond p (Q false w) (P1 o b c w)) (aL P (Instr.typeAssert a 74 226 true) w λq w=>dT q λr=>dK r λs t=>dV s λu=>dK t λv x=>dB v λy=>kL x<|cond y (yB (cx 54) u "Unwrap" [] w λz w=>dS z λa1 b1 c1=>∃k',HN P1 Q k' b c a1 b1 c1 (b1:Int) 0 w) (Q false w))
def JA (P1:Value->Value->Bool->WP)(Q:Bool->WP)(a b:Value)(c:Bool)(w:World):Prop:=aL P (Instr.typeAssert a 74 221 true) w λd w=>dT d λe=>dK e λf g=>dV f λi=>dK g λj l=>dB j λm=>kL l<|cond m (yB (cx 54) i "Is" [b] w λn w=>dB n λo=>cond o (Q true w) (Jz P1 Q a b c w)) (Jz P1 Q a b c w)
def AF (Q:Bool->WP)(R1:Value->Value->Bool->WP)(a b:Value)(c:Bool)(w:World):Prop:=cond c (bT P .eql 74 (.tmp 16) (.tmp 17) a b w λd w=>cond d (Q true w) (JA R1 Q a b c w)) (JA R1 Q a b c w)
def pZ (Q:Bool->WP):Nat->Value->Value->Bool->WP
 |0,_,_,_,_=>False
 |k+1,a,b,c,w=>AF Q (pZ Q k) a b c w
def ac9 {P1}(Q)(H1:Bk 54 Tryz.f96 (pW Q) 1 [(0,.v),(1,.v),(2,.b)] P1):∀k,Bk 54 Tryz.f96 (pW Q) 17 [(1,.v),(2,.b),(43,.l),(44,.i .i64),(45,.i .i64)] (HN P1 Q k):=bM λk h=>aT (ok 54) [] [aM h]
def af5 {P1}(Q)(H1:Bk 54 Tryz.f96 (pW Q) 1 [(0,.v),(1,.v),(2,.b)] P1):Bk 54 Tryz.f96 (pW Q) 6 [(0,.v),(1,.v),(2,.b)] (Jz P1 Q):=aT (ok 54) [] [aM H1,cu (ac9 Q H1)]
def af6 {P1}(Q)(H1:Bk 54 Tryz.f96 (pW Q) 1 [(0,.v),(1,.v),(2,.b)] P1):Bk 54 Tryz.f96 (pW Q) 3 [(0,.v),(1,.v),(2,.b)] (JA P1 Q):=aT (ok 54) [] [aM (af5 Q H1)]
def af7 (Q):∀k,Bk 54 Tryz.f96 (pW Q) 1 [(0,.v),(1,.v),(2,.b)] (pZ Q k):=bM λk h=>aT (ok 54) [] [aM (af6 Q h)]
def Nc:=λa b c w Q=>bB (wU a b c w Q) (∃k',pZ Q k' a b c w) (ok 54) [] [cu (af7 Q)] Tryz.func96
def Nd:=λa b w Q=>bB (o_ a b w Q) (BE a λc=>cond c (bT P .eql 74 (.tmp 12) (.tmp 13) a b w λd w=>Q d w) (BE b λe=>cond e (bT P .eql 74 (.tmp 12) (.tmp 13) a b w λf w=>Q f w) (tH P 95 #[b] w λg w=>dV g λi=>yB (cx 22) i "Comparable" [] w λj w=>dB j λl=>wU a b l w λm w=>Q m w))) (ok 22) [] [] Tryz.func59
def HO:=λa b c w Q=>bB (jJ a b c w Q) (cond a.isNone (Q none 0 0 w) (Bx [] 5 w λd w=>App P #[22,22] 22 (.slice (some d) 0 0) (.slice a b c) w λe f g w=>Q e f g w)) (ok 8) [] [] Tryz.func103
noncomputable def PD:cv:=[(1,sp 0 12 .done),(2,.op 0 (.op 1 (.op 2 .done))),(4,sp 0 15 (.op 15 (.op 16 .done)))]
def Ob:=λa b w Q=>bB (nK a b w Q) (wA a λc=>aA c w.drew λd e f=>wA a λg=>af .i64 (g.add 1) w.drew λi=>cond (decide ((IntKind.wrap .i64 ((e:Int)-i))<b)) (bY (aZ 6) w.drew.drew λj=>w.drew.drew.cell? (aZ 6)=some j/\dV j λl=>Q none 0 0 l w.drew.drew) (wA a λm=>af .i64 (m.add 1) w.drew λn=>wA a λo=>St (o.add 1) (ae (IntKind.wrap .i64 (n+b))) w.drew λw=>wA a λp=>aA p w.drew λq r s=>wA a λt=>af .i64 (t.add 1) w.drew λu=>wA a λv=>af .i64 (v.add 1) w.drew λx=>bR q r s 1 (some (IntKind.wrap .i64 (u-b))) (some x) λy z a1=>Q y z a1 (.nilIface) w.drew)) (ok 42) PD [] Tryz.func186
def kP (Q:Int->WP)(R2:L3 (Int->Int->Int->WP))(a:OA)(b c:Nat)(d e f:Int)(w:World):Prop:=cond (decide (f<e)) (aK f b<|wA a λg=>af .u8 (g.add (f.toNat*1)) w λi=>cond (d==i) (Q f w) (R2 a b c d e (IntKind.wrap .i64 (f+1)) w)) (Q (-1) w)
def jf (Q:Int->WP):Nat->L3 (Int->Int->Int->WP)
 |0,_,_,_,_,_,_,_=>False
 |k+1,a,b,c,d,e,f,w=>kP Q (jf Q k) a b c d e f w
def JB (Q):∀k,Bk 19 Tryz.f160 (AD Q) 2 [(0,.l),(1,.i .u8),(7,.i .i64),(8,.i .i64)] (jf Q k):=bM λk h=>aT (ok 19) [] [aM h]
def HP:=λa b c d w Q=>bB (yR a b c d w Q) (∃k',jf Q k' a b c d (b:Int) 0 w) (ok 19) [] [cu (JB Q)] Tryz.func160
def FQ:=λa b c d w Q=>bB (iV a b c d w Q) (yR a b c d w λe w=>Q (decide (e≥0)) w) (ok 9) [] [] Tryz.func145
def Mv:=λa b w Q=>bB (qu a b w Q) (nK a b w λc d e f w=>BE f λg=>cond g (iV c d e 0 w λi w=>cond i (bY (aZ 5) w λj=>dV j λl=>Q c d e l w) (dV f λm=>Q c d e m w)) (dV f λn=>Q c d e n w)) (ok 23) [] [] Tryz.func187
def PF:=λa b w Q=>bB (Fp a b w Q) (DT 32<|DT 32<|DT 32<|DT 32<|DT 32<|Q (IntKind.wrap .u64 ((IntKind.wrap .u64 ((IntKind.wrap .u64 ((o6 .u64 a 32)*(o6 .u64 b 32)))+(o6 .u64 (IntKind.wrap .u64 ((IntKind.wrap .u64 ((o6 .u64 a 32)*(BC .u64 b 4294967295)))+(o6 .u64 (IntKind.wrap .u64 ((BC .u64 a 4294967295)*(BC .u64 b 4294967295))) 32))) 32)))+(o6 .u64 (IntKind.wrap .u64 ((BC .u64 (IntKind.wrap .u64 ((IntKind.wrap .u64 ((o6 .u64 a 32)*(BC .u64 b 4294967295)))+(o6 .u64 (IntKind.wrap .u64 ((BC .u64 a 4294967295)*(BC .u64 b 4294967295))) 32))) 4294967295)+(IntKind.wrap .u64 ((BC .u64 a 4294967295)*(o6 .u64 b 32))))) 32))) (IntKind.wrap .u64 (a*b)) w) (ok 51) [] [] Tryz.func240
def T7:=λa b w Q=>bB (qy a b w Q) (Fp a b w λc d w=>Q c d w) (ok 30) [] [] Tryz.func218
def tf (Q:L3 WP)(R18:Int->Int->L3 (Int->WP))(a b:Int)(c:OA)(d e:Nat)(f:Int)(w:World):Prop:=cond (decide (f<a)) (bR c d e 1 (some f) none λg i j=>bR c d e 1 none (some (Dt f b)) λl m n=>cD P #[22,22] 3 (.slice g i j) (.slice l m n) w.drew λo w=>R18 a b c d e (IntKind.wrap .i64 (f+o)) w) (Q c d e w)
def tg (Q:L3 WP):Nat->Int->Int->L3 (Int->WP)
 |0,_,_,_,_,_,_,_=>False
 |k+1,a,b,c,d,e,f,w=>tf Q (tg Q k) a b c d e f w
def yn (Q:L3 WP)(a:OA)(b c:Nat)(d e:Int)(w:World):Prop:=tH P 219 #[ae d] w λf w=>dS f λg i j=>aL P (Instr.sliceAt 22 (.slice g i j) none (some (ae d)) (some (ae d))) w λo w=>dS o λl m n=>cD P #[22,22] 3 (.slice l m n) (.slice a b c) w λp w=>∃k',tg Q k' d e l m n p w
def EZ (Q:L3 WP)(a:OA)(b c:Nat)(d:Int)(w:World):Prop:=False
noncomputable def yo:cv:=[(20,sp 0 7 (.op 7 (.op 8 (.op 9 .done))))]
def Xz (Q):∀k,Bk 77 Tryz.f188 (zY Q) 18 [(7,.i .i64),(8,.i .i64),(9,.l),(10,.i .i64)] (tg Q k):=bM λk h=>aT (ok 77) yo [aM h]
def JW (Q):Bk 77 Tryz.f188 (zY Q) 16 [(0,.l),(7,.i .i64),(8,.i .i64)] (yn Q):=aT (ok 77) yo [cu (Xz Q)]
def Y_ (Q):Bk 77 Tryz.f188 (zY Q) 7 [(0,.l),(6,.i .u64)] (EZ Q):=aT (ok 77) yo [aM (JW Q)]
def IW:=λa b c d w Q=>bB (rJ a b c d w Q) (cond (d==0) (Bx [] 5 w λe w=>Q (some e) 0 0 w) (cond (decide (d<0)) (False) (qy (IntKind.wrap .u64 (b:Int)) (IntKind.wrap .u64 d) w λf g w=>cond (decide (f>0)) (EZ Q a b c g w) (cond (decide (g>9223372036854775807)) (EZ Q a b c g w) (cond ((b:Int)==0) (Bx [] 5 w λi w=>Q (some i) 0 0 w) (cond (decide ((IntKind.wrap .i64 g)>8192)) (NZ (b:Int)<|cond ((IntKind.wrap .i64 ((IntKind.wrap .i64 (Int.tdiv 8192 (b:Int)))*(b:Int)))==0) (yn Q a b c (IntKind.wrap .i64 g) (b:Int) w) (yn Q a b c (IntKind.wrap .i64 g) (IntKind.wrap .i64 ((IntKind.wrap .i64 (Int.tdiv 8192 (b:Int)))*(b:Int))) w)) (yn Q a b c (IntKind.wrap .i64 g) (IntKind.wrap .i64 g) w))))))) (ok 77) yo [aM (Y_ Q),aM (JW Q)] Tryz.func188
def uk (P2:OA->Int->L3 WP)(Q:L3 (Value->WP))(a:OA)(b:Int)(c:OA)(d e:Nat)(f g:Int)(w:World):Prop:=Bx [.int .u8 g] 5 w λi w=>rJ (some i) 1 1 f w λj l m w=>App P #[22,22] 22 (.slice c d e) (.slice j l m) w λn o p w=>P2 a b n o p w
def pC (Q:L3 (Value->WP))(R2:OA->Int->L3 WP)(a:OA)(b:Int)(c:OA)(d e:Nat)(w:World):Prop:=cond (decide ((d:Int)<b)) (nK a 2 w λf g i j w=>BE j λl=>cond (!l) (dV j λm=>Q none 0 0 m w) (aK 0 g<|wA f λn=>af .u8 (n.add (((0:Int).toNat)*1)) w.drew λo=>aK 1 g<|wA f λp=>af .u8 (p.add (((1:Int).toNat)*1)) w.drew λq=>w.drew.cell? (p.add (((1:Int).toNat)*1))=some (.int .u8 q)/\cond (q==0) (bY (aZ 5) w.drew.drew λr=>w.drew.drew.cell? (aZ 5)=some r/\dV r λs=>Q none 0 0 s w.drew.drew) (cond (decide ((IntKind.wrap .i64 ((IntKind.wrap .i64 o)+1))>(IntKind.wrap .i64 (b-(d:Int))))) (bY (aZ 5) w.drew.drew λt=>w.drew.drew.cell? (aZ 5)=some t/\dV t λu=>Q none 0 0 u w.drew.drew) (cond (decide ((d:Int)>0)) (aK (IntKind.wrap .i64 ((d:Int)-1)) d<|wA c λv=>af .u8 (v.add (((IntKind.wrap .i64 ((d:Int)-1))).toNat*1)) w.drew λx=>cond (x==q) (bY (aZ 5) w.drew.drew λy=>w.drew.drew.cell? (aZ 5)=some y/\dV y λz=>Q none 0 0 z w.drew.drew) (uk R2 Q a b c d e (IntKind.wrap .i64 ((IntKind.wrap .i64 o)+1)) q w.drew)) (uk R2 Q a b c d e (IntKind.wrap .i64 ((IntKind.wrap .i64 o)+1)) q w.drew))))) (Q c d e (.nilIface) w)
def pD (Q:L3 (Value->WP)):Nat->OA->Int->L3 WP
 |0,_,_,_,_,_,_=>False
 |k+1,a,b,c,d,e,w=>pC Q (pD Q k) a b c d e w
noncomputable def y6:cv:=[(6,sp 0 8 (.op 8 (.op 9 .done))),(8,.op 0 (.op 1 (.op 2 .done)))]
def RI {P2}(Q)(H2:Bk 64 Tryz.f189 (tX Q) 2 [(0,.p),(1,.i .i64),(6,.l)] P2):Bk 64 Tryz.f189 (tX Q) 9 [(0,.p),(1,.i .i64),(6,.l),(9,.i .i64),(10,.i .u8)] (uk P2 Q):=aT (ok 64) y6 [aM H2]
def RJ (Q):∀k,Bk 64 Tryz.f189 (tX Q) 2 [(0,.p),(1,.i .i64),(6,.l)] (pD Q k):=bM λk h=>aT (ok 64) y6 [aM (RI Q h)]
def Oc:=λa b w Q=>bB (xV a b w Q) (∃k',pD Q k' a b none 0 0 w) (ok 64) y6 [cu (RJ Q)] Tryz.func189
noncomputable def PG:cv:=[(12,.op 0 (.op 1 (.op 2 .done)))]
def Od:=λa b w Q=>bB (xS a b w Q) (nK a 1 w λc d e f w=>BE f λg=>cond (!g) (dV f λi=>Q none 0 0 i w) (aK 0 d<|wA c λj=>af .u8 (j.add (((0:Int).toNat)*1)) w λl=>cond (l==0) (qu a 1 w λm n o p w=>rJ m n o b w λq r s w=>dV p λt=>Q q r s t w) (cond (l==1) (qu a b w λu v x y w=>dV y λz=>Q u v x z w) (cond (l==2) (xV a b w λa1 b1 c1 d1 w=>dV d1 λe1=>Q a1 b1 c1 e1 w) (bY (aZ 5) w.drew λf1=>w.drew.cell? (aZ 5)=some f1/\dV f1 λg1=>Q none 0 0 g1 w.drew))))) (ok 47) PG [] Tryz.func167
def Za:=λa w Q=>bB (z7 a w Q) (cond (decide (a≥1)) (Q (decide (a<=16)) w) (Q false w)) (ok 9) [] [] Tryz.func220
def ac_:=λa b c d e w Q=>bB (uN a b c d e w Q) (Bx [ae a,ae b,.slice c d e] 84 w λf w=>af .i64 f w λg=>z7 g w λi w=>cond i (af .i64 (f.add 1) w λj=>z7 j w λl w=>cond l (aA (f.add 2) w λm n o=>af .i64 f w λp=>af .i64 (f.add 1) w λq=>cond ((n:Int)==(IntKind.wrap .i64 (p*q))) (aA (f.add 2) w λr s t=>iV r s t 0 w λu w=>Q (!u) w) (Q false w)) (Q false w)) (Q false w)) (ok 28) [] [] Tryz.func190
def jk (Q:Int->WP)(R2:L3 (Value->Int->Int->WP))(a:OA)(b c:Nat)(d:Value)(e f:Int)(w:World):Prop:=cond (decide (f<e)) (aK f b<|wA a λg=>af .u8 (g.add (f.toNat*1)) w λi=>iv (cx 19) d [.int .u8 i] w λj w=>dB j λl=>cond l (Q f w) (R2 a b c d e (IntKind.wrap .i64 (f+1)) w)) (Q (-1) w)
def jl (Q:Int->WP):Nat->L3 (Value->Int->Int->WP)
 |0,_,_,_,_,_,_,_=>False
 |k+1,a,b,c,d,e,f,w=>jk Q (jl Q k) a b c d e f w
def Gj (Q):∀k,Bk 19 Tryz.f264 (xd Q) 2 [(0,.l),(1,.v),(7,.i .i64),(8,.i .i64)] (jl Q k):=bM λk h=>aT (ok 19) [] [aM h]
def E0:=λa b c d w Q=>bB (uX a b c d w Q) (∃k',jl Q k' a b c d (b:Int) 0 w) (ok 19) [] [cu (Gj Q)] Tryz.func264
def CO:=λa b c d w Q=>bB (mM a b c d w Q) (uX a b c d w λe w=>Q (decide (e≥0)) w) (ok 9) [] [] Tryz.func241
def Zb:=λa b w Q=>bB (Ld a b w Q) (wA b λc=>aA (c.add 2) w λd e f=>aK 0 e<|wA d λg=>af .u8 (g.add (((0:Int).toNat)*1)) w λi=>Q (a !=i) w) (ok 10) [] [] Tryz.func242
def Er (uY:Addr->L3 (Int->WP))(Q:L3 WP)(a:Addr)(b:OA)(c d:Nat)(e f:Int)(w:World):Prop:=aA (a.add 2) w λg i j=>aK e i<|wA g λl=>af .u8 (l.add (e.toNat*1)) w λm=>Bx [.int .u8 (IntKind.wrap .u8 (IntKind.wrap .i64 (f-1))),.int .u8 m] 5 w λn w=>App P #[22,22] 22 (.slice b c d) (.slice (some n) 2 2) w λo p q w=>uY a o p q (IntKind.wrap .i64 (e+f)) w
def JC (uY:Addr->L3 (Int->WP))(Q:L3 WP)(R12:Addr->L3 (Int->Int->WP))(a:Addr)(b:OA)(c d:Nat)(e f:Int)(w:World):Prop:=aA (a.add 2) w.drew λg i j=>cond (decide ((IntKind.wrap .i64 (e+f))<(i:Int))) (aA (a.add 2) w.drew λl m n=>aK (IntKind.wrap .i64 (e+f)) m<|wA l λo=>af .u8 (o.add (((IntKind.wrap .i64 (e+f))).toNat*1)) w.drew λp=>aA (a.add 2) w.drew λq r s=>aK e r<|wA q λt=>af .u8 (t.add (e.toNat*1)) w.drew λu=>cond (p==u) (R12 a b c d e (IntKind.wrap .i64 (f+1)) w.drew) (Er uY Q a b c d e f w.drew)) (Er uY Q a b c d e f w.drew)
def wM (uY:Addr->L3 (Int->WP))(Q:L3 WP):Nat->Addr->L3 (Int->Int->WP)
 |0,_,_,_,_,_,_,_=>False
 |k+1,a,b,c,d,e,f,w=>JC uY Q (wM uY Q k) a b c d e f w
def JD (Q:L3 WP)(R10:Addr->L3 (Int->WP))(a:Addr)(b:OA)(c d:Nat)(e:Int)(w:World):Prop:=aA (a.add 2) w λf g i=>cond (decide (e<(g:Int))) (∃k',wM R10 Q k' a b c d e 1 w) (Q b c d w)
def wN (Q:L3 WP):Nat->Addr->L3 (Int->WP)
 |0,_,_,_,_,_,_=>False
 |k+1,a,b,c,d,e,w=>JD Q (wN Q k) a b c d e w
noncomputable def Es:cv:=[(12,sp 0 22 .done)]
def af8 {uY}(Q)(H10:Bk 75 Tryz.f221 (yW Q) 10 [(2,.a),(5,.l),(6,.i .i64)] uY):Bk 75 Tryz.f221 (yW Q) 14 [(2,.a),(5,.l),(6,.i .i64),(7,.i .i64)] (Er uY Q):=aT (ok 75) Es [aM H10]
def af9 {uY}(Q)(H10:Bk 75 Tryz.f221 (yW Q) 10 [(2,.a),(5,.l),(6,.i .i64)] uY):∀k,Bk 75 Tryz.f221 (yW Q) 12 [(2,.a),(5,.l),(6,.i .i64),(7,.i .i64)] (wM uY Q k):=bM λk h=>aT (ok 75) Es [aM h,aM (af8 Q H10)]
def af_ (Q):∀k,Bk 75 Tryz.f221 (yW Q) 10 [(2,.a),(5,.l),(6,.i .i64)] (wN Q k):=bM λk h=>aT (ok 75) Es [cu (af9 Q h)]
def ada:=λa b c d e f w Q=>bB (HI a b c d e f w Q) (Bx [ae a,ae b,.slice c d e] 84 w λg w=>Bx [.int .u8 (IntKind.wrap .u8 f)] 5 w λi w=>cond (f==0) (aA (g.add 2) w λj l m=>mM j l m (.func (.func 242) #[] #[.pointer (some g)]) w λn w=>cond n (Q none 0 0 w) (aA (g.add 2) w λo p q=>aK 0 p<|wA o λr=>af .u8 (r.add (((0:Int).toNat)*1)) w λs=>Bx [.int .u8 s] 5 w λt w=>App P #[22,22] 22 (.slice (some i) 1 1) (.slice (some t) 1 1) w λu v x w=>Q u v x w)) (cond (f==1) (aA (g.add 2) w λy z a1=>App P #[22,22] 22 (.slice (some i) 1 1) (.slice y z a1) w λb1 c1 d1 w=>Q b1 c1 d1 w) (∃k',wN Q k' g (some i) 1 1 0 w))) (ok 75) Es [cu (af_ Q)] Tryz.func221
def y7 (P3:Addr->Int->L3 (Int->WP))(Q:Int->L3 WP)(a:Addr)(b:Int)(c:OA)(d e:Nat)(f:Int)(w:World):Prop:=P3 a b c d e (IntKind.wrap .i64 (f+1)) w
def jN (Q:Int->L3 WP)(R3:Addr->Int->L3 (Int->WP))(a:Addr)(b:Int)(c:OA)(d e:Nat)(f:Int)(w:World):Prop:=cond (decide (f<3)) (af .i64 (a.add 0) w λg=>af .i64 (a.add 1) w λi=>aA (a.add 2) w λj l m=>HI g i j l m f w λn o p w=>cond (!n.isNone) (cond c.isNone (y7 R3 Q a f n o p f w) (cond (decide ((o:Int)<(d:Int))) (y7 R3 Q a f n o p f w) (R3 a b c d e (IntKind.wrap .i64 (f+1)) w))) (R3 a b c d e (IntKind.wrap .i64 (f+1)) w)) (Q b c d e w)
def ot (Q:Int->L3 WP):Nat->Addr->Int->L3 (Int->WP)
 |0,_,_,_,_,_,_,_=>False
 |k+1,a,b,c,d,e,f,w=>jN Q (ot Q k) a b c d e f w
def adb {P3}(Q)(H3:Bk 32 Tryz.f191 (CJ Q) 3 [(1,.a),(4,.i .i64),(5,.l),(8,.i .i64)] P3):Bk 32 Tryz.f191 (CJ Q) 7 [(1,.a),(6,.i .i64),(7,.l),(8,.i .i64)] (y7 P3 Q):=aT (ok 32) [] [aM H3]
def ade (Q):∀k,Bk 32 Tryz.f191 (CJ Q) 3 [(1,.a),(4,.i .i64),(5,.l),(8,.i .i64)] (ot Q k):=bM λk h=>aT (ok 32) [] [aM h,aM (adb Q h)]
def Zc:=λa b c d e w Q=>bB (EU a b c d e w Q) (Bx [ae a,ae b,.slice c d e] 84 w λf w=>∃k',ot Q k' f (-1) none 0 0 0 w) (ok 32) [] [cu (ade Q)] Tryz.func191
def adf:=λa b c d e w Q=>bB (HH a b c d e w Q) (Bx [ae a,ae b,.slice c d e] 84 w λf w=>af .i64 (f.add 0) w λg=>af .i64 (f.add 1) w λi=>aA (f.add 2) w λj l m=>uN g i j l m w λn w=>cond (!n) (Q none 0 0 1 w) (af .i64 (f.add 0) w λo=>af .i64 (f.add 1) w λp=>aA (f.add 2) w λq r s=>EU o p q r s w λt u v x w=>Q u v x 0 w)) (ok 15) [] [] Tryz.func168
def XA:=λa b c d e f w Q=>bB (Dx a b c d e f w Q) (aL P (convert 22 9 (.slice a b c)) w λg w=>YD g λi=>aL P (convert 22 9 (.slice d e f)) w λj w=>YD j λl=>Q (i.toList==l.toList) w) (ok 10) [] [] Tryz.func169
def y8 (Q:Int->Int->L3 (Value->WP))(a b:Addr)(w:World):Prop:=St (a.add 0) (ae 0) w λw=>St (a.add 1) (ae 0) w λw=>St (a.add 2) (.slice none 0 0) w λw=>af .i64 (a.add 0) w λc=>af .i64 (a.add 1) w λd=>aA (a.add 2) w λe f g=>Q c d e f g (.iface 268 (.pointer (some b))) w
def mP (Q:Int->Int->L3 (Value->WP))(a:OA)(b:Addr)(c:Value)(d:Addr)(w:World):Prop:=BE c λe=>cond e (af .i64 (d.add 0) w λf=>af .i64 (d.add 1) w λg=>aA (d.add 2) w λi j l=>St (b.add 0) (ae f) w λw=>St (b.add 1) (ae g) w λw=>St (b.add 2) (.slice i j l) w λw=>af .i64 (b.add 0) w λm=>af .i64 (b.add 1) w λn=>aA (b.add 2) w λo p q=>Q m n o p q (.nilIface) w) (wA a λr=>af .i64 (r.add 1) w λs=>dV c λt=>Bx [ae s,ae 3,t] 271 w λu w=>bY (aZ 6) w λv=>o_ c v w λx w=>cond x (St (u.add 1) (ae 2) w λw=>y8 Q b u w) (y8 Q b u w))
noncomputable def y9:cv:=[(5,sp 0 10 (.op 10 (.op 11 .done)))]
def PI (Q):Bk 66 Tryz.f158 (zV Q) 12 [(6,.a),(13,.a)] (y8 Q):=aT (ok 66) y9 []
def RK (Q):Bk 66 Tryz.f158 (zV Q) 7 [(0,.p),(6,.a),(9,.v),(10,.a)] (mP Q):=aT (ok 66) y9 [aM (PI Q)]
def Oe:=λa b c w Q=>bB (xR a b c w Q) (Al T 84 w λd w=>xS a (IntKind.wrap .i64 (b*c)) w λe f g i w=>jJ e f g w λj l m w=>Al T 84 w λn w=>St (n.add 0) (ae b) w λw=>St (n.add 1) (ae c) w λw=>St (n.add 2) (.slice j l m) w λw=>BE i λo=>cond o (af .i64 (n.add 0) w λp=>af .i64 (n.add 1) w λq=>aA (n.add 2) w λr s t=>HH p q r s t w λu v x y w=>wA a λz=>aA z w.drew λa1 b1 c1=>wA a λd1=>af .i64 (d1.add 1) w.drew λe1=>bR a1 b1 c1 1 none (some e1) λf1 g1 i1=>Dx u v x f1 g1 i1 w.drew λj1 w=>cond (!j1) (bY (aZ 5) w λl1=>mP Q a d l1 n w) (mP Q a d i n w)) (mP Q a d i n w)) (ok 66) y9 [aM (RK Q)] Tryz.func158
def B2 (Q:Int->Int->L3 (Int->Int->WP))(a:Addr)(w:World):Prop:=St (a.add 0) (ae 0) w λw=>St (a.add 1) (ae 0) w λw=>St (a.add 2) (.slice none 0 0) w λw=>af .i64 (a.add 0) w λb=>af .i64 (a.add 1) w λc=>aA (a.add 2) w λd e f=>Q b c d e f 0 1 w
noncomputable def Te:cv:=[(7,sp 0 5 (.op 5 (.op 6 (.op 7 .done)))),(8,sp 0 5 (.op 5 (.op 6 (.op 7 .done))))]
def ahL (Q):Bk 50 Tryz.f143 (U6 Q) 2 [(6,.a)] (B2 Q):=aT (ok 50) Te []
def adg:=λa b c d e w Q=>bB (HG a b c d e w Q) (Al T 84 w λf w=>cond (decide (d<1)) (B2 Q f w) (cond (decide (d>16)) (B2 Q f w) (cond (decide (e<1)) (B2 Q f w) (cond (decide (e>16)) (B2 Q f w) (Bx [.slice a b c,ae 0] 265 w λg w=>xR (some g) d e w λi j l m n o w=>St (f.add 0) (ae i) w λw=>St (f.add 1) (ae j) w λw=>St (f.add 2) (.slice l m n) w λw=>Al T 268 w λp w=>St p (.pointer none) w λw=>nv o (.iface 269 (.pointer (some p))) w λq w=>cond q (bg p w.drew λr=>wA r λs=>af .i64 (s.add 1) w.drew λt=>St (f.add 0) (ae 0) w.drew λw=>St (f.add 1) (ae 0) w λw=>St (f.add 2) (.slice none 0 0) w λw=>w.cell? (s.add 1)=some (ae t)/\w.cell? p=some (.pointer r)/\w.cell? (s.add 1)=some (ae t)/\w.cell? p=some (.pointer r)/\af .i64 (f.add 0) w λu=>af .i64 (f.add 1) w λv=>aA (f.add 2) w λx y z=>Q u v x y z 0 t w) (af .i64 (f.add 0) w.drew λa1=>af .i64 (f.add 1) w.drew λb1=>aA (f.add 2) w.drew λc1 d1 e1=>af .i64 (g.add 1) w.drew λf1=>St (f.add 0) (ae a1) w.drew λw=>St (f.add 1) (ae b1) w λw=>St (f.add 2) (.slice c1 d1 e1) w λw=>w.cell? (g.add 1)=some (ae f1)/\af .i64 (f.add 0) w λg1=>af .i64 (f.add 1) w λi1=>aA (f.add 2) w λj1 l1 m1=>Q g1 i1 j1 l1 m1 f1 0 w)))))) (ok 50) Te [aM (ahL Q)] Tryz.func143
def Zd:=λa b c d w Q=>bB (zT a b c d w Q) (lH a b w λe w=>cond (!e) (Q (-1) w) (cond (decide (c<0)) (Q (-1) w) (cond (decide (c≥a)) (Q (-1) w) (cond (decide (d<0)) (Q (-1) w) (cond (decide (d≥b)) (Q (-1) w) (Q (IntKind.wrap .i64 ((IntKind.wrap .i64 (d*a))+c)) w)))))) (ok 36) [] [] Tryz.func42
noncomputable def XB:cv:=[(5,sp 0 12 (.op 12 (.op 13 .done)))]
def Vj:=λa b c d w Q=>bB (og a b c d w Q) (wX a b c w λe f g w=>n7 a b c w λi j w=>cond (!g) (Q (-1) w) (cond (decide (d<0)) (Q (-1) w) (cond (decide (d≥(IntKind.wrap .i64 (i*j)))) (Q (-1) w) (NZ i<|NZ i<|zT a b (IntKind.wrap .i64 (e+(Int.tmod d i))) (IntKind.wrap .i64 (f+(IntKind.wrap .i64 (Int.tdiv d i)))) w.drew λl w=>Q l w)))) (ok 55) XB [] Tryz.func159
def AG (Q:WP)(R3:Addr->Addr->Int->Int->Int->WP)(a b:Addr)(c d e:Int)(w:World):Prop:=cond (decide (e<d)) (aA (a.add 2) w.drew λf g i=>af .i64 a w.drew λj=>bR f g i 1 (some (IntKind.wrap .i64 (c+(IntKind.wrap .i64 (e*j))))) none λl m n=>aA (b.add 2) w.drew λo p q=>af .i64 b w.drew λr=>af .i64 b w.drew λs=>bR o p q 1 (some (IntKind.wrap .i64 (e*r))) (some (IntKind.wrap .i64 ((IntKind.wrap .i64 (e+1))*s))) λt u v=>cD P #[22,22] 3 (.slice l m n) (.slice t u v) w.drew λx w=>R3 a b c d (IntKind.wrap .i64 (e+1)) w) (Q w)
def Et (Q:WP):Nat->Addr->Addr->Int->Int->Int->WP
 |0,_,_,_,_,_,_=>False
 |k+1,a,b,c,d,e,w=>AG Q (Et Q k) a b c d e w
noncomputable def PJ:cv:=[(5,sp 0 21 (.op 21 .done))]
def aga (Q):∀k,Bk 42 Tryz.f144 (Tc Q) 3 [(3,.a),(5,.a),(6,.i .i64),(15,.i .i64),(16,.i .i64)] (Et Q k):=bM λk h=>aT (ok 42) PJ [aM h]
def aa3:=λa b c d e f g i j l m w Q=>bB (Gd a b c d e f g i j l m w Q) (Bx [ae a,ae b,.slice c d e] 25 w λn w=>Bx [ae g,ae i,.slice j l m] 84 w λo w=>af .i64 n w λp=>af .i64 (n.add 1) w λq=>og p q f 0 w λr w=>af .i64 (o.add 1) w λs=>∃k',Et Q k' n o r s 0 w) (ok 42) PJ [cu (aga Q)] Tryz.func144
def y_ (Q:Int->Int->L3 (Value->WP))(R9:L3 (Addr->Addr->Int->Int->WP))(a:OA)(b c:Nat)(d e:Addr)(f g:Int)(w:World):Prop:=cond (decide (g<f)) (af .i64 e w λi=>af .i64 (e.add 1) w λj=>n7 i j g w λl m w=>HG a b c l m w λn o p q r s t w=>Al T 84 w λu w=>St (u.add 0) (ae n) w λw=>St (u.add 1) (ae o) w λw=>St (u.add 2) (.slice p q r) w λw=>cond (t !=0) (Bx [ae g,.iface 187 (ae t)] 242 w λv w=>St (d.add 0) (ae 0) w λw=>St (d.add 1) (ae 0) w λw=>St (d.add 2) (.slice none 0 0) w λw=>af .i64 (d.add 0) w λx=>af .i64 (d.add 1) w λy=>aA (d.add 2) w λz a1 b1=>Q x y z a1 b1 (.iface 240 (.pointer (some v))) w) (af .i64 (e.add 0) w λc1=>af .i64 (e.add 1) w λd1=>aA (e.add 2) w λe1 f1 g1=>af .i64 (u.add 0) w λi1=>af .i64 (u.add 1) w λj1=>aA (u.add 2) w λl1 m1 n1=>Gd c1 d1 e1 f1 g1 g i1 j1 l1 m1 n1 w λw=>bR a b c 1 (some s) none λo1 p1 q1=>R9 o1 p1 q1 d e f (IntKind.wrap .i64 (g+1)) w)) (cond (decide ((b:Int)>0)) (St (d.add 0) (ae 0) w λw=>St (d.add 1) (ae 0) w λw=>St (d.add 2) (.slice none 0 0) w λw=>af .i64 (d.add 0) w λr1=>af .i64 (d.add 1) w λs1=>aA (d.add 2) w λt1 u1 v1=>Q r1 s1 t1 u1 v1 (.iface 187 (ae 3)) w) (af .i64 (e.add 0) w λx1=>af .i64 (e.add 1) w λy1=>aA (e.add 2) w λz1 a2 b2=>St (d.add 0) (ae x1) w λw=>St (d.add 1) (ae y1) w λw=>St (d.add 2) (.slice z1 a2 b2) w λw=>af .i64 (d.add 0) w λc2=>af .i64 (d.add 1) w λd2=>aA (d.add 2) w λe2 f2 g2=>Q c2 d2 e2 f2 g2 (.nilIface) w))
def CP (Q:Int->Int->L3 (Value->WP)):Nat->L3 (Addr->Addr->Int->Int->WP)
 |0,_,_,_,_,_,_,_,_=>False
 |k+1,a,b,c,d,e,f,g,w=>y_ Q (CP Q k) a b c d e f g w
noncomputable def Nf:cv:=[(3,sp 0 21 (.op 21 (.op 22 .done)))]
def adh (Q):∀k,Bk 102 Tryz.f111 (Pm Q) 9 [(0,.l),(2,.a),(4,.a),(58,.i .i64),(59,.i .i64)] (CP Q k):=bM λk h=>aT (ok 102) Nf [aM h]
def Ze:=λa b c w Q=>bB (EM a b c w Q) (Al T 25 w λd w=>cond (decide ((b:Int)<4)) (St (d.add 0) (ae 0) w λw=>St (d.add 1) (ae 0) w λw=>St (d.add 2) (.slice none 0 0) w λw=>af .i64 (d.add 0) w λe=>af .i64 (d.add 1) w λf=>aA (d.add 2) w λg i j=>Q e f g i j (.iface 187 (ae 2)) w) (aK 0 b<|wA a λl=>af .u8 (l.add (((0:Int).toNat)*1)) w.drew λm=>aK 1 b<|wA a λn=>af .u8 (n.add (((1:Int).toNat)*1)) w.drew λo=>DT 8<|aK 2 b<|wA a λp=>af .u8 (p.add (((2:Int).toNat)*1)) w.drew λq=>aK 3 b<|wA a λr=>af .u8 (r.add (((3:Int).toNat)*1)) w.drew λs=>DT 8<|Al T 25 w.drew λt w=>w.cell? (r.add (((3:Int).toNat)*1))=some (.int .u8 s)/\w.cell? (p.add (((2:Int).toNat)*1))=some (.int .u8 q)/\w.cell? (n.add (((1:Int).toNat)*1))=some (.int .u8 o)/\w.cell? (l.add (((0:Int).toNat)*1))=some (.int .u8 m)/\St (t.add 0) (ae (ior .i64 (IntKind.wrap .i64 m) (BD .i64 (IntKind.wrap .i64 o) 8))) w λw=>St (t.add 1) (ae (ior .i64 (IntKind.wrap .i64 q) (BD .i64 (IntKind.wrap .i64 s) 8))) w λw=>St (t.add 2) (.slice none 0 0) w λw=>af .i64 t w λu=>af .i64 (t.add 1) w λv=>lH u v w λx w=>cond (!x) (St (d.add 0) (ae 0) w λw=>St (d.add 1) (ae 0) w λw=>St (d.add 2) (.slice none 0 0) w λw=>af .i64 (d.add 0) w λy=>af .i64 (d.add 1) w λz=>aA (d.add 2) w λa1 b1 c1=>Q y z a1 b1 c1 (.iface 187 (ae 3)) w) (bR a b c 1 (some 4) none λd1 e1 f1=>af .i64 t w λg1=>af .i64 (t.add 1) w λi1=>cy P 22 (ae (IntKind.wrap .i64 (g1*i1))) (ae (IntKind.wrap .i64 (g1*i1))) w λj1 l1 m1 w=>St (t.add 2) (.slice j1 l1 m1) w λw=>af .i64 t w λn1=>af .i64 (t.add 1) w λo1=>EP n1 o1 w λp1 w=>∃k',CP Q k' d1 e1 f1 d t p1 0 w))) (ok 102) Nf [cu (adh Q)] Tryz.func111
noncomputable def adi:cv:=[(4,sp 0 2 (.op 2 (.op 3 .done)))]
def aa4:=λa b c w Q=>bB (F8 a b c w Q) (Al T 25 w λd w=>EM a b c w λe f g i j l w=>Al T 25 w λm w=>St (m.add 0) (ae e) w λw=>St (m.add 1) (ae f) w λw=>St (m.add 2) (.slice g i j) w λw=>Al T 187 w λn w=>St n (ae 0) w λw=>nv l (.iface 188 (.pointer (some n))) w λo w=>cond o (af .i64 n w.drew λp=>St (d.add 0) (ae 0) w.drew λw=>St (d.add 1) (ae 0) w λw=>St (d.add 2) (.slice none 0 0) w λw=>w.cell? n=some (ae p)/\af .i64 (d.add 0) w λq=>af .i64 (d.add 1) w λr=>aA (d.add 2) w λs t u=>Q q r s t u p w) (af .i64 (m.add 0) w λv=>af .i64 (m.add 1) w λx=>aA (m.add 2) w λy z a1=>St (d.add 0) (ae v) w λw=>St (d.add 1) (ae x) w λw=>St (d.add 2) (.slice y z a1) w λw=>af .i64 (d.add 0) w λb1=>af .i64 (d.add 1) w λc1=>aA (d.add 2) w λd1 e1 f1=>Q b1 c1 d1 e1 f1 0 w)) (ok 18) adi [] Tryz.func79
def Mw:=λa w Q=>bB (qp a w Q) (cond (!a.isNone) (wA a λb=>bg b w λc=>vB c w λw=>wA a λd=>St (d.add 1) (.slice none 0 0) w λw=>Q w) (Q w)) (ok 12) [] [] Tryz.func82
def aa5:=λa b c d e w Q=>bB (Bd a b c d e w Q) (Bx [ae a,ae b,.slice c d e] 25 w λf w=>af .i64 f w λg=>af .i64 (f.add 1) w λi=>lH g i w λj w=>cond j (aA (f.add 2) w λl m n=>af .i64 f w λo=>af .i64 (f.add 1) w λp=>cond ((m:Int)==(IntKind.wrap .i64 (o*p))) (aA (f.add 2) w λq r s=>iV q r s 0 w λt w=>Q (!t) w) (Q false w)) (Q false w)) (ok 25) [] [] Tryz.func112
def B3 (Q:OA->WP)(R7:Addr->Int->Int->WP)(a:Addr)(b c:Int)(w:World):Prop:=cond (decide (c<b)) (aA (a.add 4) w.drew λd e f=>af .i64 (a.add 3) w.drew λg=>aK c e<|wA d λi=>St (i.add (c.toNat*1)) (ae g) w.drew λw=>R7 a b (IntKind.wrap .i64 (c+1)) w) (Q (some a) w)
def za (Q:OA->WP):Nat->Addr->Int->Int->WP
 |0,_,_,_,_=>False
 |k+1,a,b,c,w=>B3 Q (za Q k) a b c w
noncomputable def Tf:cv:=[(5,sp 0 6 (.op 6 (.op 7 (.op 8 (.op 9 .done))))),(9,sp 0 10 (.op 10 .done))]
def ahM (Q):∀k,Bk 61 Tryz.f113 (U4 Q) 7 [(7,.a),(45,.i .i64),(46,.i .i64)] (za Q k):=bM λk h=>aT (ok 61) Tf [aM h]
def adj:=λa b c d e f w Q=>bB (HD a b c d e f w Q) (Bx [ae a,ae b,.slice c d e] 25 w λg w=>af .i64 (g.add 0) w λi=>af .i64 (g.add 1) w λj=>aA (g.add 2) w λl m n=>Bd i j l m n w λo w=>cond (!o) (Q none w) (cond (decide (f<0)) (Q none w) (cond (decide (f>4611686018427387904)) (Q none w) (aA (g.add 2) w λp q r=>jJ p q r w λs t u w=>St (g.add 2) (.slice s t u) w λw=>af .i64 g w λv=>af .i64 (g.add 1) w λx=>lu v x w λy z w=>af .i64 (g.add 0) w.drew λa1=>af .i64 (g.add 1) w.drew λb1=>aA (g.add 2) w.drew λc1 d1 e1=>cy P 172 (ae (IntKind.wrap .i64 (y*z))) (ae (IntKind.wrap .i64 (y*z))) w.drew λf1 g1 i1 w=>w.cell? (g.add 0)=some (ae a1)/\w.cell? (g.add 1)=some (ae b1)/\w.cell? (g.add 2)=some (.slice c1 d1 e1)/\Bx [ae a1,ae b1,.slice c1 d1 e1,ae (IntKind.wrap .i64 (f+1)),.slice f1 g1 i1] 174 w λj1 w=>aA (j1.add 4) w λl1 m1 n1=>∃k',za Q k' j1 (m1:Int) 0 w)))) (ok 61) Tf [cu (ahM Q)] Tryz.func113
def Fw:=λa w Q=>bB (f_ a w Q) (cond a.isNone (Q 0 w) (wA a λb=>af .i64 (b.add 3) w λc=>Q c w)) (ok 9) [] [] Tryz.func114
noncomputable def T8:cv:=[(3,sp 0 10 (.op 10 (.op 11 .done)))]
def RL:=λa w Q=>bB (eN a w Q) (cond a.isNone (Q 0 0 w) (wA a λb=>af .i64 b w.drew λc=>wA a λd=>af .i64 (d.add 1) w.drew λe=>w.drew.cell? (d.add 1)=some (ae e)/\Q c e w.drew)) (ok 16) T8 [] Tryz.func147
def adk:=λa w Q=>bB (HE a w Q) (cond a.isNone (Q none w) (eN a w λb c w=>lu b c w λd e w=>cy P 234 (ae (IntKind.wrap .i64 (d*e))) (ae (IntKind.wrap .i64 (d*e))) w λf g i w=>Bx [.pointer a,.slice f g i,ae 0,.int .u64 0] 236 w λj w=>Q (some j) w)) (ok 22) [] [] Tryz.func115
def aa6:=λa b w Q=>bB (Ga a b w Q) (cond a.isNone (Q none w) (cond b.isNone (Q none w) (Bx [.pointer a,.pointer b,.pointer none,.int .u64 0] 197 w λc w=>Q (some c) w))) (ok 15) [] [] Tryz.func116
noncomputable def XC:cv:=[(5,sp 0 6 (.op 6 (.op 7 (sp 8 2 (.op 10 .done))))),(6,sp 0 6 (.op 6 (.op 7 (sp 8 2 (.op 10 .done))))),(8,sp 0 9 (.op 9 (sp 10 2 (.op 12 .done))))]
def Vk:=λa b c d e f w Q=>bB (BP a b c d e f w Q) (Bx [ae b,ae c,.slice d e f] 25 w λg w=>cond a.isNone (Q 4 w) (af .i64 (g.add 0) w λi=>af .i64 (g.add 1) w λj=>aA (g.add 2) w λl m n=>Bd i j l m n w λo w=>cond (!o) (Q 6 w) (wA a λp=>af .u64 ((p.add 4).add 0) w.drew λq=>af .u64 ((p.add 4).add 1) w.drew λr=>af .u64 ((p.add 4).add 2) w.drew λs=>af .u64 ((p.add 4).add 3) w.drew λt=>af .u64 ((p.add 4).add 4) w.drew λu=>af .u64 ((p.add 4).add 5) w.drew λv=>tS a w.drew λx y z a1 b1 c1 w=>w.cell? ((p.add 4).add 0)=some (.int .u64 q)/\w.cell? ((p.add 4).add 1)=some (.int .u64 r)/\w.cell? ((p.add 4).add 2)=some (.int .u64 s)/\w.cell? ((p.add 4).add 3)=some (.int .u64 t)/\w.cell? ((p.add 4).add 4)=some (.int .u64 u)/\w.cell? ((p.add 4).add 5)=some (.int .u64 v)/\wS q r s t u v x y z a1 b1 c1 w λd1 e1 f1 g1 i1 j1 w=>wA a λl1=>St ((l1.add 4).add 0) (.int .u64 d1) w λw=>St ((l1.add 4).add 1) (.int .u64 e1) w λw=>St ((l1.add 4).add 2) (.int .u64 f1) w λw=>St ((l1.add 4).add 3) (.int .u64 g1) w λw=>St ((l1.add 4).add 4) (.int .u64 i1) w λw=>St ((l1.add 4).add 5) (.int .u64 j1) w λw=>af .i64 (g.add 0) w.drew λm1=>af .i64 (g.add 1) w.drew λn1=>aA (g.add 2) w.drew λo1 p1 q1=>wA a λr1=>bg r1 w.drew λs1=>f_ s1 w.drew λt1 w=>w.cell? (g.add 0)=some (ae m1)/\w.cell? (g.add 1)=some (ae n1)/\w.cell? (g.add 2)=some (.slice o1 p1 q1)/\HD m1 n1 o1 p1 q1 t1 w λu1 w=>wA a λv1=>St v1 (.pointer u1) w λw=>wA a λx1=>bg x1 w λy1=>HE y1 w λz1 w=>wA a λa2=>St (a2.add 1) (.pointer z1) w λw=>wA a λb2=>bg (b2.add 1) w.drew λc2=>wA a λd2=>bg d2 w.drew λe2=>Ga c2 e2 w.drew λf2 w=>wA a λg2=>St (g2.add 2) (.pointer f2) w λw=>wA a λi2=>bg (i2.add 3) w λj2=>qp j2 w λw=>Q 0 w))) (ok 57) XC [] Tryz.func80
def aa7:=λa w Q=>bB (Gb a w Q) (cond (decide (a<1)) (Q none w) (cond (decide (a>65536)) (Q none w) (cw P 169 none w λb w=>Bx [ae a,ae 0,.map b,.slice none 0 0] 171 w λc w=>Q (some c) w))) (ok 13) [] [] Tryz.func117
def aa8:=λa w Q=>bB (Gc a w Q) (cond (decide (a<1)) (Q none w) (cond (decide (a>1048576)) (Q none w) (cy P 245 (ae a) (ae a) w λb c d w=>Bx [.slice b c d,ae 0] 247 w λe w=>Q (some e) w))) (ok 13) [] [] Tryz.func118
def aa9:=λa b c w Q=>bB (F9 a b c w Q) (lH a b w λd w=>cond (!d) (Q none w) (cond (decide (c<1)) (Q none w) (cond (decide (c>65536)) (Q none w) (Gb c w λe w=>Gc (IntKind.wrap .i64 (a*b)) w λf w=>Bx [ae a,ae b,ae c,.pointer e,.pointer f] 125 w λg w=>Q (some g) w)))) (ok 30) [] [] Tryz.func81
noncomputable def PK:cv:=[(4,sp 0 5 (.op 5 (.op 6 .done))),(6,sp 0 9 (.op 9 (sp 10 2 (.op 12 .done))))]
def Of:=λa b c d w Q=>bB (xJ a b c d w Q) (F8 b c d w λe f g i j l w=>Al T 25 w λm w=>St (m.add 0) (ae e) w λw=>St (m.add 1) (ae f) w λw=>St (m.add 2) (.slice g i j) w λw=>cond (l !=0) (Q (.iface 108 (ae 6)) w) (wA a λn=>bg (n.add 1) w.drew λo=>af .i64 (m.add 0) w.drew λp=>af .i64 (m.add 1) w.drew λq=>aA (m.add 2) w.drew λr s t=>BP o p q r s t w.drew λu w=>cond (u==0) (af .i64 m w.drew λv=>af .i64 (m.add 1) w.drew λx=>wA a λy=>af .i64 y w.drew λz=>F9 v x z w.drew λa1 w=>wA a λb1=>St (b1.add 2) (.pointer a1) w λw=>gm u w λc1 w=>dV c1 λd1=>Q d1 w) (gm u w λe1 w=>dV e1 λf1=>Q f1 w))) (ok 37) PK [] Tryz.func50
def Di:=λa w Q=>bB (qq a w Q) (cond (!a.isNone) (wA a λb=>St (b.add 2) (.pointer none) w λw=>Q w) (Q w)) (ok 7) [] [] Tryz.func83
def Hf:=λa w Q=>bB (vA a w Q) (cond (!a.isNone) (wA a λb=>bg (b.add 3) w λc=>qp c w λw=>wA a λd=>bg (d.add 2) w λe=>qq e w λw=>Q w) (Q w)) (ok 14) [] [] Tryz.func51
def RM:=λa b w Q=>bB (tU a b w Q) (cond (!a.isNone) (cond (decide (b≥0)) (wA a λc=>aA c w λd e f=>Q (decide (b<(e:Int))) w) (Q false w)) (Q false w)) (ok 20) [] [] Tryz.func148
def PL:=λa b w Q=>bB (lV a b w Q) (tU a b w λc w=>cond (!c) (Q (-1) w) (wA a λd=>aA d w λe f g=>aK b f<|wA e λi=>af .u32 (i.add (b.toNat*1)) w λj=>Q (IntKind.wrap .i64 ((IntKind.wrap .i64 j)-1)) w)) (ok 18) [] [] Tryz.func119
def PM:=λa b w Q=>bB (yL a b w Q) (cond a.isNone (Q (-1) w) (wA a λc=>bg (c.add 4) w λd=>lV d b w λe w=>Q e w)) (ok 13) [] [] Tryz.func84
def adl:=λa b c w Q=>bB (yK a b c w Q) (lH a b w λd w=>cond d (cond (decide (c≥0)) (Q (decide (c<(IntKind.wrap .i64 (a*b)))) w) (Q false w)) (Q false w)) (ok 21) [] [] Tryz.func68
noncomputable def Zf:cv:=[(3,sp 0 6 (.op 6 (.op 7 .done)))]
def XD:=λa b c w Q=>bB (s8 a b c w Q) (yK a b c w λd w=>cond (!d) (Q (-1) (-1) w) (NZ a<|NZ a<|Q (Int.tmod c a) (IntKind.wrap .i64 (Int.tdiv c a)) w.drew)) (ok 19) Zf [] Tryz.func41
def Vl:=λa b c w Q=>bB (dZ a b c w Q) (s8 a b c w λd e w=>cond (decide (d<0)) (Q (-1) w) (lu a b w λf g w=>NZ 16<|NZ 16<|Q (IntKind.wrap .i64 ((IntKind.wrap .i64 ((IntKind.wrap .i64 (Int.tdiv e 16))*f))+(IntKind.wrap .i64 (Int.tdiv d 16)))) w)) (ok 33) [] [] Tryz.func123
noncomputable def T9:cv:=[(9,sp 0 15 (sp 16 4 (.op 15 (.op 20 (.op 21 .done)))))]
def RN:=λa b c w Q=>bB (zU a b c w Q) (cond a.isNone (Q 4 w) (cond (decide (b<0)) (Q 7 w) (wA a λd=>aA (d.add 2) w λe f g=>cond (decide (b≥(f:Int))) (Q 7 w) (cond (decide (c<1)) (Q 8 w) (cond (decide (c>255)) (Q 8 w) (wA a λi=>aA (i.add 2) w λj l m=>aK b l<|wA j λn=>St (n.add (b.toNat*1)) (.int .u8 (IntKind.wrap .u8 c)) w λw=>wA a λo=>af .i64 (o.add 3) w λp=>wA a λq=>St (q.add 3) (ae (IntKind.wrap .i64 (p+1))) w λw=>wA a λr=>aA (r.add 4) w.drew λs t u=>wA a λv=>af .i64 v w.drew λx=>wA a λy=>af .i64 (y.add 1) w.drew λz=>wA a λa1=>af .i64 (a1.add 3) w.drew λb1=>dZ x z b w.drew λc1 w=>w.cell? (a1.add 3)=some (ae b1)/\w.cell? (r.add 4)=some (.slice s t u)/\(aK c1 t<|wA s λd1=>St (d1.add (c1.toNat*1)) (ae b1) w λw=>Q 0 w))))))) (ok 67) T9 [] Tryz.func120
def Vm:=λa b c w Q=>bB (BQ a b c w Q) (cond a.isNone (Q 4 w) (wA a λd=>bg d w λe=>zU e b c w λf w=>Q f w)) (ok 16) [] [] Tryz.func85
def um (Q:Value->WP)(a:OA)(b c:Int)(w:World):Prop:=wA a λd=>bg (d.add 1) w λe=>BQ e b c w λf w=>gm f w λg w=>dV g λi=>Q i w
def RO (Q):Bk 36 Tryz.f52 (F7 Q) 5 [(0,.p),(1,.i .i64),(2,.i .i64)] (um Q):=aT (ok 36) [] []
def Og:=λa b c w Q=>bB (xK a b c w Q) (cond (decide (c<1)) (Q (.iface 108 (ae 8)) w) (cond (decide (c>255)) (Q (.iface 108 (ae 8)) w) (cond (c==255) (wA a λd=>bg (d.add 2) w λe=>yL e b w λf w=>cond (decide (f≥0)) (Q (.iface 108 (ae 10)) w) (um Q a b c w)) (um Q a b c w)))) (ok 36) [] [aM (RO Q)] Tryz.func52
noncomputable def T_:cv:=[(1,sp 0 9 (.op 9 (.op 10 (.op 11 .done))))]
def RP:=λa b w Q=>bB (pe a b w Q) (wA a λc=>af .i64 c w.drew λd=>wA a λe=>af .i64 (e.add 1) w.drew λf=>dZ d f b w.drew λg w=>Q (decide (g≥0)) w) (ok 16) T_ [] Tryz.func88
def PN:=λa w Q=>bB (yO a w Q) (cond a.isNone (Q 0 w) (wA a λb=>cq (b.add 2) w λc=>aL P (Builtin.len_ #[169] 3 [.map c].toArray) w λd w=>dI .i64 d λe=>Q e w)) (ok 10) [] [] Tryz.func124
def nN (Q:Int->WP)(a b:Int)(w:World):Prop:=cond (a==b) (Q 13 w) (Q 0 w)
def xW (Q:Int->WP)(a:OA)(b c:Int)(w:World):Prop:=wA a λd=>bg (d.add 3) w.drew λe=>wA a λf=>af .i64 (f.add 2) w.drew λg=>yO e w.drew λi w=>w.cell? (f.add 2)=some (ae g)/\cond (decide (i≥g)) (Q 11 w) (nN Q b c w)
def ze (Q:Int->WP)(a:OA)(b c:Int)(w:World):Prop:=wA a λd=>bg (d.add 4) w λe=>lV e b w λf w=>cond (f !=(-1)) (Q 10 w) (xW Q a b c w)
noncomputable def ru:cv:=[(10,sp 0 4 (sp 5 4 (.op 4 (.op 9 .done))))]
def D2 (Q):Bk 48 Tryz.f89 (rZ Q) 12 [(2,.i .i64),(3,.i .i64)] (nN Q):=aT (ok 48) ru []
def D3 (Q):Bk 48 Tryz.f89 (rZ Q) 10 [(0,.p),(2,.i .i64),(3,.i .i64)] (xW Q):=aT (ok 48) ru [aM (D2 Q)]
def PO (Q):Bk 48 Tryz.f89 (rZ Q) 8 [(0,.p),(2,.i .i64),(3,.i .i64)] (ze Q):=aT (ok 48) ru [aM (D3 Q)]
def Dj:=λa b c d w Q=>bB (mY a b c d w Q) (cond (b==0) (pe a c w λe w=>cond (!e) (Q 7 w) (pe a d w λf w=>cond (!f) (Q 7 w) (ze Q a c d w))) (cond (b==1) (ze Q a c d w) (cond (b==2) (xW Q a c d w) (cond (b==3) (nN Q c d w) (Q 0 w))))) (ok 48) ru [aM (PO Q),aM (D3 Q),aM (D2 Q)] Tryz.func89
noncomputable def RQ:cv:=[(1,sp 0 7 (sp 8 4 (.op 7 (sp 12 2 .done))))]
def PR:=λa b c w Q=>bB (yN a b c w Q) (cond a.isNone (Q 0 false w.drew) (wA a λd=>cq (d.add 2) w.drew λe=>wA a λf=>af .i64 f w.drew λg=>aL P (Builtin.len_ #[169] 3 [.map e].toArray) w.drew λi w=>dI .i64 i λj=>w.cell? f=some (ae g)/\cond (decide (j≥g)) (Q 0 false w) (wA a λl=>af .i64 (l.add 1) w λm=>wA a λn=>af .i64 (n.add 1) w λo=>wA a λp=>St (p.add 1) (ae (IntKind.wrap .i64 (o+1))) w λw=>wA a λq=>cq (q.add 2) w λr=>bC P (Instr.mapUpdate 169 (.map r) (ae m) (.agg #[ae m,ae b,ae c])) w λw=>wA a λs=>aA (s.add 3) w λt u v=>Bx [ae m] 3 w λx w=>App P #[29,29] 29 (.slice t u v) (.slice (some x) 1 1) w λy z a1 w=>wA a λb1=>St (b1.add 3) (.slice y z a1) w λw=>Q m true w))) (ok 54) RQ [] Tryz.func121
def Oh:=λa b w Q=>bB (rm a b w Q) (tU a b w λc w=>cond c (wA a λd=>aA d w λe f g=>aK b f<|wA e λi=>af .u32 (i.add (b.toNat*1)) w λj=>Q (j==0) w) (Q false w)) (ok 18) [] [] Tryz.func149
def PS:=λa b c w Q=>bB (r8 a b c w Q) (rm a b w λd w=>cond (!d) (Q false w) (cond (decide (c<0)) (Q false w) (cond (decide (c≥4294967295)) (Q false w) (wA a λe=>aA e w λf g i=>aK b g<|wA f λj=>St (j.add (b.toNat*1)) (.int .u32 (IntKind.wrap .u32 (IntKind.wrap .i64 (c+1)))) w λw=>wA a λl=>af .i64 (l.add 1) w λm=>wA a λn=>St (n.add 1) (ae (IntKind.wrap .i64 (m+1))) w λw=>Q true w)))) (ok 35) [] [] Tryz.func122
def Mx:=λa b c w Q=>bB (wo a b c w Q) (cond a.isNone (Q (-1) 1 w) (mY a 0 b c w λd w=>cond (d !=0) (Q (-1) d w) (wA a λe=>bg (e.add 3) w λf=>yN f b c w λg i w=>wA a λj=>bg (j.add 4) w λl=>r8 l b g w λm w=>Q g 0 w))) (ok 35) [] [] Tryz.func86
def My:=λa b c w Q=>bB (wg a b c w Q) (wA a λd=>bg (d.add 1) w λe=>rI e b w λf w=>cond (f==255) (Q (-1) (.iface 108 (ae 9)) w) (wA a λg=>bg (g.add 2) w λi=>wo i b c w λj l w=>gm l w λm w=>dV m λn=>Q j n w)) (ok 31) [] [] Tryz.func53
def PT:=λa b w Q=>bB (iR a b w Q) (Al T 43 w λc w=>cond a.isNone (St (c.add 0) (ae 0) w λw=>St (c.add 1) (ae 0) w λw=>St (c.add 2) (ae 0) w λw=>af .i64 (c.add 0) w λd=>af .i64 (c.add 1) w λe=>af .i64 (c.add 2) w λf=>Q d e f false w) (wA a λg=>cq (g.add 2) w λi=>aL P (Instr.lookup 169 (.map i) (ae b) true) w λj w=>dT j λl=>dK l λm n=>dL m λo=>dK o λp q=>dI .i64 p λr=>dK q λs t=>dI .i64 s λu=>dK t λv x=>dI .i64 v λy=>kL x<|dK n λz a1=>dB z λb1=>kL a1<|Al T 43 w λc1 w=>St (c1.add 0) (ae r) w λw=>St (c1.add 1) (ae u) w λw=>St (c1.add 2) (ae y) w λw=>af .i64 (c1.add 0) w λd1=>af .i64 (c1.add 1) w λe1=>af .i64 (c1.add 2) w λf1=>St (c.add 0) (ae d1) w λw=>St (c.add 1) (ae e1) w λw=>St (c.add 2) (ae f1) w λw=>af .i64 (c.add 0) w λg1=>af .i64 (c.add 1) w λi1=>af .i64 (c.add 2) w λj1=>Q g1 i1 j1 b1 w)) (ok 22) [] [] Tryz.func87
def ou (Q:L3 WP)(R3:OA->L3 (L3 (Int->Int->WP)))(a b:OA)(c d:Nat)(e:OA)(f g:Nat)(i j:Int)(w:World):Prop:=cond (decide (j<i)) (aK j f<|wA e λl=>af .i64 (l.add (j.toNat*1)) w λm=>wA a λn=>cq (n.add 2) w λo=>aL P (Instr.lookup 169 (.map o) (ae m) true) w λp w=>dT p λq=>dK q λr s=>dL r λt=>dK t λu v=>dI .i64 u λx=>dK v λy z=>dI .i64 y λa1=>dK z λb1 c1=>dI .i64 b1 λd1=>kL c1<|dK s λe1 f1=>dB e1 λg1=>kL f1<|Al T 43 w λi1 w=>St (i1.add 0) (ae x) w λw=>St (i1.add 1) (ae a1) w λw=>St (i1.add 2) (ae d1) w λw=>cond g1 (Bx [ae m] 3 w λj1 w=>App P #[29,29] 29 (.slice b c d) (.slice (some j1) 1 1) w λl1 m1 n1 w=>R3 a l1 m1 n1 e f g i (IntKind.wrap .i64 (j+1)) w) (R3 a b c d e f g i (IntKind.wrap .i64 (j+1)) w)) (Q b c d w)
def lW (Q:L3 WP):Nat->OA->L3 (L3 (Int->Int->WP))
 |0,_,_,_,_,_,_,_,_,_,_=>False
 |k+1,a,b,c,d,e,f,g,i,j,w=>ou Q (lW Q k) a b c d e f g i j w
def PU (Q):∀k,Bk 33 Tryz.f102 (Fl Q) 3 [(0,.p),(3,.l),(11,.l),(12,.i .i64),(13,.i .i64)] (lW Q k):=bM λk h=>aT (ok 33) [] [aM h]
def Mz:=λa w Q=>bB (qt a w Q) (wA a λb=>aA (b.add 3) w λc d e=>∃k',lW Q k' a none 0 0 c d e (d:Int) 0 w) (ok 33) [] [cu (PU Q)] Tryz.func102
noncomputable def PV:cv:=[(5,sp 0 9 (.op 9 (sp 10 2 .done)))]
def Oi:=λa b w Q=>bB (xO a b w Q) (iR a b w λc d e f w=>Al T 43 w λg w=>St (g.add 0) (ae c) w λw=>St (g.add 1) (ae d) w λw=>St (g.add 2) (ae e) w λw=>cond (!f) (Q false w) (wA a λi=>cq (i.add 2) w λj=>aL P (Builtin.delete_ #[169,3] 0 [.map j,ae b].toArray) w λl w=>wA a λm=>aA (m.add 3) w.drew λn o p=>wA a λq=>cq (q.add 2) w.drew λr=>aL P (Builtin.len_ #[169] 3 [.map r].toArray) w.drew λs w=>dI .i64 s λt=>w.cell? (m.add 3)=some (.slice n o p)/\cond (decide ((o:Int)>(IntKind.wrap .i64 (2*t)))) (qt a w λu v x w=>wA a λy=>St (y.add 3) (.slice u v x) w λw=>Q true w) (Q true w))) (ok 37) PV [] Tryz.func125
def Oj:=λa b w Q=>bB (rj a b w Q) (lV a b w λc w=>cond (c !=(-1)) (wA a λd=>aA d w λe f g=>aK b f<|wA e λi=>St (i.add (b.toNat*1)) (.int .u32 0) w λw=>wA a λj=>af .i64 (j.add 1) w λl=>wA a λm=>St (m.add 1) (ae (IntKind.wrap .i64 (l-1))) w λw=>Q c w) (Q c w)) (ok 25) [] [] Tryz.func126
noncomputable def PW:cv:=[(1,sp 0 6 (.op 6 .done)),(2,sp 0 6 (.op 6 .done))]
def Ol:=λa b c d w Q=>bB (nI a b c d w Q) (Bx [ae b,ae c,ae d] 43 w λe w=>wA a λf=>bg (f.add 3) w.drew λg=>af .i64 e w.drew λi=>xO g i w.drew λj w=>wA a λl=>bg (l.add 4) w.drew λm=>af .i64 (e.add 1) w.drew λn=>rj m n w.drew λo w=>Q w) (ok 18) PW [] Tryz.func90
noncomputable def RR:cv:=[(4,sp 0 6 (.op 6 .done))]
def PX:=λa b c w Q=>bB (r9 a b c w Q) (iR a b w λd e f g w=>Al T 43 w λi w=>St (i.add 0) (ae d) w λw=>St (i.add 1) (ae e) w λw=>St (i.add 2) (ae f) w λw=>cond g (iv (cx 25) c [.pointer (some i)] w λj w=>dT j λl=>kL l<|wA a λm=>cq (m.add 2) w.drew λn=>af .i64 (i.add 0) w.drew λo=>af .i64 (i.add 1) w.drew λp=>af .i64 (i.add 2) w.drew λq=>bC P (Instr.mapUpdate 169 (.map n) (ae b) (.agg #[ae o,ae p,ae q])) w.drew λw=>Q g w) (Q g w)) (ok 25) RR [] Tryz.func127
def MA:=λa b w Q=>bB (Df a b w Q) (wA b λc=>af .i64 c w λd=>wA a λe=>St (e.add 2) (ae d) w λw=>Q w) (ok 7) [] [] Tryz.func128
def PY:=λa b c w Q=>bB (yM a b c w Q) (Bx [ae c] 3 w λd w=>r9 a b (.func (.func 128) #[] #[.pointer (some d)]) w λe w=>Q e w) (ok 11) [] [] Tryz.func91
def JE:=λa b c w Q=>bB (sQ a b c w Q) (cond a.isNone (Q 1 w) (wA a λd=>bg (d.add 3) w λe=>iR e b w λf g i j w=>Al T 43 w λl w=>St (l.add 0) (ae f) w λw=>St (l.add 1) (ae g) w λw=>St (l.add 2) (ae i) w λw=>cond (!j) (Q 12 w) (pe a c w λm w=>cond (!m) (Q 7 w) (af .i64 (l.add 1) w λn=>mY a 3 n c w λo w=>cond (o !=0) (af .i64 (l.add 0) w λp=>af .i64 (l.add 1) w λq=>af .i64 (l.add 2) w λr=>nI a p q r w λw=>Q o w) (wA a λs=>bg (s.add 3) w λt=>yM t b c w λu w=>Q 0 w))))) (ok 47) [] [] Tryz.func55
def Kf:=λa b w Q=>bB (tQ a b w Q) (cond a.isNone (Q 1 w) (wA a λc=>bg (c.add 3) w λd=>iR d b w λe f g i w=>Al T 43 w λj w=>St (j.add 0) (ae e) w λw=>St (j.add 1) (ae f) w λw=>St (j.add 2) (ae g) w λw=>cond (!i) (Q 12 w) (af .i64 (j.add 0) w λl=>af .i64 (j.add 1) w λm=>af .i64 (j.add 2) w λn=>nI a l m n w λw=>Q 0 w))) (ok 23) [] [] Tryz.func56
def Vn:=λa w Q=>bB (wV a w Q) (cond a.isNone (Q 0 0 w) (wA a λb=>bg b w λc=>eN c w λd e w=>Q d e w)) (ok 13) [] [] Tryz.func131
def XE:=λa b c w Q=>bB (nh a b c w Q) (s8 a b c w λd e w=>cond (decide (d<0)) (Q (-1) w) (dZ a b c w λf w=>n7 a b f w λg i w=>NZ 16<|NZ 16<|Q (IntKind.wrap .i64 ((IntKind.wrap .i64 ((Int.tmod e 16)*g))+(Int.tmod d 16))) w)) (ok 37) [] [] Tryz.func132
def rL (Q:Int->Int->L3 (Bool->WP))(R7:OA->Int->Addr->Int->Int->Int->Addr->Int->Int->WP)(a:OA)(b:Int)(c:Addr)(d e f:Int)(g:Addr)(i j:Int)(w:World):Prop:=cond (decide (j<i)) (og d e b (IntKind.wrap .i64 (j*f)) w λl w=>aA (g.add 2) w.drew λm n o=>wA a λp=>aA (p.add 2) w.drew λq r s=>bR q r s 1 (some l) (some (IntKind.wrap .i64 (l+f))) λt u v=>App P #[22,22] 22 (.slice m n o) (.slice t u v) w.drew λx y z w=>St (g.add 2) (.slice x y z) w λw=>R7 a b c d e f g i (IntKind.wrap .i64 (j+1)) w) (af .i64 (g.add 0) w λa1=>af .i64 (g.add 1) w λb1=>aA (g.add 2) w λc1 d1 e1=>St (c.add 0) (ae a1) w λw=>St (c.add 1) (ae b1) w λw=>St (c.add 2) (.slice c1 d1 e1) w λw=>af .i64 (c.add 0) w λf1=>af .i64 (c.add 1) w λg1=>aA (c.add 2) w λi1 j1 l1=>Q f1 g1 i1 j1 l1 true w)
def ow (Q:Int->Int->L3 (Bool->WP)):Nat->OA->Int->Addr->Int->Int->Int->Addr->Int->Int->WP
 |0,_,_,_,_,_,_,_,_,_,_=>False
 |k+1,a,b,c,d,e,f,g,i,j,w=>rL Q (ow Q k) a b c d e f g i j w
noncomputable def Hg:cv:=[(10,sp 0 12 (.op 12 (.op 13 (.op 14 .done))))]
def Vo (Q):∀k,Bk 58 Tryz.f161 (IS Q) 7 [(0,.p),(1,.i .i64),(4,.a),(6,.i .i64),(7,.i .i64),(8,.i .i64),(10,.a),(31,.i .i64),(32,.i .i64)] (ow Q k):=bM λk h=>aT (ok 58) Hg [aM h]
def RS:=λa b w Q=>bB (tV a b w Q) (Al T 84 w λc w=>eN a w λd e w=>n7 d e b w λf g w=>cond (f==0) (St (c.add 0) (ae 0) w λw=>St (c.add 1) (ae 0) w λw=>St (c.add 2) (.slice none 0 0) w λw=>af .i64 (c.add 0) w λi=>af .i64 (c.add 1) w λj=>aA (c.add 2) w λl m n=>Q i j l m n false w) (Al T 84 w λo w=>St (o.add 0) (ae f) w λw=>St (o.add 1) (ae g) w λw=>St (o.add 2) (.slice none 0 0) w λw=>∃k',ow Q k' a b c d e f o g 0 w)) (ok 58) Hg [cu (Vo Q)] Tryz.func161
def MB:=λa w Q=>bB (wv a w Q) (cond a.isNone (Q 0 w) (wA a λb=>af .i64 (b.add 1) w λc=>Q c w)) (ok 9) [] [] Tryz.func170
def Vp:=λw Q=>bB (wZ w Q) (Al T 314 w λa w=>St (a.add 0) (ae 0) w λw=>St (a.add 1) (ae 1) w λw=>St (a.add 2) (ae 2) w λw=>St (a.add 3) (ae 3) w λw=>af .i64 (a.add 0) w λb=>af .i64 (a.add 1) w λc=>af .i64 (a.add 2) w λd=>af .i64 (a.add 3) w λe=>Q b c d e w) (ok 2) [] [] Tryz.func194
def nA (Q:Int->WP)(a b c d:Int)(w:World):Prop:=zT a b c d w λe w=>Q e w
def xg (Q:Int->WP)(a b c d e:Int)(w:World):Prop:=nA Q a b c (IntKind.wrap .i64 (d+e)) w
def xh (Q:Int->WP)(a b c d e:Int)(w:World):Prop:=nA Q a b (IntKind.wrap .i64 (c+e)) d w
def Gk (Q):Bk 43 Tryz.f21 (CG Q) 16 [(0,.i .i64),(1,.i .i64),(9,.i .i64),(10,.i .i64)] (nA Q):=aT (ok 43) [] []
def aa_ (Q):Bk 43 Tryz.f21 (CG Q) 12 [(0,.i .i64),(1,.i .i64),(9,.i .i64),(10,.i .i64),(11,.i .i64)] (xg Q):=aT (ok 43) [] [aM (Gk Q)]
def aba (Q):Bk 43 Tryz.f21 (CG Q) 14 [(0,.i .i64),(1,.i .i64),(9,.i .i64),(10,.i .i64),(11,.i .i64)] (xh Q):=aT (ok 43) [] [aM (Gk Q)]
def Zg:=λa b c d w Q=>bB (n6 a b c d w Q) (s8 a b c w λe f w=>cond (decide (e<0)) (Q (-1) w) (cond (d==0) (xg Q a b e f (-1) w) (cond (d==2) (xg Q a b e f 1 w) (cond (d==3) (xh Q a b e f (-1) w) (cond (d==1) (xh Q a b e f 1 w) (cond (d==4) (nA Q a b e f w) (Q (-1) w))))))) (ok 43) [] [aM (aa_ Q),aM (aba Q),aM (Gk Q)] Tryz.func21
def XF:=λa b c d w Q=>bB (ym a b c d w Q) (n6 a b c d w λe w=>cond (decide (e<0)) (Q (-1) w) (dZ a b e w λf w=>dZ a b c w λg w=>cond (f==g) (Q (-1) w) (Q e w))) (ok 29) [] [] Tryz.func195
def tj (Q:L3 WP)(R10:L3 (Int->Int->Int->WP))(a:OA)(b c:Nat)(d e f:Int)(w:World):Prop:=cond (decide (f<e)) (Bx [ae (IntKind.wrap .i64 (d+f))] 3 w λg w=>App P #[29,29] 29 (.slice a b c) (.slice (some g) 1 1) w λi j l w=>R10 i j l d e (IntKind.wrap .i64 (f+1)) w) (Q a b c w)
def ni (Q:L3 WP):Nat->L3 (Int->Int->Int->WP)
 |0,_,_,_,_,_,_,_=>False
 |k+1,a,b,c,d,e,f,w=>tj Q (ni Q k) a b c d e f w
def tq (Q:L3 WP)(R16:Int->L3 (Int->Int->Int->WP))(a:Int)(b:OA)(c d:Nat)(e f g:Int)(w:World):Prop:=cond (decide (g<f)) (Bx [ae (IntKind.wrap .i64 (e+(IntKind.wrap .i64 (g*a))))] 3 w λi w=>App P #[29,29] 29 (.slice b c d) (.slice (some i) 1 1) w λj l m w=>R16 a j l m e f (IntKind.wrap .i64 (g+1)) w) (Q b c d w)
def nj (Q:L3 WP):Nat->Int->L3 (Int->Int->Int->WP)
 |0,_,_,_,_,_,_,_,_=>False
 |k+1,a,b,c,d,e,f,g,w=>tq Q (nj Q k) a b c d e f g w
def XG (Q):∀k,Bk 51 Tryz.f222 (EV Q) 10 [(7,.l),(8,.i .i64),(24,.i .i64),(25,.i .i64)] (ni Q k):=bM λk h=>aT (ok 51) [] [aM h]
def XH (Q):∀k,Bk 51 Tryz.f222 (EV Q) 16 [(0,.i .i64),(7,.l),(8,.i .i64),(37,.i .i64),(38,.i .i64)] (nj Q k):=bM λk h=>aT (ok 51) [] [aM h]
def Vq:=λa b c w Q=>bB (BY a b c w Q) (cond (c==2) (∃k',ni Q k' none 0 0 (IntKind.wrap .i64 ((IntKind.wrap .i64 (b-1))*a)) a 0 w) (cond (c==0) (∃k',ni Q k' none 0 0 0 a 0 w) (cond (c==1) (∃k',nj Q k' a none 0 0 (IntKind.wrap .i64 (a-1)) b 0 w) (cond (c==3) (∃k',nj Q k' a none 0 0 0 b 0 w) (Q none 0 0 w))))) (ok 51) [] [cu (XG Q),cu (XH Q)] Tryz.func222
def uZ (P4:Int->Int->Int->Int->Int->L3 (Int->Int->Int->Int->Int->WP))(Q:L3 WP)(R9:Int->Int->Int->Int->Int->L3 (Int->Int->Int->Int->Int->L3 (Int->Int->WP)))(a b c d e:Int)(f:OA)(g i:Nat)(j l m n o:Int)(p:OA)(q r:Nat)(s t:Int)(w:World):Prop:=cond (decide (t<s)) (aK t q<|wA p λu=>af .i64 (u.add (t.toNat*1)) w λv=>aK v g<|wA f λx=>St (x.add (v.toNat*1)) (.bool true) w λw=>R9 a b c d e f g i j l m n o p q r s (IntKind.wrap .i64 (t+1)) w) (P4 a b c d e f g i j l m n (IntKind.wrap .i64 (o+1)) w)
def qP (P4:Int->Int->Int->Int->Int->L3 (Int->Int->Int->Int->Int->WP))(Q:L3 WP):Nat->Int->Int->Int->Int->Int->L3 (Int->Int->Int->Int->Int->L3 (Int->Int->WP))
 |0,_,_,_,_,_,_,_,_,_,_,_,_,_,_,_,_,_,_,_=>False
 |k+1,a,b,c,d,e,f,g,i,j,l,m,n,o,p,q,r,s,t,w=>uZ P4 Q (qP P4 Q k) a b c d e f g i j l m n o p q r s t w
def tu (Q:L3 WP)(R16:Int->Int->Int->L3 (L3 (Int->Int->WP)))(a b c:Int)(d:OA)(e f:Nat)(g:OA)(i j:Nat)(l m:Int)(w:World):Prop:=cond (decide (m<l)) (aK m i<|wA g λn=>cA (n.add (m.toNat*1)) w λo=>cond o (og a b c m w λp w=>Bx [ae p] 3 w λq w=>App P #[29,29] 29 (.slice d e f) (.slice (some q) 1 1) w λr s t w=>R16 a b c r s t g i j l (IntKind.wrap .i64 (m+1)) w) (R16 a b c d e f g i j l (IntKind.wrap .i64 (m+1)) w)) (Q d e f w)
def pS (Q:L3 WP):Nat->Int->Int->Int->L3 (L3 (Int->Int->WP))
 |0,_,_,_,_,_,_,_,_,_,_,_,_=>False
 |k+1,a,b,c,d,e,f,g,i,j,l,m,w=>tu Q (pS Q k) a b c d e f g i j l m w
def u6 (Q:L3 WP)(R4:Int->Int->Int->Int->Int->L3 (Int->Int->Int->Int->Int->WP))(a b c d e:Int)(f:OA)(g i:Nat)(j l m n o:Int)(w:World):Prop:=cond (decide (o<4)) (aK o 4<|IxV [ae j,ae l,ae m,ae n] o.toNat λp=>dI .i64 p λq=>BY d e q w λr s t w=>cond ((s:Int)==0) (R4 a b c d e f g i j l m n (IntKind.wrap .i64 (o+1)) w) (aK 0 s<|wA r λu=>af .i64 (u.add (((0:Int).toNat)*1)) w λv=>og a b c v w λx w=>ym a b x q w λy w=>cond (decide (y<0)) (R4 a b c d e f g i j l m n (IntKind.wrap .i64 (o+1)) w) (∃k',qP R4 Q k' a b c d e f g i j l m n o r s t (s:Int) 0 w))) (∃k',pS Q k' a b c none 0 0 f g i (g:Int) 0 w)
def qQ (Q:L3 WP):Nat->Int->Int->Int->Int->Int->L3 (Int->Int->Int->Int->Int->WP)
 |0,_,_,_,_,_,_,_,_,_,_,_,_,_,_=>False
 |k+1,a,b,c,d,e,f,g,i,j,l,m,n,o,w=>u6 Q (qQ Q k) a b c d e f g i j l m n o w
def Zh {P4}(Q)(H4:Bk 83 Tryz.f192 (uW Q) 4 [(0,.i .i64),(1,.i .i64),(2,.i .i64),(7,.i .i64),(8,.i .i64),(9,.l),(29,.g [.i64,.i64,.i64,.i64]),(30,.i .i64)] P4):∀k,Bk 83 Tryz.f192 (uW Q) 9 [(0,.i .i64),(1,.i .i64),(2,.i .i64),(7,.i .i64),(8,.i .i64),(9,.l),(29,.g [.i64,.i64,.i64,.i64]),(30,.i .i64),(54,.l),(55,.i .i64),(56,.i .i64)] (qP P4 Q k):=bM λk h=>aT (ok 83) [] [aM H4,aM h]
def XI (Q):∀k,Bk 83 Tryz.f192 (uW Q) 16 [(0,.i .i64),(1,.i .i64),(2,.i .i64),(15,.l),(65,.l),(66,.i .i64),(67,.i .i64)] (pS Q k):=bM λk h=>aT (ok 83) [] [aM h]
def Zi (Q):∀k,Bk 83 Tryz.f192 (uW Q) 4 [(0,.i .i64),(1,.i .i64),(2,.i .i64),(7,.i .i64),(8,.i .i64),(9,.l),(29,.g [.i64,.i64,.i64,.i64]),(30,.i .i64)] (qQ Q k):=bM λk h=>aT (ok 83) [] [aM h,cu (Zh Q h),cu (XI Q)]
def Vr:=λa b c w Q=>bB (BW a b c w Q) (n7 a b c w λd e w=>cy P 49 (ae (IntKind.wrap .i64 (d*e))) (ae (IntKind.wrap .i64 (d*e))) w λf g i w=>wZ w λj l m n w=>∃k',qQ Q k' a b c d e f g i j l m n 0 w) (ok 83) [] [cu (Zi Q)] Tryz.func192
def XJ:=λa b w Q=>bB (s9 a b w Q) (fe a b w λc w=>cond (decide (c>0)) (Q (decide (c<255)) w) (Q false w)) (ok 15) [] [] Tryz.func193
def u7 (Q:L3 WP)(R4:OA->L3 (L3 (Int->Int->WP)))(a b:OA)(c d:Nat)(e:OA)(f g:Nat)(i j:Int)(w:World):Prop:=cond (decide (j<i)) (aK j f<|wA e λl=>af .i64 (l.add (j.toNat*1)) w λm=>s9 a m w λn w=>cond n (Bx [ae m] 3 w λo w=>App P #[29,29] 29 (.slice b c d) (.slice (some o) 1 1) w λp q r w=>R4 a p q r e f g i (IntKind.wrap .i64 (j+1)) w) (R4 a b c d e f g i (IntKind.wrap .i64 (j+1)) w)) (Q b c d w)
def qR (Q:L3 WP):Nat->OA->L3 (L3 (Int->Int->WP))
 |0,_,_,_,_,_,_,_,_,_,_=>False
 |k+1,a,b,c,d,e,f,g,i,j,w=>u7 Q (qR Q k) a b c d e f g i j w
def Zj (Q):∀k,Bk 33 Tryz.f171 (K8 Q) 4 [(0,.p),(7,.l),(18,.l),(19,.i .i64),(20,.i .i64)] (qR Q k):=bM λk h=>aT (ok 33) [] [aM h]
def Vs:=λa b w Q=>bB (om a b w Q) (eN a w λc d w=>BW c d b w λe f g w=>∃k',qR Q k' a none 0 0 e f g (f:Int) 0 w) (ok 33) [] [cu (Zj Q)] Tryz.func171
def u9 (Q:L3 WP)(R6:OA->Int->Int->Int->L3 (Int->Int->Int->Int->Int->WP))(a:OA)(b c d:Int)(e:OA)(f g:Nat)(i j l m n:Int)(w:World):Prop:=cond (decide (n<4)) (aK n 4<|IxV [ae i,ae j,ae l,ae m] n.toNat λo=>dI .i64 o λp=>ym c d b p w λq w=>cond (decide (q≥0)) (s9 a q w λr w=>cond r (fe a q w λs w=>Bx [ae q,ae s] 292 w λt w=>App P #[289,289] 289 (.slice e f g) (.slice (some t) 1 1) w λu v x w=>R6 a b c d u v x i j l m (IntKind.wrap .i64 (n+1)) w) (R6 a b c d e f g i j l m (IntKind.wrap .i64 (n+1)) w)) (R6 a b c d e f g i j l m (IntKind.wrap .i64 (n+1)) w)) (Q e f g w)
def n8 (Q:L3 WP):Nat->OA->Int->Int->Int->L3 (Int->Int->Int->Int->Int->WP)
 |0,_,_,_,_,_,_,_,_,_,_,_,_,_=>False
 |k+1,a,b,c,d,e,f,g,i,j,l,m,n,w=>u9 Q (n8 Q k) a b c d e f g i j l m n w
def Zk (Q):∀k,Bk 46 Tryz.f172 (K9 Q) 6 [(0,.p),(1,.i .i64),(5,.i .i64),(6,.i .i64),(7,.l),(20,.g [.i64,.i64,.i64,.i64]),(21,.i .i64)] (n8 Q k):=bM λk h=>aT (ok 46) [] [aM h]
def Vt:=λa b w Q=>bB (BV a b w Q) (eN a w λc d w=>s9 a b w λe w=>cond (!e) (Q none 0 0 w) (wZ w λf g i j w=>∃k',n8 Q k' a b c d none 0 0 f g i j 0 w)) (ok 46) [] [cu (Zk Q)] Tryz.func172
def RT:=λa b w Q=>bB (zX a b w Q) (cond a.isNone (Q 1099511627776 w) (cond (decide (b<0)) (Q 1099511627776 w) (wA a λc=>aA (c.add 2) w λd e f=>cond (decide (b≥(e:Int))) (Q 1099511627776 w) (wA a λg=>aA (g.add 2) w λi j l=>aK b j<|wA i λm=>af .i32 (m.add (b.toNat*1)) w λn=>cond (n==2147483647) (Q 1099511627776 w) (wA a λo=>aA (o.add 2) w λp q r=>aK b q<|wA p λs=>af .i32 (s.add (b.toNat*1)) w λt=>Q (IntKind.wrap .i64 t) w))))) (ok 38) [] [] Tryz.func173
def iH (Q:Int->WP)(R4:Int->Int->Int->Int->Int->WP)(a b c d e:Int)(w:World):Prop:=cond (decide (e<=4)) (n6 a b c e w λf w=>cond (f==d) (Q e w) (R4 a b c d (IntKind.wrap .i64 (e+1)) w)) (Q 5 w)
def mQ (Q:Int->WP):Nat->Int->Int->Int->Int->Int->WP
 |0,_,_,_,_,_,_=>False
 |k+1,a,b,c,d,e,w=>iH Q (mQ Q k) a b c d e w
def adm (Q):∀k,Bk 34 Tryz.f174 (Pu Q) 4 [(0,.i .i64),(1,.i .i64),(2,.i .i64),(3,.i .i64),(9,.i .i64)] (mQ Q k):=bM λk h=>aT (ok 34) [] [aM h]
def Zl:=λa b c d w Q=>bB (ES a b c d w Q) (yK a b c w λe w=>cond (!e) (Q 5 w) (yK a b d w λf w=>cond (!f) (Q 5 w) (∃k',mQ Q k' a b c d 0 w))) (ok 34) [] [cu (adm Q)] Tryz.func174
def On:=λa w Q=>bB (xU a w Q) (cond a.isNone (Q (-1) w) (wA a λb=>af .i64 b w λc=>Q c w)) (ok 9) [] [] Tryz.func175
def B4:=λa b c w Q=>bB (ji a b c w Q) (cond a.isNone (Q none 0 0 w) (Bx [] 294 w λd w=>App P #[278,278] 278 (.slice (some d) 0 0) (.slice a b c) w λe f g w=>Q e f g w)) (ok 8) [] [] Tryz.func185
def fO (P1:L3 (Int->Int->Value->Int->WP))(Q:WP)(R4:L3 (Int->Int->Value->Int->Int->WP))(a:OA)(b c:Nat)(d e:Int)(f:Value)(g i:Int)(w:World):Prop:=cond (decide (i>d)) (aK i b<|wA a λj=>af .i64 ((j.add (i.toNat*3)).add 0) w.drew λl=>af .i64 ((j.add (i.toNat*3)).add 1) w.drew λm=>af .i64 ((j.add (i.toNat*3)).add 2) w.drew λn=>aK (IntKind.wrap .i64 (i-1)) b<|wA a λo=>af .i64 ((o.add (((IntKind.wrap .i64 (i-1))).toNat*3)).add 0) w.drew λp=>af .i64 ((o.add (((IntKind.wrap .i64 (i-1))).toNat*3)).add 1) w.drew λq=>af .i64 ((o.add (((IntKind.wrap .i64 (i-1))).toNat*3)).add 2) w.drew λr=>iv (cx 53) f [.agg #[ae l,ae m,ae n],.agg #[ae p,ae q,ae r]] w.drew λs w=>dI .i64 s λt=>cond (decide (t<0)) (aK (IntKind.wrap .i64 (i-1)) b<|wA a λu=>af .i64 ((u.add (((IntKind.wrap .i64 (i-1))).toNat*3)).add 0) w.drew λv=>af .i64 ((u.add (((IntKind.wrap .i64 (i-1))).toNat*3)).add 1) w.drew λx=>af .i64 ((u.add (((IntKind.wrap .i64 (i-1))).toNat*3)).add 2) w.drew λy=>aK i b<|wA a λz=>af .i64 ((z.add (i.toNat*3)).add 0) w.drew λa1=>af .i64 ((z.add (i.toNat*3)).add 1) w.drew λb1=>af .i64 ((z.add (i.toNat*3)).add 2) w.drew λc1=>aK i b<|wA a λd1=>St ((d1.add (i.toNat*3)).add 0) (ae v) w.drew λw=>St ((d1.add (i.toNat*3)).add 1) (ae x) w λw=>St ((d1.add (i.toNat*3)).add 2) (ae y) w λw=>aK (IntKind.wrap .i64 (i-1)) b<|wA a λe1=>St ((e1.add (((IntKind.wrap .i64 (i-1))).toNat*3)).add 0) (ae a1) w λw=>St ((e1.add (((IntKind.wrap .i64 (i-1))).toNat*3)).add 1) (ae b1) w λw=>St ((e1.add (((IntKind.wrap .i64 (i-1))).toNat*3)).add 2) (ae c1) w λw=>R4 a b c d e f g (IntKind.wrap .i64 (i-1)) w) (P1 a b c d e f (IntKind.wrap .i64 (g+1)) w)) (P1 a b c d e f (IntKind.wrap .i64 (g+1)) w.drew)
def eO (P1:L3 (Int->Int->Value->Int->WP))(Q:WP):Nat->L3 (Int->Int->Value->Int->Int->WP)
 |0,_,_,_,_,_,_,_,_,_=>False
 |k+1,a,b,c,d,e,f,g,i,w=>fO P1 Q (eO P1 Q k) a b c d e f g i w
def fP (Q:WP)(R1:L3 (Int->Int->Value->Int->WP))(a:OA)(b c:Nat)(d e:Int)(f:Value)(g:Int)(w:World):Prop:=cond (decide (g<e)) (∃k',eO R1 Q k' a b c d e f g g w) (Q w)
def eS (Q:WP):Nat->L3 (Int->Int->Value->Int->WP)
 |0,_,_,_,_,_,_,_,_=>False
 |k+1,a,b,c,d,e,f,g,w=>fP Q (eS Q k) a b c d e f g w
noncomputable def j6:cv:=[(4,sp 0 14 (.op 14 (sp 15 2 .done))),(6,sp 0 15 (.op 15 (.op 16 (.op 17 .done))))]
def Aa {P1}(Q)(H1:Bk 53 Tryz.f243 (iy Q) 1 [(0,.l),(1,.i .i64),(2,.i .i64),(3,.v),(8,.i .i64)] P1):∀k,Bk 53 Tryz.f243 (iy Q) 4 [(0,.l),(1,.i .i64),(2,.i .i64),(3,.v),(8,.i .i64),(9,.i .i64)] (eO P1 Q k):=bM λk h=>aT (ok 53) j6 [aM H1,aM h]
def Ab (Q):∀k,Bk 53 Tryz.f243 (iy Q) 1 [(0,.l),(1,.i .i64),(2,.i .i64),(3,.v),(8,.i .i64)] (eS Q k):=bM λk h=>aT (ok 53) j6 [cu (Aa Q h)]
def zf:=λa b c d e f w Q=>bB (jK a b c d e f w Q) (∃k',eS Q k' a b c d e f (IntKind.wrap .i64 (d+1)) w) (ok 53) j6 [cu (Ab Q)] Tryz.func243
def fI (P1:L3 (Int->Int->Value->Int->WP))(Q:WP)(a:OA)(b c:Nat)(d e:Int)(f:Value)(g i:Int)(w:World):Prop:=aK (IntKind.wrap .i64 (e+g)) b<|wA a λj=>af .i64 ((j.add (((IntKind.wrap .i64 (e+g))).toNat*3)).add 0) w.drew λl=>af .i64 ((j.add (((IntKind.wrap .i64 (e+g))).toNat*3)).add 1) w.drew λm=>af .i64 ((j.add (((IntKind.wrap .i64 (e+g))).toNat*3)).add 2) w.drew λn=>aK (IntKind.wrap .i64 (e+i)) b<|wA a λo=>af .i64 ((o.add (((IntKind.wrap .i64 (e+i))).toNat*3)).add 0) w.drew λp=>af .i64 ((o.add (((IntKind.wrap .i64 (e+i))).toNat*3)).add 1) w.drew λq=>af .i64 ((o.add (((IntKind.wrap .i64 (e+i))).toNat*3)).add 2) w.drew λr=>iv (cx 82) f [.agg #[ae l,ae m,ae n],.agg #[ae p,ae q,ae r]] w.drew λs w=>dI .i64 s λt=>cond (!(decide (t<0))) (Q w) (aK (IntKind.wrap .i64 (e+i)) b<|wA a λu=>af .i64 ((u.add (((IntKind.wrap .i64 (e+i))).toNat*3)).add 0) w.drew λv=>af .i64 ((u.add (((IntKind.wrap .i64 (e+i))).toNat*3)).add 1) w.drew λx=>af .i64 ((u.add (((IntKind.wrap .i64 (e+i))).toNat*3)).add 2) w.drew λy=>aK (IntKind.wrap .i64 (e+g)) b<|wA a λz=>af .i64 ((z.add (((IntKind.wrap .i64 (e+g))).toNat*3)).add 0) w.drew λa1=>af .i64 ((z.add (((IntKind.wrap .i64 (e+g))).toNat*3)).add 1) w.drew λb1=>af .i64 ((z.add (((IntKind.wrap .i64 (e+g))).toNat*3)).add 2) w.drew λc1=>aK (IntKind.wrap .i64 (e+g)) b<|wA a λd1=>St ((d1.add (((IntKind.wrap .i64 (e+g))).toNat*3)).add 0) (ae v) w.drew λw=>St ((d1.add (((IntKind.wrap .i64 (e+g))).toNat*3)).add 1) (ae x) w λw=>St ((d1.add (((IntKind.wrap .i64 (e+g))).toNat*3)).add 2) (ae y) w λw=>aK (IntKind.wrap .i64 (e+i)) b<|wA a λe1=>St ((e1.add (((IntKind.wrap .i64 (e+i))).toNat*3)).add 0) (ae a1) w λw=>St ((e1.add (((IntKind.wrap .i64 (e+i))).toNat*3)).add 1) (ae b1) w λw=>St ((e1.add (((IntKind.wrap .i64 (e+i))).toNat*3)).add 2) (ae c1) w λw=>P1 a b c d e f i w)
def gR (Q:WP)(R1:L3 (Int->Int->Value->Int->WP))(a:OA)(b c:Nat)(d e:Int)(f:Value)(g:Int)(w:World):Prop:=cond (decide ((IntKind.wrap .i64 ((IntKind.wrap .i64 (2*g))+1))≥d)) (Q w) (cond (decide ((IntKind.wrap .i64 ((IntKind.wrap .i64 ((IntKind.wrap .i64 (2*g))+1))+1))<d)) (aK (IntKind.wrap .i64 (e+(IntKind.wrap .i64 ((IntKind.wrap .i64 (2*g))+1)))) b<|wA a λi=>af .i64 ((i.add (((IntKind.wrap .i64 (e+(IntKind.wrap .i64 ((IntKind.wrap .i64 (2*g))+1))))).toNat*3)).add 0) w.drew λj=>af .i64 ((i.add (((IntKind.wrap .i64 (e+(IntKind.wrap .i64 ((IntKind.wrap .i64 (2*g))+1))))).toNat*3)).add 1) w.drew λl=>af .i64 ((i.add (((IntKind.wrap .i64 (e+(IntKind.wrap .i64 ((IntKind.wrap .i64 (2*g))+1))))).toNat*3)).add 2) w.drew λm=>aK (IntKind.wrap .i64 ((IntKind.wrap .i64 (e+(IntKind.wrap .i64 ((IntKind.wrap .i64 (2*g))+1))))+1)) b<|wA a λn=>af .i64 ((n.add (((IntKind.wrap .i64 ((IntKind.wrap .i64 (e+(IntKind.wrap .i64 ((IntKind.wrap .i64 (2*g))+1))))+1))).toNat*3)).add 0) w.drew λo=>af .i64 ((n.add (((IntKind.wrap .i64 ((IntKind.wrap .i64 (e+(IntKind.wrap .i64 ((IntKind.wrap .i64 (2*g))+1))))+1))).toNat*3)).add 1) w.drew λp=>af .i64 ((n.add (((IntKind.wrap .i64 ((IntKind.wrap .i64 (e+(IntKind.wrap .i64 ((IntKind.wrap .i64 (2*g))+1))))+1))).toNat*3)).add 2) w.drew λq=>iv (cx 82) f [.agg #[ae j,ae l,ae m],.agg #[ae o,ae p,ae q]] w.drew λr w=>dI .i64 r λs=>cond (decide (s<0)) (fI R1 Q a b c d e f g (IntKind.wrap .i64 ((IntKind.wrap .i64 ((IntKind.wrap .i64 (2*g))+1))+1)) w) (fI R1 Q a b c d e f g (IntKind.wrap .i64 ((IntKind.wrap .i64 (2*g))+1)) w)) (fI R1 Q a b c d e f g (IntKind.wrap .i64 ((IntKind.wrap .i64 (2*g))+1)) w.drew))
def eU (Q:WP):Nat->L3 (Int->Int->Value->Int->WP)
 |0,_,_,_,_,_,_,_,_=>False
 |k+1,a,b,c,d,e,f,g,w=>gR Q (eU Q k) a b c d e f g w
noncomputable def l8:cv:=[(3,sp 0 19 (.op 19 (sp 20 2 .done))),(5,sp 0 13 (.op 13 (sp 14 2 .done))),(6,sp 0 21 (.op 21 (.op 22 (.op 23 .done))))]
def CQ {P1}(Q)(H1:Bk 82 Tryz.f265 (jv Q) 1 [(0,.l),(2,.i .i64),(3,.i .i64),(4,.v),(10,.i .i64)] P1):Bk 82 Tryz.f265 (jv Q) 5 [(0,.l),(2,.i .i64),(3,.i .i64),(4,.v),(10,.i .i64),(11,.i .i64)] (fI P1 Q):=aT (ok 82) l8 [aM H1]
def CR (Q):∀k,Bk 82 Tryz.f265 (jv Q) 1 [(0,.l),(2,.i .i64),(3,.i .i64),(4,.v),(10,.i .i64)] (eU Q k):=bM λk h=>aT (ok 82) l8 [aM (CQ Q h)]
def Bw:=λa b c d e f g w Q=>bB (iY a b c d e f g w Q) (∃k',eU Q k' a b c e f g d w) (ok 82) l8 [cu (CR Q)] Tryz.func265
def gS (Q:WP)(R8:L3 (Value->Int->Int->Int->WP))(a:OA)(b c:Nat)(d:Value)(e f g:Int)(w:World):Prop:=cond (decide (g≥0)) (aK (IntKind.wrap .i64 (e+g)) b<|wA a λi=>af .i64 ((i.add (((IntKind.wrap .i64 (e+g))).toNat*3)).add 0) w.drew λj=>af .i64 ((i.add (((IntKind.wrap .i64 (e+g))).toNat*3)).add 1) w.drew λl=>af .i64 ((i.add (((IntKind.wrap .i64 (e+g))).toNat*3)).add 2) w.drew λm=>aK e b<|wA a λn=>af .i64 ((n.add (e.toNat*3)).add 0) w.drew λo=>af .i64 ((n.add (e.toNat*3)).add 1) w.drew λp=>af .i64 ((n.add (e.toNat*3)).add 2) w.drew λq=>aK e b<|wA a λr=>St ((r.add (e.toNat*3)).add 0) (ae j) w.drew λw=>St ((r.add (e.toNat*3)).add 1) (ae l) w λw=>St ((r.add (e.toNat*3)).add 2) (ae m) w λw=>aK (IntKind.wrap .i64 (e+g)) b<|wA a λs=>St ((s.add (((IntKind.wrap .i64 (e+g))).toNat*3)).add 0) (ae o) w λw=>St ((s.add (((IntKind.wrap .i64 (e+g))).toNat*3)).add 1) (ae p) w λw=>St ((s.add (((IntKind.wrap .i64 (e+g))).toNat*3)).add 2) (ae q) w λw=>iY a b c f g e d w λw=>R8 a b c d e f (IntKind.wrap .i64 (g-1)) w) (Q w)
def fJ (Q:WP):Nat->L3 (Value->Int->Int->Int->WP)
 |0,_,_,_,_,_,_,_,_=>False
 |k+1,a,b,c,d,e,f,g,w=>gS Q (fJ Q k) a b c d e f g w
def gT (Q:WP)(R4:L3 (Value->Int->Int->Int->Int->WP))(a:OA)(b c:Nat)(d:Value)(e f g i:Int)(w:World):Prop:=cond (decide (i≥0)) (iY a b c i g e d w λw=>R4 a b c d e f g (IntKind.wrap .i64 (i-1)) w) (∃k',fJ Q k' a b c d e f (IntKind.wrap .i64 (g-1)) w)
def fK (Q:WP):Nat->L3 (Value->Int->Int->Int->Int->WP)
 |0,_,_,_,_,_,_,_,_,_=>False
 |k+1,a,b,c,d,e,f,g,i,w=>gT Q (fK Q k) a b c d e f g i w
noncomputable def l9:cv:=[(10,sp 0 17 (.op 17 (.op 18 (.op 19 .done))))]
def CS (Q):∀k,Bk 60 Tryz.f244 (mN Q) 8 [(0,.l),(3,.v),(8,.i .i64),(9,.i .i64),(12,.i .i64)] (fJ Q k):=bM λk h=>aT (ok 60) l9 [aM h]
def CT (Q):∀k,Bk 60 Tryz.f244 (mN Q) 4 [(0,.l),(3,.v),(8,.i .i64),(9,.i .i64),(10,.i .i64),(11,.i .i64)] (fK Q k):=bM λk h=>aT (ok 60) l9 [aM h,cu (CS Q)]
def By:=λa b c d e f w Q=>bB (lQ a b c d e f w Q) (NZ 2<|∃k',fK Q k' a b c f d 0 (IntKind.wrap .i64 (e-d)) (IntKind.wrap .i64 (Int.tdiv (IntKind.wrap .i64 ((IntKind.wrap .i64 (e-d))-1)) 2)) w) (ok 60) l9 [cu (CT Q)] Tryz.func244
def uo (Q:Int->WP)(a b:Int)(w:World):Prop:=aK (IntKind.wrap .u8 a) (ByteArray.mk ((#[0,1,2,2,3,3,3,3,4,4,4,4,4,4,4,4,5,5,5,5,5,5,5,5,5,5,5,5,5,5,5,5,6,6,6,6,6,6,6,6,6,6,6,6,6,6,6,6,6,6,6,6,6,6,6,6,6,6,6,6,6,6,6,6]++#[7,7,7,7,7,7,7,7,7,7,7,7,7,7,7,7,7,7,7,7,7,7,7,7,7,7,7,7,7,7,7,7,7,7,7,7,7,7,7,7,7,7,7,7,7,7,7,7,7,7,7,7,7,7,7,7,7,7,7,7,7,7,7,7])++(#[8,8,8,8,8,8,8,8,8,8,8,8,8,8,8,8,8,8,8,8,8,8,8,8,8,8,8,8,8,8,8,8,8,8,8,8,8,8,8,8,8,8,8,8,8,8,8,8,8,8,8,8,8,8,8,8,8,8,8,8,8,8,8,8]++#[8,8,8,8,8,8,8,8,8,8,8,8,8,8,8,8,8,8,8,8,8,8,8,8,8,8,8,8,8,8,8,8,8,8,8,8,8,8,8,8,8,8,8,8,8,8,8,8,8,8,8,8,8,8,8,8,8,8,8,8,8,8,8,8]))).size<|Q (IntKind.wrap .i64 (b+(IntKind.wrap .i64 (sb (ByteArray.mk ((#[0,1,2,2,3,3,3,3,4,4,4,4,4,4,4,4,5,5,5,5,5,5,5,5,5,5,5,5,5,5,5,5,6,6,6,6,6,6,6,6,6,6,6,6,6,6,6,6,6,6,6,6,6,6,6,6,6,6,6,6,6,6,6,6]++#[7,7,7,7,7,7,7,7,7,7,7,7,7,7,7,7,7,7,7,7,7,7,7,7,7,7,7,7,7,7,7,7,7,7,7,7,7,7,7,7,7,7,7,7,7,7,7,7,7,7,7,7,7,7,7,7,7,7,7,7,7,7,7,7])++(#[8,8,8,8,8,8,8,8,8,8,8,8,8,8,8,8,8,8,8,8,8,8,8,8,8,8,8,8,8,8,8,8,8,8,8,8,8,8,8,8,8,8,8,8,8,8,8,8,8,8,8,8,8,8,8,8,8,8,8,8,8,8,8,8]++#[8,8,8,8,8,8,8,8,8,8,8,8,8,8,8,8,8,8,8,8,8,8,8,8,8,8,8,8,8,8,8,8,8,8,8,8,8,8,8,8,8,8,8,8,8,8,8,8,8,8,8,8,8,8,8,8,8,8,8,8,8,8,8,8]))) (((IntKind.wrap .u8 a)).toNat))))) w
def vK (Q:Int->WP)(a b:Int)(w:World):Prop:=cond (decide (a≥256)) (DT 8<|uo Q (o6 .u64 a 8) (IntKind.wrap .i64 (b+8)) w) (uo Q a b w)
def vL (Q:Int->WP)(a b:Int)(w:World):Prop:=cond (decide (a≥65536)) (DT 16<|vK Q (o6 .u64 a 16) (IntKind.wrap .i64 (b+16)) w) (vK Q a b w)
def RU (Q):Bk 25 Tryz.f252 (vG Q) 10 [(0,.i .u64),(2,.i .i64)] (uo Q):=aT (ok 25) [] []
def Ua (Q):Bk 25 Tryz.f252 (vG Q) 7 [(0,.i .u64),(2,.i .i64)] (vK Q):=aT (ok 25) [] [aM (RU Q)]
def Ub (Q):Bk 25 Tryz.f252 (vG Q) 4 [(0,.i .u64),(2,.i .i64)] (vL Q):=aT (ok 25) [] [aM (Ua Q)]
def PZ:=λa w Q=>bB (Fq a w Q) (cond (decide (a≥4294967296)) (DT 32<|vL Q (o6 .u64 a 32) 32 w) (vL Q a 0 w)) (ok 25) [] [aM (Ub Q)] Tryz.func252
def Uc:=λa w Q=>bB (vF a w Q) (Fq a w λb w=>Q b w) (ok 8) [] [] Tryz.func224
def IY:=λa w Q=>bB (zK a w Q) (vF (IntKind.wrap .u64 a) w λb w=>DT b<|Q (BD .u64 1 b) w) (ok 7) [] [] Tryz.func266
noncomputable def Kg:cv:=[(1,sp 0 9 (.op 9 .done)),(2,sp 0 9 (.op 9 .done)),(3,sp 0 9 (.op 9 .done))]
def JF:=λa w Q=>bB (sS a w Q) (wA a λb=>af .u64 b w.drew λc=>wA a λd=>af .u64 d w.drew λe=>DT 13<|wA a λf=>St f (.int .u64 (agN .u64 c (BD .u64 e 13))) w.drew λw=>wA a λg=>af .u64 g w.drew λi=>wA a λj=>af .u64 j w.drew λl=>DT 7<|wA a λm=>St m (.int .u64 (agN .u64 i (o6 .u64 l 7))) w.drew λw=>wA a λn=>af .u64 n w.drew λo=>wA a λp=>af .u64 p w.drew λq=>DT 17<|wA a λr=>St r (.int .u64 (agN .u64 o (BD .u64 q 17))) w.drew λw=>wA a λs=>af .u64 s w λt=>Q t w) (ok 33) Kg [] Tryz.func267
def fF (P5:L3 (Int->Int->Addr->Int->Int->WP))(Q:WP)(a:OA)(b c:Nat)(d e:Int)(f:Addr)(g i j:Int)(w:World):Prop:=aK (IntKind.wrap .i64 (d+j)) b<|wA a λl=>af .i64 ((l.add (((IntKind.wrap .i64 (d+j))).toNat*3)).add 0) w.drew λm=>af .i64 ((l.add (((IntKind.wrap .i64 (d+j))).toNat*3)).add 1) w.drew λn=>af .i64 ((l.add (((IntKind.wrap .i64 (d+j))).toNat*3)).add 2) w.drew λo=>aK i b<|wA a λp=>af .i64 ((p.add (i.toNat*3)).add 0) w.drew λq=>af .i64 ((p.add (i.toNat*3)).add 1) w.drew λr=>af .i64 ((p.add (i.toNat*3)).add 2) w.drew λs=>aK i b<|wA a λt=>St ((t.add (i.toNat*3)).add 0) (ae m) w.drew λw=>St ((t.add (i.toNat*3)).add 1) (ae n) w λw=>St ((t.add (i.toNat*3)).add 2) (ae o) w λw=>aK (IntKind.wrap .i64 (d+j)) b<|wA a λu=>St ((u.add (((IntKind.wrap .i64 (d+j))).toNat*3)).add 0) (ae q) w λw=>St ((u.add (((IntKind.wrap .i64 (d+j))).toNat*3)).add 1) (ae r) w λw=>St ((u.add (((IntKind.wrap .i64 (d+j))).toNat*3)).add 2) (ae s) w λw=>P5 a b c d e f g (IntKind.wrap .i64 (i+1)) w
def kF (Q:WP)(R5:L3 (Int->Int->Addr->Int->Int->WP))(a:OA)(b c:Nat)(d e:Int)(f:Addr)(g i:Int)(w:World):Prop:=NZ 4<|cond (decide (i<=(IntKind.wrap .i64 ((IntKind.wrap .i64 (d+(IntKind.wrap .i64 ((IntKind.wrap .i64 (Int.tdiv e 4))*2))))+1)))) (sS (some f) w λj w=>cond (decide ((IntKind.wrap .i64 (BC .u64 j (IntKind.wrap .u64 (g-1))))≥e)) (fF R5 Q a b c d e f g i (IntKind.wrap .i64 ((IntKind.wrap .i64 (BC .u64 j (IntKind.wrap .u64 (g-1))))-e)) w) (fF R5 Q a b c d e f g i (IntKind.wrap .i64 (BC .u64 j (IntKind.wrap .u64 (g-1)))) w)) (Q w)
def dN (Q:WP):Nat->L3 (Int->Int->Addr->Int->Int->WP)
 |0,_,_,_,_,_,_,_,_,_=>False
 |k+1,a,b,c,d,e,f,g,i,w=>kF Q (dN Q k) a b c d e f g i w
noncomputable def j7:cv:=[(10,sp 0 17 (.op 17 (.op 18 (.op 19 .done))))]
def zF {P5}(Q)(H5:Bk 67 Tryz.f245 (iz Q) 5 [(0,.l),(1,.i .i64),(8,.i .i64),(9,.a),(10,.i .u64),(11,.i .i64)] P5):Bk 67 Tryz.f245 (iz Q) 10 [(0,.l),(1,.i .i64),(8,.i .i64),(9,.a),(10,.i .u64),(11,.i .i64),(12,.i .i64)] (fF P5 Q):=aT (ok 67) j7 [aM H5]
def Ac (Q):∀k,Bk 67 Tryz.f245 (iz Q) 5 [(0,.l),(1,.i .i64),(8,.i .i64),(9,.a),(10,.i .u64),(11,.i .i64)] (dN Q k):=bM λk h=>aT (ok 67) j7 [aM (zF Q h)]
def zg:=λa b c d e f w Q=>bB (jL a b c d e f w Q) (cond (decide ((IntKind.wrap .i64 (e-d))≥8)) (Al T 390 w λg w=>St g (.int .u64 (IntKind.wrap .u64 (IntKind.wrap .i64 (e-d)))) w λw=>zK (IntKind.wrap .i64 (e-d)) w λi w=>NZ 4<|∃k',dN Q k' a b c d (IntKind.wrap .i64 (e-d)) g i (IntKind.wrap .i64 ((IntKind.wrap .i64 (d+(IntKind.wrap .i64 ((IntKind.wrap .i64 (Int.tdiv (IntKind.wrap .i64 (e-d)) 4))*2))))-1)) w) (Q w)) (ok 67) j7 [cu (Ac Q)] Tryz.func245
noncomputable def DF:cv:=[(1,sp 0 9 (.op 9 (.op 10 .done)))]
def CU:=λa b c d e f g w Q=>bB (gQ a b c d e f g w Q) (aK e b<|wA a λi=>af .i64 ((i.add (e.toNat*3)).add 0) w.drew λj=>af .i64 ((i.add (e.toNat*3)).add 1) w.drew λl=>af .i64 ((i.add (e.toNat*3)).add 2) w.drew λm=>aK d b<|wA a λn=>af .i64 ((n.add (d.toNat*3)).add 0) w.drew λo=>af .i64 ((n.add (d.toNat*3)).add 1) w.drew λp=>af .i64 ((n.add (d.toNat*3)).add 2) w.drew λq=>iv (cx 32) g [.agg #[ae j,ae l,ae m],.agg #[ae o,ae p,ae q]] w.drew λr w=>dI .i64 r λs=>cond (decide (s<0)) (wA f λt=>af .i64 t w λu=>wA f λv=>St v (ae (IntKind.wrap .i64 (u+1))) w λw=>Q e d w) (Q d e w)) (ok 32) DF [] Tryz.func278
def CV:=λa b c d e f g i w Q=>bB (jw a b c d e f g i w Q) (gQ a b c d e g i w λj l w=>gQ a b c l f g i w λm n w=>gQ a b c j m g i w λo p w=>Q p w) (ok 41) [] [] Tryz.func269
def yd:=λa b c d e f w Q=>bB (fk a b c d e f w Q) (jw a b c (IntKind.wrap .i64 (d-1)) d (IntKind.wrap .i64 (d+1)) e f w λg w=>Q g w) (ok 18) [] [] Tryz.func268
def iI (Q:Int->Int->WP)(a:Addr)(b:Int)(w:World):Prop:=af .i64 a w λc=>cond (c==0) (Q b 1 w) (cond (c==12) (Q b 2 w) (Q b 0 w))
def iJ (Q:Int->Int->WP)(a:OA)(b c:Nat)(d:Value)(e:Addr)(f g i:Int)(w:World):Prop:=jw a b c f g i (some e) d w λj w=>iI Q e j w
def p8 (Q):Bk 63 Tryz.f246 (lA Q) 12 [(11,.a),(13,.i .i64)] (iI Q):=aT (ok 63) [] []
def AI (Q):Bk 63 Tryz.f246 (lA Q) 11 [(0,.l),(3,.v),(11,.a),(12,.i .i64),(13,.i .i64),(14,.i .i64)] (iJ Q):=aT (ok 63) [] [aM (p8 Q)]
def Ad:=λa b c d e f w Q=>bB (kE a b c d e f w Q) (Al T 3 w λg w=>NZ 4<|NZ 4<|NZ 4<|cond (decide ((IntKind.wrap .i64 (e-d))≥8)) (cond (decide ((IntKind.wrap .i64 (e-d))≥50)) (fk a b c (IntKind.wrap .i64 (d+(IntKind.wrap .i64 ((IntKind.wrap .i64 (Int.tdiv (IntKind.wrap .i64 (e-d)) 4))*1)))) (some g) f w λi w=>fk a b c (IntKind.wrap .i64 (d+(IntKind.wrap .i64 ((IntKind.wrap .i64 (Int.tdiv (IntKind.wrap .i64 (e-d)) 4))*2)))) (some g) f w λj w=>fk a b c (IntKind.wrap .i64 (d+(IntKind.wrap .i64 ((IntKind.wrap .i64 (Int.tdiv (IntKind.wrap .i64 (e-d)) 4))*3)))) (some g) f w λl w=>iJ Q a b c f g i j l w) (iJ Q a b c f g (IntKind.wrap .i64 (d+(IntKind.wrap .i64 ((IntKind.wrap .i64 (Int.tdiv (IntKind.wrap .i64 (e-d)) 4))*1)))) (IntKind.wrap .i64 (d+(IntKind.wrap .i64 ((IntKind.wrap .i64 (Int.tdiv (IntKind.wrap .i64 (e-d)) 4))*2)))) (IntKind.wrap .i64 (d+(IntKind.wrap .i64 ((IntKind.wrap .i64 (Int.tdiv (IntKind.wrap .i64 (e-d)) 4))*3)))) w)) (iI Q g (IntKind.wrap .i64 (d+(IntKind.wrap .i64 ((IntKind.wrap .i64 (Int.tdiv (IntKind.wrap .i64 (e-d)) 4))*2)))) w)) (ok 63) [] [aM (AI Q),aM (p8 Q)] Tryz.func246
def fW (Q:WP)(R2:L3 (Int->Int->WP))(a:OA)(b c:Nat)(d e:Int)(w:World):Prop:=cond (decide (d<e)) (aK e b<|wA a λf=>af .i64 ((f.add (e.toNat*3)).add 0) w.drew λg=>af .i64 ((f.add (e.toNat*3)).add 1) w.drew λi=>af .i64 ((f.add (e.toNat*3)).add 2) w.drew λj=>aK d b<|wA a λl=>af .i64 ((l.add (d.toNat*3)).add 0) w.drew λm=>af .i64 ((l.add (d.toNat*3)).add 1) w.drew λn=>af .i64 ((l.add (d.toNat*3)).add 2) w.drew λo=>aK d b<|wA a λp=>St ((p.add (d.toNat*3)).add 0) (ae g) w.drew λw=>St ((p.add (d.toNat*3)).add 1) (ae i) w λw=>St ((p.add (d.toNat*3)).add 2) (ae j) w λw=>aK e b<|wA a λq=>St ((q.add (e.toNat*3)).add 0) (ae m) w λw=>St ((q.add (e.toNat*3)).add 1) (ae n) w λw=>St ((q.add (e.toNat*3)).add 2) (ae o) w λw=>R2 a b c (IntKind.wrap .i64 (d+1)) (IntKind.wrap .i64 (e-1)) w) (Q w)
def eX (Q:WP):Nat->L3 (Int->Int->WP)
 |0,_,_,_,_,_,_=>False
 |k+1,a,b,c,d,e,w=>fW Q (eX Q k) a b c d e w
noncomputable def pE:cv:=[(3,sp 0 13 (.op 13 (.op 14 (.op 15 .done))))]
def AJ (Q):∀k,Bk 34 Tryz.f247 (pX Q) 2 [(0,.l),(8,.i .i64),(9,.i .i64)] (eX Q k):=bM λk h=>aT (ok 34) pE [aM h]
def zG:=λa b c d e f w Q=>bB (jZ a b c d e f w Q) (∃k',eX Q k' a b c d (IntKind.wrap .i64 (e-1)) w) (ok 34) pE [cu (AJ Q)] Tryz.func247
def eE (P3:L3 (Int->Int->Value->Int->Int->WP))(Q:Bool->WP)(R20:L3 (Int->Int->Value->Int->Int->Int->WP))(a:OA)(b c:Nat)(d e:Int)(f:Value)(g i j:Int)(w:World):Prop:=cond (decide (j<e)) (aK j b<|wA a λl=>af .i64 ((l.add (j.toNat*3)).add 0) w.drew λm=>af .i64 ((l.add (j.toNat*3)).add 1) w.drew λn=>af .i64 ((l.add (j.toNat*3)).add 2) w.drew λo=>aK (IntKind.wrap .i64 (j-1)) b<|wA a λp=>af .i64 ((p.add (((IntKind.wrap .i64 (j-1))).toNat*3)).add 0) w.drew λq=>af .i64 ((p.add (((IntKind.wrap .i64 (j-1))).toNat*3)).add 1) w.drew λr=>af .i64 ((p.add (((IntKind.wrap .i64 (j-1))).toNat*3)).add 2) w.drew λs=>iv (cx 141) f [.agg #[ae m,ae n,ae o],.agg #[ae q,ae r,ae s]] w.drew λt w=>dI .i64 t λu=>cond (!(decide (u<0))) (P3 a b c d e f g (IntKind.wrap .i64 (i+1)) w) (aK (IntKind.wrap .i64 (j-1)) b<|wA a λv=>af .i64 ((v.add (((IntKind.wrap .i64 (j-1))).toNat*3)).add 0) w.drew λx=>af .i64 ((v.add (((IntKind.wrap .i64 (j-1))).toNat*3)).add 1) w.drew λy=>af .i64 ((v.add (((IntKind.wrap .i64 (j-1))).toNat*3)).add 2) w.drew λz=>aK j b<|wA a λa1=>af .i64 ((a1.add (j.toNat*3)).add 0) w.drew λb1=>af .i64 ((a1.add (j.toNat*3)).add 1) w.drew λc1=>af .i64 ((a1.add (j.toNat*3)).add 2) w.drew λd1=>aK j b<|wA a λe1=>St ((e1.add (j.toNat*3)).add 0) (ae x) w.drew λw=>St ((e1.add (j.toNat*3)).add 1) (ae y) w λw=>St ((e1.add (j.toNat*3)).add 2) (ae z) w λw=>aK (IntKind.wrap .i64 (j-1)) b<|wA a λf1=>St ((f1.add (((IntKind.wrap .i64 (j-1))).toNat*3)).add 0) (ae b1) w λw=>St ((f1.add (((IntKind.wrap .i64 (j-1))).toNat*3)).add 1) (ae c1) w λw=>St ((f1.add (((IntKind.wrap .i64 (j-1))).toNat*3)).add 2) (ae d1) w λw=>R20 a b c d e f g i (IntKind.wrap .i64 (j+1)) w)) (P3 a b c d e f g (IntKind.wrap .i64 (i+1)) w)
def cV (P3:L3 (Int->Int->Value->Int->Int->WP))(Q:Bool->WP):Nat->L3 (Int->Int->Value->Int->Int->Int->WP)
 |0,_,_,_,_,_,_,_,_,_,_=>False
 |k+1,a,b,c,d,e,f,g,i,j,w=>eE P3 Q (cV P3 Q k) a b c d e f g i j w
def cW (P3:L3 (Int->Int->Value->Int->Int->WP))(Q:Bool->WP)(a:OA)(b c:Nat)(d e:Int)(f:Value)(g i:Int)(w:World):Prop:=cond (decide ((IntKind.wrap .i64 (e-g))≥2)) (∃k',cV P3 Q k' a b c d e f g i (IntKind.wrap .i64 (g+1)) w) (P3 a b c d e f g (IntKind.wrap .i64 (i+1)) w)
def eF (P3:L3 (Int->Int->Value->Int->Int->WP))(Q:Bool->WP)(Yf:L3 (Int->Int->Value->Int->Int->Int->WP))(a:OA)(b c:Nat)(d e:Int)(f:Value)(g i j:Int)(w:World):Prop:=cond (decide (j≥1)) (aK j b<|wA a λl=>af .i64 ((l.add (j.toNat*3)).add 0) w.drew λm=>af .i64 ((l.add (j.toNat*3)).add 1) w.drew λn=>af .i64 ((l.add (j.toNat*3)).add 2) w.drew λo=>aK (IntKind.wrap .i64 (j-1)) b<|wA a λp=>af .i64 ((p.add (((IntKind.wrap .i64 (j-1))).toNat*3)).add 0) w.drew λq=>af .i64 ((p.add (((IntKind.wrap .i64 (j-1))).toNat*3)).add 1) w.drew λr=>af .i64 ((p.add (((IntKind.wrap .i64 (j-1))).toNat*3)).add 2) w.drew λs=>iv (cx 141) f [.agg #[ae m,ae n,ae o],.agg #[ae q,ae r,ae s]] w.drew λt w=>dI .i64 t λu=>cond (!(decide (u<0))) (cW P3 Q a b c d e f g i w) (aK (IntKind.wrap .i64 (j-1)) b<|wA a λv=>af .i64 ((v.add (((IntKind.wrap .i64 (j-1))).toNat*3)).add 0) w.drew λx=>af .i64 ((v.add (((IntKind.wrap .i64 (j-1))).toNat*3)).add 1) w.drew λy=>af .i64 ((v.add (((IntKind.wrap .i64 (j-1))).toNat*3)).add 2) w.drew λz=>aK j b<|wA a λa1=>af .i64 ((a1.add (j.toNat*3)).add 0) w.drew λb1=>af .i64 ((a1.add (j.toNat*3)).add 1) w.drew λc1=>af .i64 ((a1.add (j.toNat*3)).add 2) w.drew λd1=>aK j b<|wA a λe1=>St ((e1.add (j.toNat*3)).add 0) (ae x) w.drew λw=>St ((e1.add (j.toNat*3)).add 1) (ae y) w λw=>St ((e1.add (j.toNat*3)).add 2) (ae z) w λw=>aK (IntKind.wrap .i64 (j-1)) b<|wA a λf1=>St ((f1.add (((IntKind.wrap .i64 (j-1))).toNat*3)).add 0) (ae b1) w λw=>St ((f1.add (((IntKind.wrap .i64 (j-1))).toNat*3)).add 1) (ae c1) w λw=>St ((f1.add (((IntKind.wrap .i64 (j-1))).toNat*3)).add 2) (ae d1) w λw=>Yf a b c d e f g i (IntKind.wrap .i64 (j-1)) w)) (cW P3 Q a b c d e f g i w)
def cY (P3:L3 (Int->Int->Value->Int->Int->WP))(Q:Bool->WP):Nat->L3 (Int->Int->Value->Int->Int->Int->WP)
 |0,_,_,_,_,_,_,_,_,_,_=>False
 |k+1,a,b,c,d,e,f,g,i,j,w=>eF P3 Q (cY P3 Q k) a b c d e f g i j w
def eK (P3:L3 (Int->Int->Value->Int->Int->WP))(Q:Bool->WP)(a:OA)(b c:Nat)(d e:Int)(f:Value)(g i:Int)(w:World):Prop:=cond (g==e) (Q true w) (cond (decide ((IntKind.wrap .i64 (e-d))<50)) (Q false w) (aK (IntKind.wrap .i64 (g-1)) b<|wA a λj=>af .i64 ((j.add (((IntKind.wrap .i64 (g-1))).toNat*3)).add 0) w.drew λl=>af .i64 ((j.add (((IntKind.wrap .i64 (g-1))).toNat*3)).add 1) w.drew λm=>af .i64 ((j.add (((IntKind.wrap .i64 (g-1))).toNat*3)).add 2) w.drew λn=>aK g b<|wA a λo=>af .i64 ((o.add (g.toNat*3)).add 0) w.drew λp=>af .i64 ((o.add (g.toNat*3)).add 1) w.drew λq=>af .i64 ((o.add (g.toNat*3)).add 2) w.drew λr=>aK g b<|wA a λs=>St ((s.add (g.toNat*3)).add 0) (ae l) w.drew λw=>St ((s.add (g.toNat*3)).add 1) (ae m) w λw=>St ((s.add (g.toNat*3)).add 2) (ae n) w λw=>aK (IntKind.wrap .i64 (g-1)) b<|wA a λt=>St ((t.add (((IntKind.wrap .i64 (g-1))).toNat*3)).add 0) (ae p) w λw=>St ((t.add (((IntKind.wrap .i64 (g-1))).toNat*3)).add 1) (ae q) w λw=>St ((t.add (((IntKind.wrap .i64 (g-1))).toNat*3)).add 2) (ae r) w λw=>cond (decide ((IntKind.wrap .i64 (g-d))≥2)) (∃k',cY P3 Q k' a b c d e f g i (IntKind.wrap .i64 (g-1)) w) (cW P3 Q a b c d e f g i w)))
def eL (P3:L3 (Int->Int->Value->Int->Int->WP))(Q:Bool->WP)(R5:L3 (Int->Int->Value->Int->Int->WP))(a:OA)(b c:Nat)(d e:Int)(f:Value)(g i:Int)(w:World):Prop:=cond (decide (g<e)) (aK g b<|wA a λj=>af .i64 ((j.add (g.toNat*3)).add 0) w.drew λl=>af .i64 ((j.add (g.toNat*3)).add 1) w.drew λm=>af .i64 ((j.add (g.toNat*3)).add 2) w.drew λn=>aK (IntKind.wrap .i64 (g-1)) b<|wA a λo=>af .i64 ((o.add (((IntKind.wrap .i64 (g-1))).toNat*3)).add 0) w.drew λp=>af .i64 ((o.add (((IntKind.wrap .i64 (g-1))).toNat*3)).add 1) w.drew λq=>af .i64 ((o.add (((IntKind.wrap .i64 (g-1))).toNat*3)).add 2) w.drew λr=>iv (cx 141) f [.agg #[ae l,ae m,ae n],.agg #[ae p,ae q,ae r]] w.drew λs w=>dI .i64 s λt=>cond (!(decide (t<0))) (R5 a b c d e f (IntKind.wrap .i64 (g+1)) i w) (eK P3 Q a b c d e f g i w)) (eK P3 Q a b c d e f g i w.drew)
def dh (P3:L3 (Int->Int->Value->Int->Int->WP))(Q:Bool->WP):Nat->L3 (Int->Int->Value->Int->Int->WP)
 |0,_,_,_,_,_,_,_,_,_=>False
 |k+1,a,b,c,d,e,f,g,i,w=>eL P3 Q (dh P3 Q k) a b c d e f g i w
def eM (Q:Bool->WP)(R3:L3 (Int->Int->Value->Int->Int->WP))(a:OA)(b c:Nat)(d e:Int)(f:Value)(g i:Int)(w:World):Prop:=cond (decide (i<5)) (∃k',dh R3 Q k' a b c d e f g i w) (Q false w)
def bt (Q:Bool->WP):Nat->L3 (Int->Int->Value->Int->Int->WP)
 |0,_,_,_,_,_,_,_,_,_=>False
 |k+1,a,b,c,d,e,f,g,i,w=>eM Q (bt Q k) a b c d e f g i w
noncomputable def cz:cv:=[(5,sp 0 14 (.op 14 (sp 15 3 .done))),(11,sp 0 15 (.op 15 (.op 16 (.op 17 .done)))),(16,sp 0 10 (.op 10 (sp 11 2 .done))),(17,sp 0 15 (.op 15 (.op 16 (.op 17 .done)))),(22,sp 0 10 (.op 10 (sp 11 2 .done))),(23,sp 0 15 (.op 15 (.op 16 (.op 17 .done))))]
def u_ {P3}(Q)(H3:Bk 141 Tryz.f248 (bq Q) 3 [(0,.l),(1,.i .i64),(2,.i .i64),(3,.v),(9,.i .i64),(10,.i .i64)] P3):∀k,Bk 141 Tryz.f248 (bq Q) 20 [(0,.l),(1,.i .i64),(2,.i .i64),(3,.v),(9,.i .i64),(10,.i .i64),(12,.i .i64)] (cV P3 Q k):=bM λk h=>aT (ok 141) cz [aM H3,aM h]
def l_ {P3}(Q)(H3:Bk 141 Tryz.f248 (bq Q) 3 [(0,.l),(1,.i .i64),(2,.i .i64),(3,.v),(9,.i .i64),(10,.i .i64)] P3):Bk 141 Tryz.f248 (bq Q) 18 [(0,.l),(1,.i .i64),(2,.i .i64),(3,.v),(9,.i .i64),(10,.i .i64)] (cW P3 Q):=aT (ok 141) cz [aM H3,cu (u_ Q H3)]
def vg {P3}(Q)(H3:Bk 141 Tryz.f248 (bq Q) 3 [(0,.l),(1,.i .i64),(2,.i .i64),(3,.v),(9,.i .i64),(10,.i .i64)] P3):∀k,Bk 141 Tryz.f248 (bq Q) 14 [(0,.l),(1,.i .i64),(2,.i .i64),(3,.v),(9,.i .i64),(10,.i .i64),(11,.i .i64)] (cY P3 Q k):=bM λk h=>aT (ok 141) cz [aM h,aM (l_ Q H3)]
def vV {P3}(Q)(H3:Bk 141 Tryz.f248 (bq Q) 3 [(0,.l),(1,.i .i64),(2,.i .i64),(3,.v),(9,.i .i64),(10,.i .i64)] P3):Bk 141 Tryz.f248 (bq Q) 7 [(0,.l),(1,.i .i64),(2,.i .i64),(3,.v),(9,.i .i64),(10,.i .i64)] (eK P3 Q):=aT (ok 141) cz [cu (vg Q H3),aM (l_ Q H3)]
def vW {P3}(Q)(H3:Bk 141 Tryz.f248 (bq Q) 3 [(0,.l),(1,.i .i64),(2,.i .i64),(3,.v),(9,.i .i64),(10,.i .i64)] P3):∀k,Bk 141 Tryz.f248 (bq Q) 5 [(0,.l),(1,.i .i64),(2,.i .i64),(3,.v),(9,.i .i64),(10,.i .i64)] (dh P3 Q k):=bM λk h=>aT (ok 141) cz [aM h,aM (vV Q H3)]
def vX (Q):∀k,Bk 141 Tryz.f248 (bq Q) 3 [(0,.l),(1,.i .i64),(2,.i .i64),(3,.v),(9,.i .i64),(10,.i .i64)] (bt Q k):=bM λk h=>aT (ok 141) cz [cu (vW Q h)]
def uP:=λa b c d e f w Q=>bB (iG a b c d e f w Q) (∃k',bt Q k' a b c d e f (IntKind.wrap .i64 (d+1)) 0 w) (ok 141) cz [cu (vX Q)] Tryz.func248
def eI (P3:L3 (Int->Value->Int->Int->WP))(Q:Int->WP)(a:OA)(b c:Nat)(d:Int)(e:Value)(f g:Int)(w:World):Prop:=cond (decide (f>g)) (Q f w) (aK g b<|wA a λi=>af .i64 ((i.add (g.toNat*3)).add 0) w.drew λj=>af .i64 ((i.add (g.toNat*3)).add 1) w.drew λl=>af .i64 ((i.add (g.toNat*3)).add 2) w.drew λm=>aK f b<|wA a λn=>af .i64 ((n.add (f.toNat*3)).add 0) w.drew λo=>af .i64 ((n.add (f.toNat*3)).add 1) w.drew λp=>af .i64 ((n.add (f.toNat*3)).add 2) w.drew λq=>aK f b<|wA a λr=>St ((r.add (f.toNat*3)).add 0) (ae j) w.drew λw=>St ((r.add (f.toNat*3)).add 1) (ae l) w λw=>St ((r.add (f.toNat*3)).add 2) (ae m) w λw=>aK g b<|wA a λs=>St ((s.add (g.toNat*3)).add 0) (ae o) w λw=>St ((s.add (g.toNat*3)).add 1) (ae p) w λw=>St ((s.add (g.toNat*3)).add 2) (ae q) w λw=>P3 a b c d e (IntKind.wrap .i64 (f+1)) (IntKind.wrap .i64 (g-1)) w)
def dz (P3:L3 (Int->Value->Int->Int->WP))(Q:Int->WP)(R5:L3 (Int->Value->Int->Int->WP))(a:OA)(b c:Nat)(d:Int)(e:Value)(f g:Int)(w:World):Prop:=cond (decide (f<=g)) (aK d b<|wA a λi=>af .i64 ((i.add (d.toNat*3)).add 0) w.drew λj=>af .i64 ((i.add (d.toNat*3)).add 1) w.drew λl=>af .i64 ((i.add (d.toNat*3)).add 2) w.drew λm=>aK g b<|wA a λn=>af .i64 ((n.add (g.toNat*3)).add 0) w.drew λo=>af .i64 ((n.add (g.toNat*3)).add 1) w.drew λp=>af .i64 ((n.add (g.toNat*3)).add 2) w.drew λq=>iv (cx 90) e [.agg #[ae j,ae l,ae m],.agg #[ae o,ae p,ae q]] w.drew λr w=>dI .i64 r λs=>cond (decide (s<0)) (R5 a b c d e f (IntKind.wrap .i64 (g-1)) w) (eI P3 Q a b c d e f g w)) (eI P3 Q a b c d e f g w.drew)
def cL (P3:L3 (Int->Value->Int->Int->WP))(Q:Int->WP):Nat->L3 (Int->Value->Int->Int->WP)
 |0,_,_,_,_,_,_,_,_=>False
 |k+1,a,b,c,d,e,f,g,w=>dz P3 Q (cL P3 Q k) a b c d e f g w
def fG (Q:Int->WP)(R3:L3 (Int->Value->Int->Int->WP))(a:OA)(b c:Nat)(d:Int)(e:Value)(f g:Int)(w:World):Prop:=cond (decide (f<=g)) (aK d b<|wA a λi=>af .i64 ((i.add (d.toNat*3)).add 0) w.drew λj=>af .i64 ((i.add (d.toNat*3)).add 1) w.drew λl=>af .i64 ((i.add (d.toNat*3)).add 2) w.drew λm=>aK f b<|wA a λn=>af .i64 ((n.add (f.toNat*3)).add 0) w.drew λo=>af .i64 ((n.add (f.toNat*3)).add 1) w.drew λp=>af .i64 ((n.add (f.toNat*3)).add 2) w.drew λq=>iv (cx 90) e [.agg #[ae j,ae l,ae m],.agg #[ae o,ae p,ae q]] w.drew λr w=>dI .i64 r λs=>cond (!(decide (s<0))) (R3 a b c d e (IntKind.wrap .i64 (f+1)) g w) (∃k',cL R3 Q k' a b c d e f g w)) (∃k',cL R3 Q k' a b c d e f g w.drew)
def cM (Q:Int->WP):Nat->L3 (Int->Value->Int->Int->WP)
 |0,_,_,_,_,_,_,_,_=>False
 |k+1,a,b,c,d,e,f,g,w=>fG Q (cM Q k) a b c d e f g w
noncomputable def gU:cv:=[(1,sp 0 13 (.op 13 (.op 14 (.op 15 .done)))),(3,sp 0 13 (.op 13 (sp 14 3 .done))),(5,sp 0 13 (.op 13 (sp 14 2 .done))),(8,sp 0 13 (.op 13 (.op 14 (.op 15 .done))))]
def zH {P3}(Q)(H3:Bk 90 Tryz.f249 (eG Q) 3 [(0,.l),(1,.i .i64),(4,.v),(11,.i .i64),(12,.i .i64)] P3):Bk 90 Tryz.f249 (eG Q) 7 [(0,.l),(1,.i .i64),(4,.v),(11,.i .i64),(12,.i .i64)] (eI P3 Q):=aT (ok 90) gU [aM H3]
def zI {P3}(Q)(H3:Bk 90 Tryz.f249 (eG Q) 3 [(0,.l),(1,.i .i64),(4,.v),(11,.i .i64),(12,.i .i64)] P3):∀k,Bk 90 Tryz.f249 (eG Q) 5 [(0,.l),(1,.i .i64),(4,.v),(11,.i .i64),(12,.i .i64)] (cL P3 Q k):=bM λk h=>aT (ok 90) gU [aM h,aM (zH Q H3)]
def zJ (Q):∀k,Bk 90 Tryz.f249 (eG Q) 3 [(0,.l),(1,.i .i64),(4,.v),(11,.i .i64),(12,.i .i64)] (cM Q k):=bM λk h=>aT (ok 90) gU [aM h,cu (zI Q h)]
def ye:=λa b c d e f g w Q=>bB (jB a b c d e f g w Q) (aK f b<|wA a λi=>af .i64 ((i.add (f.toNat*3)).add 0) w.drew λj=>af .i64 ((i.add (f.toNat*3)).add 1) w.drew λl=>af .i64 ((i.add (f.toNat*3)).add 2) w.drew λm=>aK d b<|wA a λn=>af .i64 ((n.add (d.toNat*3)).add 0) w.drew λo=>af .i64 ((n.add (d.toNat*3)).add 1) w.drew λp=>af .i64 ((n.add (d.toNat*3)).add 2) w.drew λq=>aK d b<|wA a λr=>St ((r.add (d.toNat*3)).add 0) (ae j) w.drew λw=>St ((r.add (d.toNat*3)).add 1) (ae l) w λw=>St ((r.add (d.toNat*3)).add 2) (ae m) w λw=>aK f b<|wA a λs=>St ((s.add (f.toNat*3)).add 0) (ae o) w λw=>St ((s.add (f.toNat*3)).add 1) (ae p) w λw=>St ((s.add (f.toNat*3)).add 2) (ae q) w λw=>∃k',cM Q k' a b c d g (IntKind.wrap .i64 (d+1)) (IntKind.wrap .i64 (e-1)) w) (ok 90) gU [cu (zJ Q)] Tryz.func249
def fg (tA:L3 (Int->Value->Int->Int->WP))(Q:Int->Bool->WP)(a:OA)(b c:Nat)(d:Int)(e:Value)(f g:Int)(w:World):Prop:=cond (decide (f>g)) (aK d b<|wA a λi=>af .i64 ((i.add (d.toNat*3)).add 0) w.drew λj=>af .i64 ((i.add (d.toNat*3)).add 1) w.drew λl=>af .i64 ((i.add (d.toNat*3)).add 2) w.drew λm=>aK g b<|wA a λn=>af .i64 ((n.add (g.toNat*3)).add 0) w.drew λo=>af .i64 ((n.add (g.toNat*3)).add 1) w.drew λp=>af .i64 ((n.add (g.toNat*3)).add 2) w.drew λq=>aK g b<|wA a λr=>St ((r.add (g.toNat*3)).add 0) (ae j) w.drew λw=>St ((r.add (g.toNat*3)).add 1) (ae l) w λw=>St ((r.add (g.toNat*3)).add 2) (ae m) w λw=>aK d b<|wA a λs=>St ((s.add (d.toNat*3)).add 0) (ae o) w λw=>St ((s.add (d.toNat*3)).add 1) (ae p) w λw=>St ((s.add (d.toNat*3)).add 2) (ae q) w λw=>Q g false w) (aK g b<|wA a λt=>af .i64 ((t.add (g.toNat*3)).add 0) w.drew λu=>af .i64 ((t.add (g.toNat*3)).add 1) w.drew λv=>af .i64 ((t.add (g.toNat*3)).add 2) w.drew λx=>aK f b<|wA a λy=>af .i64 ((y.add (f.toNat*3)).add 0) w.drew λz=>af .i64 ((y.add (f.toNat*3)).add 1) w.drew λa1=>af .i64 ((y.add (f.toNat*3)).add 2) w.drew λb1=>aK f b<|wA a λc1=>St ((c1.add (f.toNat*3)).add 0) (ae u) w.drew λw=>St ((c1.add (f.toNat*3)).add 1) (ae v) w λw=>St ((c1.add (f.toNat*3)).add 2) (ae x) w λw=>aK g b<|wA a λd1=>St ((d1.add (g.toNat*3)).add 0) (ae z) w λw=>St ((d1.add (g.toNat*3)).add 1) (ae a1) w λw=>St ((d1.add (g.toNat*3)).add 2) (ae b1) w λw=>tA a b c d e (IntKind.wrap .i64 (f+1)) (IntKind.wrap .i64 (g-1)) w)
def eA (tA:L3 (Int->Value->Int->Int->WP))(Q:Int->Bool->WP)(R15:L3 (Int->Value->Int->Int->WP))(a:OA)(b c:Nat)(d:Int)(e:Value)(f g:Int)(w:World):Prop:=cond (decide (f<=g)) (aK g b<|wA a λi=>af .i64 ((i.add (g.toNat*3)).add 0) w.drew λj=>af .i64 ((i.add (g.toNat*3)).add 1) w.drew λl=>af .i64 ((i.add (g.toNat*3)).add 2) w.drew λm=>aK d b<|wA a λn=>af .i64 ((n.add (d.toNat*3)).add 0) w.drew λo=>af .i64 ((n.add (d.toNat*3)).add 1) w.drew λp=>af .i64 ((n.add (d.toNat*3)).add 2) w.drew λq=>iv (cx 178) e [.agg #[ae j,ae l,ae m],.agg #[ae o,ae p,ae q]] w.drew λr w=>dI .i64 r λs=>cond (!(decide (s<0))) (R15 a b c d e f (IntKind.wrap .i64 (g-1)) w) (fg tA Q a b c d e f g w)) (fg tA Q a b c d e f g w.drew)
def c8 (tA:L3 (Int->Value->Int->Int->WP))(Q:Int->Bool->WP):Nat->L3 (Int->Value->Int->Int->WP)
 |0,_,_,_,_,_,_,_,_=>False
 |k+1,a,b,c,d,e,f,g,w=>eA tA Q (c8 tA Q k) a b c d e f g w
def gy (Q:Int->Bool->WP)(R13:L3 (Int->Value->Int->Int->WP))(a:OA)(b c:Nat)(d:Int)(e:Value)(f g:Int)(w:World):Prop:=cond (decide (f<=g)) (aK f b<|wA a λi=>af .i64 ((i.add (f.toNat*3)).add 0) w.drew λj=>af .i64 ((i.add (f.toNat*3)).add 1) w.drew λl=>af .i64 ((i.add (f.toNat*3)).add 2) w.drew λm=>aK d b<|wA a λn=>af .i64 ((n.add (d.toNat*3)).add 0) w.drew λo=>af .i64 ((n.add (d.toNat*3)).add 1) w.drew λp=>af .i64 ((n.add (d.toNat*3)).add 2) w.drew λq=>iv (cx 178) e [.agg #[ae j,ae l,ae m],.agg #[ae o,ae p,ae q]] w.drew λr w=>dI .i64 r λs=>cond (decide (s<0)) (R13 a b c d e (IntKind.wrap .i64 (f+1)) g w) (∃k',c8 R13 Q k' a b c d e f g w)) (∃k',c8 R13 Q k' a b c d e f g w.drew)
def c9 (Q:Int->Bool->WP):Nat->L3 (Int->Value->Int->Int->WP)
 |0,_,_,_,_,_,_,_,_=>False
 |k+1,a,b,c,d,e,f,g,w=>gy Q (c9 Q k) a b c d e f g w
def gG (Q:Int->Bool->WP)(a:OA)(b c:Nat)(d:Int)(e:Value)(f g:Int)(w:World):Prop:=cond (decide (f>g)) (aK d b<|wA a λi=>af .i64 ((i.add (d.toNat*3)).add 0) w.drew λj=>af .i64 ((i.add (d.toNat*3)).add 1) w.drew λl=>af .i64 ((i.add (d.toNat*3)).add 2) w.drew λm=>aK g b<|wA a λn=>af .i64 ((n.add (g.toNat*3)).add 0) w.drew λo=>af .i64 ((n.add (g.toNat*3)).add 1) w.drew λp=>af .i64 ((n.add (g.toNat*3)).add 2) w.drew λq=>aK g b<|wA a λr=>St ((r.add (g.toNat*3)).add 0) (ae j) w.drew λw=>St ((r.add (g.toNat*3)).add 1) (ae l) w λw=>St ((r.add (g.toNat*3)).add 2) (ae m) w λw=>aK d b<|wA a λs=>St ((s.add (d.toNat*3)).add 0) (ae o) w λw=>St ((s.add (d.toNat*3)).add 1) (ae p) w λw=>St ((s.add (d.toNat*3)).add 2) (ae q) w λw=>Q g true w) (aK g b<|wA a λt=>af .i64 ((t.add (g.toNat*3)).add 0) w.drew λu=>af .i64 ((t.add (g.toNat*3)).add 1) w.drew λv=>af .i64 ((t.add (g.toNat*3)).add 2) w.drew λx=>aK f b<|wA a λy=>af .i64 ((y.add (f.toNat*3)).add 0) w.drew λz=>af .i64 ((y.add (f.toNat*3)).add 1) w.drew λa1=>af .i64 ((y.add (f.toNat*3)).add 2) w.drew λb1=>aK f b<|wA a λc1=>St ((c1.add (f.toNat*3)).add 0) (ae u) w.drew λw=>St ((c1.add (f.toNat*3)).add 1) (ae v) w λw=>St ((c1.add (f.toNat*3)).add 2) (ae x) w λw=>aK g b<|wA a λd1=>St ((d1.add (g.toNat*3)).add 0) (ae z) w λw=>St ((d1.add (g.toNat*3)).add 1) (ae a1) w λw=>St ((d1.add (g.toNat*3)).add 2) (ae b1) w λw=>∃k',c9 Q k' a b c d e (IntKind.wrap .i64 (f+1)) (IntKind.wrap .i64 (g-1)) w)
def gH (Q:Int->Bool->WP)(R5:L3 (Int->Value->Int->Int->WP))(a:OA)(b c:Nat)(d:Int)(e:Value)(f g:Int)(w:World):Prop:=cond (decide (f<=g)) (aK g b<|wA a λi=>af .i64 ((i.add (g.toNat*3)).add 0) w.drew λj=>af .i64 ((i.add (g.toNat*3)).add 1) w.drew λl=>af .i64 ((i.add (g.toNat*3)).add 2) w.drew λm=>aK d b<|wA a λn=>af .i64 ((n.add (d.toNat*3)).add 0) w.drew λo=>af .i64 ((n.add (d.toNat*3)).add 1) w.drew λp=>af .i64 ((n.add (d.toNat*3)).add 2) w.drew λq=>iv (cx 178) e [.agg #[ae j,ae l,ae m],.agg #[ae o,ae p,ae q]] w.drew λr w=>dI .i64 r λs=>cond (!(decide (s<0))) (R5 a b c d e f (IntKind.wrap .i64 (g-1)) w) (gG Q a b c d e f g w)) (gG Q a b c d e f g w.drew)
def dG (Q:Int->Bool->WP):Nat->L3 (Int->Value->Int->Int->WP)
 |0,_,_,_,_,_,_,_,_=>False
 |k+1,a,b,c,d,e,f,g,w=>gH Q (dG Q k) a b c d e f g w
def gI (Q:Int->Bool->WP)(R3:L3 (Int->Value->Int->Int->WP))(a:OA)(b c:Nat)(d:Int)(e:Value)(f g:Int)(w:World):Prop:=cond (decide (f<=g)) (aK f b<|wA a λi=>af .i64 ((i.add (f.toNat*3)).add 0) w.drew λj=>af .i64 ((i.add (f.toNat*3)).add 1) w.drew λl=>af .i64 ((i.add (f.toNat*3)).add 2) w.drew λm=>aK d b<|wA a λn=>af .i64 ((n.add (d.toNat*3)).add 0) w.drew λo=>af .i64 ((n.add (d.toNat*3)).add 1) w.drew λp=>af .i64 ((n.add (d.toNat*3)).add 2) w.drew λq=>iv (cx 178) e [.agg #[ae j,ae l,ae m],.agg #[ae o,ae p,ae q]] w.drew λr w=>dI .i64 r λs=>cond (decide (s<0)) (R3 a b c d e (IntKind.wrap .i64 (f+1)) g w) (∃k',dG Q k' a b c d e f g w)) (∃k',dG Q k' a b c d e f g w.drew)
def fo (Q:Int->Bool->WP):Nat->L3 (Int->Value->Int->Int->WP)
 |0,_,_,_,_,_,_,_,_=>False
 |k+1,a,b,c,d,e,f,g,w=>gI Q (fo Q k) a b c d e f g w
noncomputable def eB:cv:=[(1,sp 0 13 (.op 13 (.op 14 (.op 15 .done)))),(3,sp 0 13 (.op 13 (sp 14 2 .done))),(5,sp 0 13 (.op 13 (sp 14 3 .done))),(8,sp 0 13 (.op 13 (.op 14 (.op 15 .done)))),(10,sp 0 13 (.op 13 (.op 14 (.op 15 .done)))),(13,sp 0 13 (.op 13 (sp 14 2 .done))),(15,sp 0 13 (.op 13 (sp 14 3 .done))),(18,sp 0 13 (.op 13 (.op 14 (.op 15 .done)))),(21,sp 0 13 (.op 13 (.op 14 (.op 15 .done))))]
def Bz {tA}(Q)(H13:Bk 178 Tryz.f250 (cP Q) 13 [(0,.l),(1,.i .i64),(4,.v),(12,.i .i64),(13,.i .i64)] tA):Bk 178 Tryz.f250 (cP Q) 17 [(0,.l),(1,.i .i64),(4,.v),(12,.i .i64),(13,.i .i64)] (fg tA Q):=aT (ok 178) eB [aM H13]
def BA {tA}(Q)(H13:Bk 178 Tryz.f250 (cP Q) 13 [(0,.l),(1,.i .i64),(4,.v),(12,.i .i64),(13,.i .i64)] tA):∀k,Bk 178 Tryz.f250 (cP Q) 15 [(0,.l),(1,.i .i64),(4,.v),(12,.i .i64),(13,.i .i64)] (c8 tA Q k):=bM λk h=>aT (ok 178) eB [aM h,aM (Bz Q H13)]
def BB (Q):∀k,Bk 178 Tryz.f250 (cP Q) 13 [(0,.l),(1,.i .i64),(4,.v),(12,.i .i64),(13,.i .i64)] (c9 Q k):=bM λk h=>aT (ok 178) eB [aM h,cu (BA Q h)]
def B5 (Q):Bk 178 Tryz.f250 (cP Q) 7 [(0,.l),(1,.i .i64),(4,.v),(12,.i .i64),(13,.i .i64)] (gG Q):=aT (ok 178) eB [cu (BB Q)]
def B6 (Q):∀k,Bk 178 Tryz.f250 (cP Q) 5 [(0,.l),(1,.i .i64),(4,.v),(12,.i .i64),(13,.i .i64)] (dG Q k):=bM λk h=>aT (ok 178) eB [aM h,aM (B5 Q)]
def B7 (Q):∀k,Bk 178 Tryz.f250 (cP Q) 3 [(0,.l),(1,.i .i64),(4,.v),(12,.i .i64),(13,.i .i64)] (fo Q k):=bM λk h=>aT (ok 178) eB [aM h,cu (B6 Q)]
def A0:=λa b c d e f g w Q=>bB (lC a b c d e f g w Q) (aK f b<|wA a λi=>af .i64 ((i.add (f.toNat*3)).add 0) w.drew λj=>af .i64 ((i.add (f.toNat*3)).add 1) w.drew λl=>af .i64 ((i.add (f.toNat*3)).add 2) w.drew λm=>aK d b<|wA a λn=>af .i64 ((n.add (d.toNat*3)).add 0) w.drew λo=>af .i64 ((n.add (d.toNat*3)).add 1) w.drew λp=>af .i64 ((n.add (d.toNat*3)).add 2) w.drew λq=>aK d b<|wA a λr=>St ((r.add (d.toNat*3)).add 0) (ae j) w.drew λw=>St ((r.add (d.toNat*3)).add 1) (ae l) w λw=>St ((r.add (d.toNat*3)).add 2) (ae m) w λw=>aK f b<|wA a λs=>St ((s.add (f.toNat*3)).add 0) (ae o) w λw=>St ((s.add (f.toNat*3)).add 1) (ae p) w λw=>St ((s.add (f.toNat*3)).add 2) (ae q) w λw=>∃k',fo Q k' a b c d g (IntKind.wrap .i64 (d+1)) (IntKind.wrap .i64 (e-1)) w) (ok 178) eB [cu (B7 Q)] Tryz.func250
def jx (P2:L3 (Int->Int->Int->Value->Bool->Bool->WP))(Q:WP)(a:OA)(b c:Nat)(d e f:Int)(g:Value)(i j:Int)(w:World):Prop:=lC a b c d e j g w λl m w=>NZ 8<|cond (decide ((IntKind.wrap .i64 (l-d))<(IntKind.wrap .i64 (e-l)))) (fm a b c d l f g w λw=>P2 a b c (IntKind.wrap .i64 (l+1)) e f g (decide ((IntKind.wrap .i64 (l-d))≥(IntKind.wrap .i64 (Int.tdiv i 8)))) m w) (fm a b c (IntKind.wrap .i64 (l+1)) e f g w λw=>P2 a b c d l f g (decide ((IntKind.wrap .i64 (e-l))≥(IntKind.wrap .i64 (Int.tdiv i 8)))) m w)
def eV (P2:L3 (Int->Int->Int->Value->Bool->Bool->WP))(Q:WP)(a:OA)(b c:Nat)(d e f:Int)(g:Value)(i j:Bool)(l m:Int)(w:World):Prop:=cond (decide (d>0)) (aK (IntKind.wrap .i64 (d-1)) b<|wA a λn=>af .i64 ((n.add (((IntKind.wrap .i64 (d-1))).toNat*3)).add 0) w.drew λo=>af .i64 ((n.add (((IntKind.wrap .i64 (d-1))).toNat*3)).add 1) w.drew λp=>af .i64 ((n.add (((IntKind.wrap .i64 (d-1))).toNat*3)).add 2) w.drew λq=>aK m b<|wA a λr=>af .i64 ((r.add (m.toNat*3)).add 0) w.drew λs=>af .i64 ((r.add (m.toNat*3)).add 1) w.drew λt=>af .i64 ((r.add (m.toNat*3)).add 2) w.drew λu=>iv (cx 148) g [.agg #[ae o,ae p,ae q],.agg #[ae s,ae t,ae u]] w.drew λv w=>dI .i64 v λx=>cond (!(decide (x<0))) (jB a b c d e m g w λy w=>P2 a b c y e f g i j w) (jx P2 Q a b c d e f g l m w)) (jx P2 Q a b c d e f g l m w.drew)
def gV (P2:L3 (Int->Int->Int->Value->Bool->Bool->WP))(Q:WP)(a:OA)(b c:Nat)(d e f:Int)(g:Value)(i j:Bool)(l m n:Int)(w:World):Prop:=cond i (cond j (cond (n==1) (iG a b c d e g w λo w=>cond o (Q w) (eV P2 Q a b c d e f g i j l m w)) (eV P2 Q a b c d e f g i j l m w)) (eV P2 Q a b c d e f g i j l m w)) (eV P2 Q a b c d e f g i j l m w)
def jy (P2:L3 (Int->Int->Int->Value->Bool->Bool->WP))(Q:WP)(a:OA)(b c:Nat)(d e f:Int)(g:Value)(i j:Bool)(l:Int)(w:World):Prop:=kE a b c d e g w λm n w=>cond (n==2) (jZ a b c d e g w λw=>gV P2 Q a b c d e f g i j l (IntKind.wrap .i64 ((IntKind.wrap .i64 (e-1))-(IntKind.wrap .i64 (m-d)))) 1 w) (gV P2 Q a b c d e f g i j l m n w)
def h_ (Q:WP)(R2:L3 (Int->Int->Int->Value->Bool->Bool->WP))(a:OA)(b c:Nat)(d e f:Int)(g:Value)(i j:Bool)(w:World):Prop:=cond (decide ((IntKind.wrap .i64 (e-d))<=12)) (jK a b c d e g w λw=>Q w) (cond (f==0) (lQ a b c d e g w λw=>Q w) (cond (!i) (jL a b c d e g w λw=>jy R2 Q a b c d e (IntKind.wrap .i64 (f-1)) g i j (IntKind.wrap .i64 (e-d)) w) (jy R2 Q a b c d e f g i j (IntKind.wrap .i64 (e-d)) w)))
def cH (Q:WP):Nat->L3 (Int->Int->Int->Value->Bool->Bool->WP)
 |0,_,_,_,_,_,_,_,_,_,_=>False
 |k+1,a,b,c,d,e,f,g,i,j,w=>h_ Q (cH Q k) a b c d e f g i j w
noncomputable def fL:cv:=[(17,sp 0 13 (.op 13 (sp 14 3 .done)))]
def CW {P2}(Q)(H2:Bk 148 Tryz.f223 (cG Q) 2 [(0,.l),(1,.i .i64),(2,.i .i64),(3,.i .i64),(4,.v),(10,.b),(11,.b)] P2):Bk 148 Tryz.f223 (cG Q) 20 [(0,.l),(1,.i .i64),(2,.i .i64),(3,.i .i64),(4,.v),(12,.i .i64),(13,.i .i64)] (jx P2 Q):=aT (ok 148) fL [aM H2]
def CX {P2}(Q)(H2:Bk 148 Tryz.f223 (cG Q) 2 [(0,.l),(1,.i .i64),(2,.i .i64),(3,.i .i64),(4,.v),(10,.b),(11,.b)] P2):Bk 148 Tryz.f223 (cG Q) 17 [(0,.l),(1,.i .i64),(2,.i .i64),(3,.i .i64),(4,.v),(10,.b),(11,.b),(12,.i .i64),(13,.i .i64)] (eV P2 Q):=aT (ok 148) fL [aM H2,aM (CW Q H2)]
def CY {P2}(Q)(H2:Bk 148 Tryz.f223 (cG Q) 2 [(0,.l),(1,.i .i64),(2,.i .i64),(3,.i .i64),(4,.v),(10,.b),(11,.b)] P2):Bk 148 Tryz.f223 (cG Q) 15 [(0,.l),(1,.i .i64),(2,.i .i64),(3,.i .i64),(4,.v),(10,.b),(11,.b),(12,.i .i64),(13,.i .i64),(14,.i .i64)] (gV P2 Q):=aT (ok 148) fL [aM (CX Q H2)]
def CZ {P2}(Q)(H2:Bk 148 Tryz.f223 (cG Q) 2 [(0,.l),(1,.i .i64),(2,.i .i64),(3,.i .i64),(4,.v),(10,.b),(11,.b)] P2):Bk 148 Tryz.f223 (cG Q) 10 [(0,.l),(1,.i .i64),(2,.i .i64),(3,.i .i64),(4,.v),(10,.b),(11,.b),(12,.i .i64)] (jy P2 Q):=aT (ok 148) fL [aM (CY Q H2)]
def DG (Q):∀k,Bk 148 Tryz.f223 (cG Q) 2 [(0,.l),(1,.i .i64),(2,.i .i64),(3,.i .i64),(4,.v),(10,.b),(11,.b)] (cH Q k):=bM λk h=>aT (ok 148) fL [aM (CZ Q h)]
def rM:=λa b c d e f g w Q=>bB (fm a b c d e f g w Q) (∃k',cH Q k' a b c d e f g true true w) (ok 148) fL [cu (DG Q)] Tryz.func223
def AK:=λa b c d w Q=>bB (kN a b c d w Q) (vF (IntKind.wrap .u64 (b:Int)) w λe w=>fm a b c 0 (b:Int) e d w λw=>Q w) (ok 14) [] [] Tryz.func196
def mR (Q:Int->WP)(R3:Int->L3 (Int->Int->WP))(a:Int)(b:OA)(c d:Nat)(e f:Int)(w:World):Prop:=cond (decide (f<e)) (aK f c<|wA b λg=>af .i64 (g.add (f.toNat*1)) w λi=>cond (i !=a) (Q i w) (R3 a b c d e (IntKind.wrap .i64 (f+1)) w)) (Q a w)
def qS (Q:Int->WP):Nat->Int->L3 (Int->Int->WP)
 |0,_,_,_,_,_,_,_=>False
 |k+1,a,b,c,d,e,f,w=>mR Q (qS Q k) a b c d e f w
def adn (Q):∀k,Bk 18 Tryz.f225 (Pw Q) 3 [(3,.i .i64),(6,.l),(7,.i .i64),(8,.i .i64)] (qS Q k):=bM λk h=>aT (ok 18) [] [aM h]
def Zm:=λa b c w Q=>bB (EW a b c w Q) (∃k',qS Q k' 0 a b c (b:Int) 0 w) (ok 18) [] [cu (adn Q)] Tryz.func225
def A2:=λa w Q=>bB (qA a w Q) (Q (a !=a) w) (ok 6) [] [] Tryz.func253
def P0:=λa b w Q=>bB (oo a b w Q) (qA a w λc w=>qA b w λd w=>cond c (cond d (Q 0 w) (Q (-1) w)) (cond d (Q 1 w) (cond (decide (a<b)) (Q (-1) w) (cond (decide (a>b)) (Q 1 w) (Q 0 w))))) (ok 20) [] [] Tryz.func226
noncomputable def Zn:cv:=[(1,sp 0 4 (sp 5 4 (sp 10 4 (.op 4 (.op 9 (.op 14 (.op 15 (.op 16 (.op 17 .done)))))))))]
def XK:=λa b c d e f w Q=>bB (DB a b c d e f w Q) (Bx [ae a,ae b,ae c] 294 w λg w=>Bx [ae d,ae e,ae f] 294 w λi w=>af .i64 (g.add 2) w.drew λj=>af .i64 (i.add 2) w.drew λl=>af .i64 g w.drew λm=>af .i64 i w.drew λn=>af .i64 (g.add 1) w.drew λo=>af .i64 (i.add 1) w.drew λp=>oo j l w.drew λq w=>w.cell? (i.add 1)=some (ae p)/\w.cell? (g.add 1)=some (ae o)/\w.cell? i=some (ae n)/\w.cell? g=some (ae m)/\oo m n w λr w=>w.cell? (i.add 1)=some (ae p)/\w.cell? (g.add 1)=some (ae o)/\oo o p w λs w=>Bx [ae q,ae r,ae s] 3 w λt w=>EW (some t) 3 3 w λu w=>Q u w) (ok 22) Zn [] Tryz.func197
def B8 (P4:L3 (Int->WP))(Q:L3 WP)(R9:L3 (Int->L3 (Int->WP)))(a:OA)(b c:Nat)(d:Int)(e:OA)(f g:Nat)(i:Int)(w:World):Prop:=cond (decide (i<(f:Int))) (aK i f<|wA e λj=>af .i64 ((j.add (i.toNat*3)).add 0) w.drew λl=>af .i64 ((j.add (i.toNat*3)).add 1) w.drew λm=>af .i64 ((j.add (i.toNat*3)).add 2) w.drew λn=>aK (IntKind.wrap .i64 (i-1)) f<|wA e λo=>af .i64 ((o.add (((IntKind.wrap .i64 (i-1))).toNat*3)).add 0) w.drew λp=>af .i64 ((o.add (((IntKind.wrap .i64 (i-1))).toNat*3)).add 1) w.drew λq=>af .i64 ((o.add (((IntKind.wrap .i64 (i-1))).toNat*3)).add 2) w.drew λr=>bT P .neq 294 (.tmp 38) (.tmp 43) (.agg #[ae l,ae m,ae n]) (.agg #[ae p,ae q,ae r]) w.drew λs w=>cond s (aK i f<|wA e λt=>af .i64 ((t.add (i.toNat*3)).add 0) w λu=>af .i64 ((t.add (i.toNat*3)).add 1) w λv=>af .i64 ((t.add (i.toNat*3)).add 2) w λx=>aK d b<|wA a λy=>St ((y.add (d.toNat*3)).add 0) (ae u) w λw=>St ((y.add (d.toNat*3)).add 1) (ae v) w λw=>St ((y.add (d.toNat*3)).add 2) (ae x) w λw=>R9 a b c (IntKind.wrap .i64 (d+1)) e f g (IntKind.wrap .i64 (i+1)) w) (R9 a b c d e f g (IntKind.wrap .i64 (i+1)) w)) (bR a b c 3 (some d) none λz a1 b1=>aL P (Builtin.clear_ #[278] 0 [.slice z a1 b1].toArray) w λc1 w=>bR a b c 3 none (some d) λd1 e1 f1=>Q d1 e1 f1 w)
def mg (P4:L3 (Int->WP))(Q:L3 WP):Nat->L3 (Int->L3 (Int->WP))
 |0,_,_,_,_,_,_,_,_,_=>False
 |k+1,a,b,c,d,e,f,g,i,w=>B8 P4 Q (mg P4 Q k) a b c d e f g i w
def gJ (Q:L3 WP)(R4:L3 (Int->WP))(a:OA)(b c:Nat)(d:Int)(w:World):Prop:=cond (decide (d<(b:Int))) (aK d b<|wA a λe=>af .i64 ((e.add (d.toNat*3)).add 0) w.drew λf=>af .i64 ((e.add (d.toNat*3)).add 1) w.drew λg=>af .i64 ((e.add (d.toNat*3)).add 2) w.drew λi=>aK (IntKind.wrap .i64 (d-1)) b<|wA a λj=>af .i64 ((j.add (((IntKind.wrap .i64 (d-1))).toNat*3)).add 0) w.drew λl=>af .i64 ((j.add (((IntKind.wrap .i64 (d-1))).toNat*3)).add 1) w.drew λm=>af .i64 ((j.add (((IntKind.wrap .i64 (d-1))).toNat*3)).add 2) w.drew λn=>bT P .eql 294 (.tmp 19) (.tmp 24) (.agg #[ae f,ae g,ae i]) (.agg #[ae l,ae m,ae n]) w.drew λo w=>cond o (bR a b c 3 (some d) none λp q r=>∃k',mg R4 Q k' a b c d p q r 1 w) (R4 a b c (IntKind.wrap .i64 (d+1)) w)) (Q a b c w)
def fq (Q:L3 WP):Nat->L3 (Int->WP)
 |0,_,_,_,_,_=>False
 |k+1,a,b,c,d,w=>gJ Q (fq Q k) a b c d w
noncomputable def lR:cv:=[(6,sp 0 9 (.op 9 .done)),(11,sp 0 9 (.op 9 .done))]
def B9 {P4}(Q)(H4:Bk 61 Tryz.f198 (jj Q) 4 [(0,.l),(3,.i .i64)] P4):∀k,Bk 61 Tryz.f198 (jj Q) 9 [(0,.l),(3,.i .i64),(4,.l),(5,.i .i64)] (mg P4 Q k):=bM λk h=>aT (ok 61) lR [aM h]
def B_ (Q):∀k,Bk 61 Tryz.f198 (jj Q) 4 [(0,.l),(3,.i .i64)] (fq Q k):=bM λk h=>aT (ok 61) lR [aM h,cu (B9 Q h)]
def A3:=λa b c w Q=>bB (lz a b c w Q) (cond (decide ((b:Int)<2)) (Q a b c w) (∃k',fq Q k' a b c 1 w)) (ok 61) lR [cu (B_ Q)] Tryz.func198
def Zo:=λa b c w Q=>bB (kC a b c w Q) (ji a b c w λd e f w=>kN d e f (.func (.func 197) #[] #[]) w λw=>lz d e f w λg i j w=>Q g i j w) (ok 9) [] [] Tryz.func176
def vh (P6:OA->OA->Int->Int->Int->L3 (L3 (Int->Int->WP)))(Q:L3 WP)(R9:OA->OA->Int->Int->Int->L3 (Int->L3 (Int->Int->L3 (Int->Int->WP))))(a b:OA)(c d e:Int)(f:OA)(g i:Nat)(j:Int)(l:OA)(m n:Nat)(o p:Int)(q:OA)(r s:Nat)(t u:Int)(w:World):Prop:=cond (decide (u<t)) (aK u r<|wA q λv=>af .i64 ((v.add (u.toNat*2)).add 0) w λx=>af .i64 ((v.add (u.toNat*2)).add 1) w λy=>Al T 292 w λz w=>St (z.add 0) (ae x) w λw=>St (z.add 1) (ae y) w λw=>af .i64 z w λa1=>zX b a1 w λb1 w=>cond (b1 !=1099511627776) (af .i64 z w.drew λc1=>af .i64 (z.add 1) w.drew λd1=>nh d e j w.drew λe1 w=>w.cell? (z.add 1)=some (ae d1)/\w.cell? z=some (ae c1)/\ES d e j c1 w λf1 w=>w.cell? (z.add 1)=some (ae d1)/\Bx [ae e1,ae f1,ae (IntKind.wrap .i64 (d1+b1))] 294 w λg1 w=>App P #[278,278] 278 (.slice f g i) (.slice (some g1) 1 1) w λi1 j1 l1 w=>R9 a b c d e i1 j1 l1 j l m n o p q r s t (IntKind.wrap .i64 (u+1)) w) (R9 a b c d e f g i j l m n o p q r s t (IntKind.wrap .i64 (u+1)) w)) (P6 a b c d e f g i l m n o (IntKind.wrap .i64 (p+1)) w)
def qT (P6:OA->OA->Int->Int->Int->L3 (L3 (Int->Int->WP)))(Q:L3 WP):Nat->OA->OA->Int->Int->Int->L3 (Int->L3 (Int->Int->L3 (Int->Int->WP)))
 |0,_,_,_,_,_,_,_,_,_,_,_,_,_,_,_,_,_,_,_,_=>False
 |k+1,a,b,c,d,e,f,g,i,j,l,m,n,o,p,q,r,s,t,u,w=>vh P6 Q (qT P6 Q k) a b c d e f g i j l m n o p q r s t u w
def vi (Q:L3 WP)(R6:OA->OA->Int->Int->Int->L3 (L3 (Int->Int->WP)))(a b:OA)(c d e:Int)(f:OA)(g i:Nat)(j:OA)(l m:Nat)(n o:Int)(w:World):Prop:=cond (decide (o<n)) (aK o l<|wA j λp=>af .i64 (p.add (o.toNat*1)) w λq=>BV a q w λr s t w=>∃k',qT R6 Q k' a b c d e f g i q j l m n o r s t (s:Int) 0 w) (xU b w λu w=>dZ d e u w λv w=>cond (v==c) (fe a u w λx w=>cond (x !=255) (nh d e u w λy w=>Bx [ae y,ae 4,ae 0] 294 w λz w=>App P #[278,278] 278 (.slice f g i) (.slice (some z) 1 1) w λa1 b1 c1 w=>kC a1 b1 c1 w λd1 e1 f1 w=>Q d1 e1 f1 w) (kC f g i w λg1 i1 j1 w=>Q g1 i1 j1 w)) (kC f g i w λl1 m1 n1 w=>Q l1 m1 n1 w))
def n9 (Q:L3 WP):Nat->OA->OA->Int->Int->Int->L3 (L3 (Int->Int->WP))
 |0,_,_,_,_,_,_,_,_,_,_,_,_,_,_=>False
 |k+1,a,b,c,d,e,f,g,i,j,l,m,n,o,w=>vi Q (n9 Q k) a b c d e f g i j l m n o w
noncomputable def DH:cv:=[(13,sp 0 4 (sp 5 5 (sp 11 4 (.op 4 (.op 10 (.op 15 (.op 16 (.op 17 (.op 18 .done)))))))))]
def Zp {P6}(Q)(H6:Bk 96 Tryz.f162 (zW Q) 6 [(0,.p),(1,.p),(2,.i .i64),(7,.i .i64),(8,.i .i64),(9,.l),(32,.l),(33,.i .i64),(34,.i .i64)] P6):∀k,Bk 96 Tryz.f162 (zW Q) 9 [(0,.p),(1,.p),(2,.i .i64),(7,.i .i64),(8,.i .i64),(9,.l),(11,.i .i64),(32,.l),(33,.i .i64),(34,.i .i64),(40,.l),(41,.i .i64),(42,.i .i64)] (qT P6 Q k):=bM λk h=>aT (ok 96) DH [aM H6,aM h]
def Zq (Q):∀k,Bk 96 Tryz.f162 (zW Q) 6 [(0,.p),(1,.p),(2,.i .i64),(7,.i .i64),(8,.i .i64),(9,.l),(32,.l),(33,.i .i64),(34,.i .i64)] (n9 Q k):=bM λk h=>aT (ok 96) DH [cu (Zp Q h)]
def Vu:=λa b c w Q=>bB (BU a b c w Q) (eN a w λd e w=>cond b.isNone (Q none 0 0 w) (wv b w λf w=>f_ a w λg w=>cond (f !=g) (Q none 0 0 w) (om a c w λi j l w=>∃k',n9 Q k' a b c d e none 0 0 i j l (j:Int) 0 w))) (ok 96) DH [cu (Zq Q)] Tryz.func162
def MC:=λa b w Q=>bB (i_ a b w Q) (cond a.isNone (Q 0 w) (cond (decide (b<0)) (Q 0 w) (wA a λc=>aA (c.add 4) w λd e f=>cond (decide (b≥(e:Int))) (Q 0 w) (wA a λg=>aA (g.add 4) w λi j l=>aK b j<|wA i λm=>af .i64 (m.add (b.toNat*1)) w λn=>Q n w)))) (ok 27) [] [] Tryz.func165
def qC (Q:L3 WP)(R5:OA->L3 (Int->Int->WP))(a b:OA)(c d:Nat)(e f:Int)(w:World):Prop:=cond (decide (f<e)) (wA a λg=>aA (g.add 1) w.drew λi j l=>aK f j<|wA i λm=>af .i64 (m.add (f.toNat*3)) w.drew λn=>wA a λo=>bg o w.drew λp=>i_ p f w.drew λq w=>w.cell? (m.add (f.toNat*3))=some (ae n)/\w.cell? (g.add 1)=some (.slice i j l)/\cond (n !=q) (Bx [ae f] 3 w λr w=>App P #[29,29] 29 (.slice b c d) (.slice (some r) 1 1) w λs t u w=>R5 a s t u e (IntKind.wrap .i64 (f+1)) w) (R5 a b c d e (IntKind.wrap .i64 (f+1)) w)) (Q b c d w)
def nG (Q:L3 WP):Nat->OA->L3 (Int->Int->WP)
 |0,_,_,_,_,_,_,_=>False
 |k+1,a,b,c,d,e,f,w=>qC Q (nG Q k) a b c d e f w
noncomputable def Gl:cv:=[(1,sp 0 11 (.op 11 (sp 12 2 .done))),(7,sp 0 13 (.op 13 (.op 14 .done)))]
def Ud (Q):∀k,Bk 48 Tryz.f199 (G_ Q) 5 [(0,.p),(3,.l),(23,.i .i64),(24,.i .i64)] (nG Q k):=bM λk h=>aT (ok 48) Gl [aM h]
def P9:=λa w Q=>bB (yU a w Q) (cond a.isNone (Q none 0 0 w.drew) (wA a λb=>af .i64 (b.add 2) w.drew λc=>wA a λd=>bg d w.drew λe=>f_ e w.drew λf w=>w.cell? (b.add 2)=some (ae c)/\cond (c==f) (Q none 0 0 w) (wA a λg=>aA (g.add 1) w λi j l=>∃k',nG Q k' a none 0 0 (j:Int) 0 w))) (ok 48) Gl [cu (Ud Q)] Tryz.func199
def agb:=λa b c d e f w Q=>bB (Jw a b c d e f w Q) (Bx [ae a,ae b,.slice c d e] 84 w λg w=>cond (decide (f≥0)) (aA (g.add 2) w λi j l=>cond (decide (f<(j:Int))) (af .i64 (g.add 0) w λm=>af .i64 (g.add 1) w λn=>aA (g.add 2) w λo p q=>uN m n o p q w λr w=>Q r w) (Q false w)) (Q false w)) (ok 18) [] [] Tryz.func279
def agc:=λa b c d e f w Q=>bB (Jv a b c d e f w Q) (Bx [ae a,ae b,.slice c d e] 84 w λg w=>af .i64 (g.add 0) w λi=>af .i64 (g.add 1) w λj=>aA (g.add 2) w λl m n=>Jw i j l m n f w λo w=>cond (!o) (Q 0 w) (aA (g.add 2) w λp q r=>aK f q<|wA p λs=>af .u8 (s.add (f.toNat*1)) w λt=>Q (IntKind.wrap .i64 t) w)) (ok 15) [] [] Tryz.func270
def AL (Q:Bool->WP)(R2:L3 (Addr->L3 (Int->Int->WP)))(a:OA)(b c:Nat)(d:Addr)(e:OA)(f g:Nat)(i j:Int)(w:World):Prop:=cond (decide (j<i)) (aK j f<|wA e λl=>af .i64 (l.add (j.toNat*1)) w λm=>af .i64 (d.add 0) w λn=>af .i64 (d.add 1) w λo=>aA (d.add 2) w λp q r=>Jv n o p q r m w λs w=>cond (s==0) (Q false w) (cond (s==255) (Q false w) (cond (decide (j>0)) (aK (IntKind.wrap .i64 (j-1)) b<|wA a λt=>af .i64 (t.add (((IntKind.wrap .i64 (j-1))).toNat*1)) w λu=>cond (decide (m<=u)) (Q false w) (R2 a b c d e f g i (IntKind.wrap .i64 (j+1)) w)) (R2 a b c d e f g i (IntKind.wrap .i64 (j+1)) w)))) (af .i64 (d.add 0) w λv=>af .i64 (d.add 1) w λx=>aA (d.add 2) w λy z a1=>uN v x y z a1 w λb1 w=>Q b1 w)
def wO (Q:Bool->WP):Nat->L3 (Addr->L3 (Int->Int->WP))
 |0,_,_,_,_,_,_,_,_,_,_=>False
 |k+1,a,b,c,d,e,f,g,i,j,w=>AL Q (wO Q k) a b c d e f g i j w
def agd (Q):∀k,Bk 40 Tryz.f254 (Td Q) 2 [(1,.l),(2,.a),(8,.l),(9,.i .i64),(10,.i .i64)] (wO Q k):=bM λk h=>aT (ok 40) [] [aM h]
def abc:=λa b c d e f g i w Q=>bB (Gg a b c d e f g i w Q) (Bx [ae a,ae b,.slice c d e] 84 w λj w=>∃k',wO Q k' f g i j f g i (g:Int) 0 w) (ok 40) [] [cu (agd Q)] Tryz.func254
def gj (Q:Int->WP)(R2:L3 (Value->Int->Int->WP))(a:OA)(b c:Nat)(d:Value)(e f:Int)(w:World):Prop:=cond (decide (f<e)) (aK f b<|wA a λg=>af .i64 ((g.add (f.toNat*3)).add 0) w λi=>af .i64 ((g.add (f.toNat*3)).add 1) w λj=>af .i64 ((g.add (f.toNat*3)).add 2) w λl=>iv (cx 19) d [.agg #[ae i,ae j,ae l]] w λm w=>dB m λn=>cond n (Q f w) (R2 a b c d e (IntKind.wrap .i64 (f+1)) w)) (Q (-1) w)
def e7 (Q:Int->WP):Nat->L3 (Value->Int->Int->WP)
 |0,_,_,_,_,_,_,_=>False
 |k+1,a,b,c,d,e,f,w=>gj Q (e7 Q k) a b c d e f w
def A4 (Q):∀k,Bk 19 Tryz.f233 (qz Q) 2 [(0,.l),(1,.v),(7,.i .i64),(8,.i .i64)] (e7 Q k):=bM λk h=>aT (ok 19) [] [aM h]
def Ae:=λa b c d w Q=>bB (pA a b c d w Q) (∃k',e7 Q k' a b c d (b:Int) 0 w) (ok 19) [] [cu (A4 Q)] Tryz.func233
def yf:=λa b c d w Q=>bB (nX a b c d w Q) (pA a b c d w λe w=>Q (decide (e≥0)) w) (ok 9) [] [] Tryz.func209
noncomputable def ado:cv:=[(1,sp 0 8 (.op 8 (.op 9 .done)))]
def abd:=λa b c d e f g w Q=>bB (Gf a b c d e f g w Q) (Bx [ae a,ae b,.slice c d e] 84 w λi w=>af .i64 i w.drew λj=>NZ j<|af .i64 i w.drew λl=>NZ l<|w.drew.cell? i=some (ae l)/\cond (g==0) (Q ((IntKind.wrap .i64 (Int.tdiv f l))==0) w.drew) (cond (g==1) (af .i64 i w.drew λm=>Q ((Int.tmod f j)==(IntKind.wrap .i64 (m-1))) w.drew) (cond (g==2) (af .i64 (i.add 1) w.drew λn=>Q ((IntKind.wrap .i64 (Int.tdiv f l))==(IntKind.wrap .i64 (n-1))) w.drew) (cond (g==3) (Q ((Int.tmod f j)==0) w.drew) (Q (g==4) w.drew))))) (ok 42) ado [] Tryz.func211
def XL:=λa b c d w Q=>bB (DD a b c d w Q) (Bx [ae a,ae b,ae c] 294 w λe w=>af .i64 e w λf=>cond (decide (f<0)) (Q true w) (af .i64 e w λg=>wA d λi=>aA (i.add 2) w λj l m=>cond (decide (g≥(l:Int))) (Q true w) (wA d λn=>aA (n.add 2) w λo p q=>af .i64 e w λr=>aK r p<|wA o λs=>af .u8 (s.add (r.toNat*1)) w λt=>cond (t==255) (Q true w) (af .i64 (e.add 2) w λu=>cond (decide (u<0)) (Q true w) (af .i64 (e.add 2) w λv=>cond (decide (v>1073741824)) (Q true w) (wA d λx=>af .i64 (x.add 0) w λy=>af .i64 (x.add 1) w λz=>aA (x.add 2) w λa1 b1 c1=>af .i64 e w λd1=>af .i64 (e.add 1) w λe1=>Gf y z a1 b1 c1 d1 e1 w λf1 w=>Q (!f1) w)))))) (ok 43) [] [] Tryz.func210
def abe:=λa b c d e f g i w Q=>bB (Be a b c d e f g i w Q) (Bx [ae a,ae b,.slice c d e] 84 w λj w=>af .i64 (j.add 0) w λl=>af .i64 (j.add 1) w λm=>aA (j.add 2) w λn o p=>uN l m n o p w λq w=>cond (!q) (Q false w) (nX f g i (.func (.func 210) #[] #[.pointer (some j)]) w λr w=>Q (!r) w)) (ok 12) [] [] Tryz.func179
def adp:=λa w Q=>bB (CM a w Q) (cond (decide (a<0)) (Q none w) (cond (decide (a>1099511627776)) (Q none w) (Bx [ae a,ae 0,.slice none 0 0,ae 0,.slice none 0 0,ae 0,.slice none 0 0,ae 0,.slice none 0 0,ae 0,.slice none 0 0,ae 0,.slice none 0 0,ae 0,.slice none 0 0,ae 0,.slice none 0 0,ae 0,.slice none 0 0,ae 0,.slice none 0 0,ae 0,.slice none 0 0,ae 0,.slice none 0 0,ae 0,.slice none 0 0,ae 0,.slice none 0 0,ae 0,.slice none 0 0,ae 0,.slice none 0 0,ae 0,.slice none 0 0,ae 0,.slice none 0 0,ae 0,.slice none 0 0,ae 0,.slice none 0 0,ae 0,.slice none 0 0,ae 0,.slice none 0 0,ae 0,.slice none 0 0,ae 0,.slice none 0 0,ae 0,.slice none 0 0,ae 0,.slice none 0 0,ae 0,.slice none 0 0,ae 0,.slice none 0 0,ae 0,.slice none 0 0,ae 0,.slice none 0 0,ae 0,.slice none 0 0,ae 0,.slice none 0 0,ae 0,.slice none 0 0,ae 0,.slice none 0 0,ae 0,.slice none 0 0,ae 0,.slice none 0 0,ae 0,.slice none 0 0,ae 0,.slice none 0 0,ae 0,.slice none 0 0,ae 0,.slice none 0 0,ae 0,.slice none 0 0,ae 0,.slice none 0 0,ae 0,.slice none 0 0,ae 0,.slice none 0 0,ae 0,.slice none 0 0,ae 0,.slice none 0 0,ae 0,.slice none 0 0,ae 0,.slice none 0 0,ae 0,.slice none 0 0,ae 0,.slice none 0 0,ae 0,.slice none 0 0,ae 0,.slice none 0 0,ae 0,.slice none 0 0,ae 0,.slice none 0 0,ae 0,.slice none 0 0,ae 0,.slice none 0 0,ae 0,.slice none 0 0,ae 0,.slice none 0 0,ae 0,.slice none 0 0,ae 0,.slice none 0 0,ae 0,.slice none 0 0,ae 0,.slice none 0 0,ae 0,.slice none 0 0,ae 0,.slice none 0 0,ae 0,.slice none 0 0,ae 0,.slice none 0 0,ae 0,.slice none 0 0,ae 0,.slice none 0 0,ae 0,.slice none 0 0,ae 0,.slice none 0 0,ae 0,.slice none 0 0,ae 0,.slice none 0 0,ae 0,.slice none 0 0,ae 0,.slice none 0 0,ae 0,.slice none 0 0,ae 0,.slice none 0 0,ae 0,.slice none 0 0,ae 0,.slice none 0 0,ae 0,.slice none 0 0,ae 0,.slice none 0 0,ae 0,.slice none 0 0,ae 0,.slice none 0 0,ae 0,.slice none 0 0,ae 0,.slice none 0 0,ae 0,.slice none 0 0,ae 0,.slice none 0 0,ae 0,.slice none 0 0,ae 0,.slice none 0 0,ae 0,.slice none 0 0,ae 0,.slice none 0 0,ae 0,.slice none 0 0,ae 0,.slice none 0 0,ae 0,.slice none 0 0,ae 0,.slice none 0 0,ae 0,.slice none 0 0,ae 0,.slice none 0 0,ae 0,.slice none 0 0,ae 0,.slice none 0 0,ae 0,.slice none 0 0,ae 0,.slice none 0 0,ae 0,.slice none 0 0,ae 0,.slice none 0 0,ae 0,.slice none 0 0,ae 0,.slice none 0 0,ae 0,.slice none 0 0,ae 0,.slice none 0 0,ae 0,.slice none 0 0,ae 0,.slice none 0 0,ae 0,.slice none 0 0,ae 0,.slice none 0 0,ae 0,.slice none 0 0,ae 0,.slice none 0 0,ae 0,.slice none 0 0,ae 0,.slice none 0 0,ae 0,.slice none 0 0,ae 0,.slice none 0 0,ae 0,.slice none 0 0,ae 0,.slice none 0 0,ae 0,.slice none 0 0,ae 0,.slice none 0 0,ae 0,.slice none 0 0,ae 0,.slice none 0 0,ae 0,.slice none 0 0,ae 0,.slice none 0 0,ae 0,.slice none 0 0,ae 0,.slice none 0 0,ae 0,.slice none 0 0,ae 0,.slice none 0 0,ae 0,.slice none 0 0,ae 0,.slice none 0 0,ae 0,.slice none 0 0,ae 0,.slice none 0 0,ae 0,.slice none 0 0,ae 0,.slice none 0 0,ae 0,.slice none 0 0,ae 0,.slice none 0 0,ae 0,.slice none 0 0,ae 0,.slice none 0 0,ae 0,.slice none 0 0,ae 0,.slice none 0 0,ae 0,.slice none 0 0,ae 0,.slice none 0 0,ae 0,.slice none 0 0,ae 0,.slice none 0 0,ae 0,.slice none 0 0,ae 0,.slice none 0 0,ae 0,.slice none 0 0,ae 0,.slice none 0 0,ae 0,.slice none 0 0,ae 0,.slice none 0 0,ae 0,.slice none 0 0,ae 0,.slice none 0 0,ae 0,.slice none 0 0,ae 0,.slice none 0 0,ae 0,.slice none 0 0,ae 0,.slice none 0 0,ae 0,.slice none 0 0,ae 0,.slice none 0 0,ae 0,.slice none 0 0,ae 0,.slice none 0 0,ae 0,.slice none 0 0,ae 0,.slice none 0 0,ae 0,.slice none 0 0,ae 0,.slice none 0 0,ae 0,.slice none 0 0,ae 0,.slice none 0 0,ae 0,.slice none 0 0,ae 0,.slice none 0 0,ae 0,.slice none 0 0,ae 0,.slice none 0 0,ae 0,.slice none 0 0,ae 0,.slice none 0 0,ae 0,.slice none 0 0,ae 0,.slice none 0 0,ae 0,.slice none 0 0,ae 0,.slice none 0 0,ae 0,.slice none 0 0,ae 0,.slice none 0 0,ae 0,.slice none 0 0,ae 0,.slice none 0 0,ae 0,.slice none 0 0,ae 0,.slice none 0 0,ae 0,.slice none 0 0,ae 0,.slice none 0 0,ae 0,.slice none 0 0,ae 0,.slice none 0 0,ae 0,.slice none 0 0,ae 0,.slice none 0 0,ae 0,.slice none 0 0,ae 0,.slice none 0 0,ae 0,.slice none 0 0,ae 0,.slice none 0 0,ae 0,.slice none 0 0,ae 0,.slice none 0 0,ae 0,.slice none 0 0,ae 0,.slice none 0 0,ae 0,.slice none 0 0,ae 0,.slice none 0 0,ae 0,.slice none 0 0,ae 0,.slice none 0 0,ae 0,.slice none 0 0,ae 0,.slice none 0 0,ae 0,.slice none 0 0,ae 0,.slice none 0 0,ae 0,.slice none 0 0,ae 0,.slice none 0 0,ae 0,.slice none 0 0,ae 0,.slice none 0 0,ae 0,.slice none 0 0,ae 0,.slice none 0 0,ae 0,.slice none 0 0,ae 0,.slice none 0 0,ae 0,.slice none 0 0,ae 0,.slice none 0 0,ae 0,.slice none 0 0,ae 0,.slice none 0 0,ae 0,.slice none 0 0,ae 0,.slice none 0 0,ae 0,.slice none 0 0,ae 0,.slice none 0 0,ae 0,.slice none 0 0,ae 0,.slice none 0 0,ae 0,.slice none 0 0,ae 0,.slice none 0 0,ae 0,.slice none 0 0,ae 0,.slice none 0 0,ae 0,.slice none 0 0,ae 0,.slice none 0 0,ae 0,.slice none 0 0,ae 0,.slice none 0 0,ae 0,.slice none 0 0,ae 0,.slice none 0 0,ae 0,.slice none 0 0,ae 0,.slice none 0 0,ae 0,.slice none 0 0,ae 0,.slice none 0 0,ae 0,.slice none 0 0,ae 0,.slice none 0 0,ae 0,.slice none 0 0,ae 0,.slice none 0 0,ae 0,.slice none 0 0,ae 0,.slice none 0 0,ae 0,.slice none 0 0,ae 0,.slice none 0 0,ae 0,.slice none 0 0,ae 0,.slice none 0 0,ae 0,.slice none 0 0,ae 0,.slice none 0 0,ae 0,.slice none 0 0,ae 0,.slice none 0 0,ae 0,.slice none 0 0,ae 0,.slice none 0 0,ae 0,.slice none 0 0,ae 0,.slice none 0 0,ae 0,.slice none 0 0,ae 0,.slice none 0 0,ae 0] 388 w λb w=>Q (some b) w))) (ok 12) [] [] Tryz.func234
def lJ (Q:L3 WP)(R8:L3 (Int->WP))(a:OA)(b c:Nat)(d:Int)(w:World):Prop:=cond (decide (d<(b:Int))) (bR a b c 1 (some d) none λe f g=>bR a b c 1 none (some d) λi j l=>cD P #[29,29] 3 (.slice e f g) (.slice i j l) w.drew λm w=>R8 a b c (IntKind.wrap .i64 (d+m)) w) (Q a b c w)
def lK (Q:L3 WP):Nat->L3 (Int->WP)
 |0,_,_,_,_,_=>False
 |k+1,a,b,c,d,w=>lJ Q (lK Q k) a b c d w
def uu (Q:L3 WP)(a:OA)(b c:Nat)(d:Int)(w:World):Prop:=False
noncomputable def sV:cv:=[(9,sp 0 7 (.op 7 (.op 8 (.op 9 .done))))]
def Bh (Q):∀k,Bk 48 Tryz.f235 (ug Q) 8 [(7,.l),(8,.i .i64)] (lK Q k):=bM λk h=>aT (ok 48) sV [aM h]
def Kh (Q):Bk 48 Tryz.f235 (ug Q) 5 [(0,.l),(6,.i .u64)] (uu Q):=aT (ok 48) sV [cu (Bh Q)]
def IZ:=λa b c d w Q=>bB (j_ a b c d w Q) (cond (decide (d<0)) (False) (qy (IntKind.wrap .u64 (b:Int)) (IntKind.wrap .u64 d) w λe f w=>cond (decide (e>0)) (uu Q a b c f w) (cond (decide (f>9223372036854775807)) (uu Q a b c f w) (cy P 29 (ae (IntKind.wrap .i64 f)) (ae (IntKind.wrap .i64 f)) w λg i j w=>cD P #[29,29] 3 (.slice g i j) (.slice a b c) w λl w=>∃k',lK Q k' g i j l w)))) (ok 48) sV [aM (Kh Q),cu (Bh Q)] Tryz.func235
def Ue:=λa w Q=>bB (qB a w Q) (cond a.isNone (Q 0 w) (wA a λb=>af .i64 (b.add 1) w λc=>Q c w)) (ok 9) [] [] Tryz.func260
def RV:=λa b w Q=>bB (z_ a b w Q) (cond a.isNone (Q false w) (wA a λc=>af .i64 (c.add 1) w λd=>cond (decide (d>0)) (Q false w) (wA a λe=>af .i64 e w λf=>cond (decide (b<f)) (Q false w) (cond (decide (b>1099511627776)) (Q false w) (wA a λg=>St g (ae b) w λw=>Q true w))))) (ok 30) [] [] Tryz.func272
def P_:=λa b w Q=>bB (yZ a b w Q) (wA a λc=>aA c w λd e f=>Bx [ae b] 3 w λg w=>App P #[29,29] 29 (.slice d e f) (.slice (some g) 1 1) w λi j l w=>wA a λm=>St m (.slice i j l) w λw=>Q w) (ok 14) [] [] Tryz.func282
def Uf:=λa b c w Q=>bB (vH a b c w Q) (cond a.isNone (Q false w) (wA a λd=>af .i64 d w λe=>cond (decide (b<e)) (Q false w) (wA a λf=>af .i64 f w λg=>cond (decide ((IntKind.wrap .i64 (b-g))≥256)) (Q false w) (NZ 256<|wA a λi=>aK (Int.tmod b 256) 256<|yZ (some ((i.add 2).add (((Int.tmod b 256)).toNat*2))) c w λw=>wA a λj=>af .i64 (j.add 1) w λl=>wA a λm=>St (m.add 1) (ae (IntKind.wrap .i64 (l+1))) w λw=>Q true w)))) (ok 41) [] [] Tryz.func273
def xX (Q:WP)(R2:OA->WP)(a:OA)(w:World):Prop:=wA a λb=>aA (b.add 4) w.drew λc d e=>cond (decide ((d:Int)>0)) (wA a λf=>bg (f.add 3) w.drew λg=>wA a λi=>aA (i.add 4) w.drew λj l m=>aK 0 l<|wA j λn=>af .i64 ((n.add (((0:Int).toNat)*3)).add 2) w.drew λo=>wA a λp=>aA (p.add 4) w.drew λq r s=>aK 0 r<|wA q λt=>af .i64 (t.add (((0:Int).toNat)*3)) w.drew λu=>vH g o u w.drew λv w=>cond v (wA a λx=>aA (x.add 4) w λy z a1=>bR y z a1 3 (some 1) none λb1 c1 d1=>wA a λe1=>St (e1.add 4) (.slice b1 c1 d1) w λw=>R2 a w) (Q w)) (Q w.drew)
def gA (Q:WP):Nat->OA->WP
 |0,_,_=>False
 |k+1,a,w=>xX Q (gA Q k) a w
noncomputable def Dk:cv:=[(1,sp 0 11 (.op 11 .done)),(2,sp 0 25 (.op 25 (.op 26 .done)))]
def Oq (Q):∀k,Bk 63 Tryz.f259 (DY Q) 2 [(0,.p)] (gA Q k):=bM λk h=>aT (ok 63) Dk [aM h]
def Lg:=λa w Q=>bB (jM a w Q) (wA a λb=>aA (b.add 4) w λc d e=>cond (decide ((d:Int)>0)) (wA a λf=>bg (f.add 3) w λg=>qB g w λi w=>cond (i==0) (wA a λj=>bg (j.add 3) w.drew λl=>wA a λm=>aA (m.add 4) w.drew λn o p=>aK 0 o<|wA n λq=>af .i64 ((q.add (((0:Int).toNat)*3)).add 2) w.drew λr=>z_ l r w.drew λs w=>∃k',gA Q k' a w) (∃k',gA Q k' a w)) (∃k',gA Q k' a w)) (ok 63) Dk [cu (Oq Q)] Tryz.func259
noncomputable def Ot:cv:=[(1,sp 0 10 (.op 10 .done))]
def MD:=λa w Q=>bB (qv a w Q) (wA a λb=>af .i64 (b.add 1) w.drew λc=>wA a λd=>aA d w.drew λe f g=>Q (c==(f:Int)) w.drew) (ok 13) Ot [] Tryz.func274
noncomputable def RW:cv:=[(1,sp 0 10 (.op 10 .done))]
def Qa:=λa w Q=>bB (yX a w Q) (wA a λb=>aA b w.drew λc d e=>wA a λf=>af .i64 (f.add 1) w.drew λg=>aK g d<|wA c λi=>af .i64 (i.add (g.toNat*1)) w.drew λj=>wA a λl=>af .i64 (l.add 1) w.drew λm=>wA a λn=>St (n.add 1) (ae (IntKind.wrap .i64 (m+1))) w.drew λw=>qv a w λo w=>cond o (wA a λp=>aA p w λq r s=>bR q r s 1 none (some 0) λt u v=>wA a λx=>St x (.slice t u v) w λw=>wA a λy=>St (y.add 1) (ae 0) w λw=>Q j w) (Q j w)) (ok 35) RW [] Tryz.func275
def DI (Q:Int->Int->Bool->WP)(R3:OA->WP)(a:OA)(w:World):Prop:=wA a λb=>af .i64 b w.drew λc=>NZ 256<|wA a λd=>aK (Int.tmod c 256) 256<|qv (some ((d.add 2).add (((Int.tmod c 256)).toNat*2))) w.drew λe w=>cond e (wA a λf=>af .i64 f w λg=>wA a λi=>St i (ae (IntKind.wrap .i64 (g+1))) w λw=>R3 a w) (wA a λj=>af .i64 (j.add 1) w λl=>wA a λm=>St (m.add 1) (ae (IntKind.wrap .i64 (l-1))) w λw=>wA a λn=>af .i64 n w.drew λo=>wA a λp=>af .i64 p w.drew λq=>NZ 256<|wA a λr=>aK (Int.tmod q 256) 256<|yX (some ((r.add 2).add (((Int.tmod q 256)).toNat*2))) w.drew λs w=>w.cell? n=some (ae o)/\Q o s true w)
def pT (Q:Int->Int->Bool->WP):Nat->OA->WP
 |0,_,_=>False
 |k+1,a,w=>DI Q (pT Q k) a w
noncomputable def I0:cv:=[(3,sp 0 9 (.op 9 .done)),(6,sp 0 13 (.op 13 (.op 14 (.op 15 (.op 16 .done)))))]
def XM (Q):∀k,Bk 46 Tryz.f261 (JV Q) 3 [(0,.p)] (pT Q k):=bM λk h=>aT (ok 46) I0 [aM h]
def Ug:=λa w Q=>bB (AZ a w Q) (qB a w λb w=>cond (b==0) (Q 0 0 false w) (∃k',pT Q k' a w)) (ok 46) I0 [cu (XM Q)] Tryz.func261
def Ki:=λa b c w Q=>bB (iA a b c w Q) (wA a λd=>aA (d.add 2) w λe f g=>aK b f<|wA e λi=>af .u8 (i.add (b.toNat*1)) w λj=>cond (j !=255) (wA a λl=>aA (l.add 5) w λm n o=>aK b n<|wA m λp=>af .i64 (p.add (b.toNat*1)) w λq=>cond (q==1099511627776) (wA a λr=>bg (r.add 3) w λs=>vH s c b w λt w=>Q w) (Q w)) (Q w)) (ok 32) [] [] Tryz.func276
def mj (Q:WP)(a:OA)(b c d:Int)(w:World):Prop:=cond (decide (d>0)) (iA a (IntKind.wrap .i64 (b-1)) c w λw=>Q w) (Q w)
def pF (Q:WP)(a:OA)(b c d e:Int)(w:World):Prop:=wA a λf=>af .i64 (f.add 1) w λg=>cond (decide (e<(IntKind.wrap .i64 (g-1)))) (wA a λi=>af .i64 i w λj=>iA a (IntKind.wrap .i64 (b+j)) c w λw=>mj Q a b c d w) (mj Q a b c d w)
def pG (Q:WP)(a:OA)(b c d e:Int)(w:World):Prop:=wA a λf=>af .i64 f w λg=>cond (decide (d<(IntKind.wrap .i64 (g-1)))) (iA a (IntKind.wrap .i64 (b+1)) c w λw=>pF Q a b c d e w) (pF Q a b c d e w)
noncomputable def oR:cv:=[(0,sp 0 17 (.op 17 .done)),(1,sp 0 14 (.op 14 (.op 15 .done)))]
def Lh (Q):Bk 88 Tryz.f262 (pB Q) 8 [(0,.p),(1,.i .i64),(4,.i .i64),(5,.i .i64)] (mj Q):=aT (ok 88) oR []
def Lj (Q):Bk 88 Tryz.f262 (pB Q) 6 [(0,.p),(1,.i .i64),(4,.i .i64),(5,.i .i64),(6,.i .i64)] (pF Q):=aT (ok 88) oR [aM (Lh Q)]
def Ll (Q):Bk 88 Tryz.f262 (pB Q) 4 [(0,.p),(1,.i .i64),(4,.i .i64),(5,.i .i64),(6,.i .i64)] (pG Q):=aT (ok 88) oR [aM (Lj Q)]
def JG:=λa b w Q=>bB (sR a b w Q) (wA a λc=>aA (c.add 5) w.drew λd e f=>aK b e<|wA d λg=>af .i64 (g.add (b.toNat*1)) w.drew λi=>wA a λj=>aA (j.add 2) w.drew λl m n=>aK b m<|wA l λo=>af .u8 (o.add (b.toNat*1)) w.drew λp=>wA a λq=>af .i64 q w.drew.drew λr=>NZ r<|wA a λs=>af .i64 s w.drew.drew λt=>NZ t<|w.drew.drew.cell? s=some (ae t)/\cond (decide ((IntKind.wrap .i64 (Int.tdiv b t))>0)) (wA a λu=>af .i64 u w.drew.drew λv=>iA a (IntKind.wrap .i64 (b-v)) (IntKind.wrap .i64 (i+(IntKind.wrap .i64 p))) w.drew.drew λw=>pG Q a b (IntKind.wrap .i64 (i+(IntKind.wrap .i64 p))) (Int.tmod b r) (IntKind.wrap .i64 (Int.tdiv b t)) w) (pG Q a b (IntKind.wrap .i64 (i+(IntKind.wrap .i64 p))) (Int.tmod b r) (IntKind.wrap .i64 (Int.tdiv b t)) w.drew.drew)) (ok 88) oR [aM (Ll Q)] Tryz.func262
def zh (Q:WP)(R1:OA->WP)(a:OA)(w:World):Prop:=wA a λb=>bg (b.add 3) w λc=>qB c w λd w=>cond (decide (d>0)) (wA a λe=>bg (e.add 3) w λf=>AZ f w λg i j w=>wA a λl=>aA (l.add 5) w λm n o=>aK i n<|wA m λp=>af .i64 (p.add (i.toNat*1)) w λq=>cond (q==1099511627776) (wA a λr=>aA (r.add 5) w λs t u=>aK i t<|wA s λv=>St (v.add (i.toNat*1)) (ae g) w λw=>sR a i w λw=>jM a w λw=>R1 a w) (jM a w λw=>R1 a w)) (Q w)
def jO (Q:WP):Nat->OA->WP
 |0,_,_=>False
 |k+1,a,w=>zh Q (jO Q k) a w
def Qb (Q):∀k,Bk 42 Tryz.f236 (Fo Q) 1 [(0,.p)] (jO Q k):=bM λk h=>aT (ok 42) [] [aM h]
def ME:=λa w Q=>bB (Dg a w Q) (jM a w λw=>∃k',jO Q k' a w) (ok 42) [] [cu (Qb Q)] Tryz.func236
def qU (Q:L3 (Int->WP))(a:Addr)(w:World):Prop:=Dg (some a) w λw=>aA (a.add 5) w λb c d=>Q b c d 0 w
noncomputable def JX:cv:=[(3,.op 0 (.op 2 (sp 5 3 (.br (.op 1 (.br (.op 3 (.op 4 (.op 8 (.op 9 (.op 10 (.op 11 .done)))))) (.op 4 (.op 3 (.op 8 (.op 9 (.op 10 (.op 11 .done)))))))) (.op 4 (.op 1 (.op 3 (.op 8 (.op 9 (.op 10 (.op 11 .done)))))))))))]
def Zr (Q):Bk 28 Tryz.f216 (Lb Q) 4 [(6,.a)] (qU Q):=aT (ok 28) JX []
def Vv:=λa b c d e f g i w Q=>bB (w_ a b c d e f g i w Q) (Bx [ae a,ae b,.slice c d e] 84 w λj w=>af .i64 (j.add 0) w λl=>af .i64 (j.add 1) w λm=>aA (j.add 2) w λn o p=>Be l m n o p f g i w λq w=>cond (!q) (Q none 0 0 1 w) (af .i64 (j.add 0) w.drew λr=>af .i64 (j.add 1) w.drew λs=>aA (j.add 2) w.drew λt u v=>aA (j.add 2) w.drew λx y z=>(CM 0 w.drew λa1 w=>w.cell? (j.add 2)=some (.slice x y z)/\w.cell? (j.add 0)=some (ae r)/\w.cell? (j.add 1)=some (ae s)/\w.cell? (j.add 2)=some (.slice t u v)/\(kC f g i w λb1 c1 d1 w=>w.cell? (j.add 2)=some (.slice x y z)/\w.cell? (j.add 0)=some (ae r)/\w.cell? (j.add 1)=some (ae s)/\w.cell? (j.add 2)=some (.slice t u v)/\Bx [ae 1099511627776] 3 w λe1 w=>w.cell? (j.add 2)=some (.slice x y z)/\w.cell? (j.add 0)=some (ae r)/\w.cell? (j.add 1)=some (ae s)/\w.cell? (j.add 2)=some (.slice t u v)/\j_ (some e1) 1 1 (y:Int) w λf1 g1 i1 w=>w.cell? (j.add 0)=some (ae r)/\w.cell? (j.add 1)=some (ae s)/\w.cell? (j.add 2)=some (.slice t u v)/\Bx [ae r,ae s,.slice t u v,.pointer a1,.slice b1 c1 d1,.slice f1 g1 i1] 363 w λj1 w=>qU Q j1 w)/\(Bx [ae 1099511627776] 3 w λl1 w=>w.cell? (j.add 2)=some (.slice x y z)/\w.cell? (j.add 0)=some (ae r)/\w.cell? (j.add 1)=some (ae s)/\w.cell? (j.add 2)=some (.slice t u v)/\kC f g i w λm1 n1 o1 w=>w.cell? (j.add 2)=some (.slice x y z)/\w.cell? (j.add 0)=some (ae r)/\w.cell? (j.add 1)=some (ae s)/\w.cell? (j.add 2)=some (.slice t u v)/\j_ (some l1) 1 1 (y:Int) w λp1 q1 r1 w=>w.cell? (j.add 0)=some (ae r)/\w.cell? (j.add 1)=some (ae s)/\w.cell? (j.add 2)=some (.slice t u v)/\Bx [ae r,ae s,.slice t u v,.pointer a1,.slice m1 n1 o1,.slice p1 q1 r1] 363 w λs1 w=>qU Q s1 w))/\(Bx [ae 1099511627776] 3 w.drew λt1 w=>w.cell? (j.add 2)=some (.slice x y z)/\w.cell? (j.add 0)=some (ae r)/\w.cell? (j.add 1)=some (ae s)/\w.cell? (j.add 2)=some (.slice t u v)/\CM 0 w λu1 w=>w.cell? (j.add 2)=some (.slice x y z)/\w.cell? (j.add 0)=some (ae r)/\w.cell? (j.add 1)=some (ae s)/\w.cell? (j.add 2)=some (.slice t u v)/\kC f g i w λv1 x1 y1 w=>w.cell? (j.add 2)=some (.slice x y z)/\w.cell? (j.add 0)=some (ae r)/\w.cell? (j.add 1)=some (ae s)/\w.cell? (j.add 2)=some (.slice t u v)/\j_ (some t1) 1 1 (y:Int) w λz1 a2 b2 w=>w.cell? (j.add 0)=some (ae r)/\w.cell? (j.add 1)=some (ae s)/\w.cell? (j.add 2)=some (.slice t u v)/\Bx [ae r,ae s,.slice t u v,.pointer u1,.slice v1 x1 y1,.slice z1 a2 b2] 363 w λc2 w=>qU Q c2 w))) (ok 28) JX [aM (Zr Q)] Tryz.func216
def adq:=λa b c d e f w Q=>bB (HJ a b c d e f w Q) (Bx [ae a,ae b,.slice c d e] 84 w λg w=>af .i64 (g.add 0) w λi=>af .i64 (g.add 1) w λj=>aA (g.add 2) w λl m n=>Bx [ae f,ae 4,ae 0] 294 w λo w=>w_ i j l m n (some o) 1 1 w λp q r s w=>Q p q r s w) (ok 13) [] [] Tryz.func255
def xj (P6:L3 (Addr->Int->L3 (L3 (Int->Int->WP))))(Q:L3 (Int->WP))(R10:L3 (Addr->Int->L3 (Int->L3 (L3 (Int->Int->L3 (Int->Int->WP))))))(a:OA)(b c:Nat)(d:Addr)(e:Int)(f:OA)(g i:Nat)(j:Int)(l:OA)(m n:Nat)(o:OA)(p q:Nat)(r s:Int)(t:OA)(u v:Nat)(x y:Int)(w:World):Prop:=cond (decide (y<x)) (aK y u<|wA t λz=>af .i64 (z.add (y.toNat*1)) w λa1=>aK a1 m<|wA l λb1=>af .i64 (b1.add (a1.toNat*1)) w λc1=>aK (IntKind.wrap .i64 ((IntKind.wrap .i64 (y*e))+j)) g<|wA f λd1=>St (d1.add (((IntKind.wrap .i64 ((IntKind.wrap .i64 (y*e))+j))).toNat*1)) (ae c1) w λw=>R10 a b c d e f g i j l m n o p q r s t u v x (IntKind.wrap .i64 (y+1)) w) (P6 a b c d e f g i o p q r (IntKind.wrap .i64 (s+1)) w)
def su (P6:L3 (Addr->Int->L3 (L3 (Int->Int->WP))))(Q:L3 (Int->WP)):Nat->L3 (Addr->Int->L3 (Int->L3 (L3 (Int->Int->L3 (Int->Int->WP)))))
 |0=>λ_ _ _ _ _ _ _ _ _ _ _ _ _ _ _ _ _ _ _ _ _ _ _=>False
 |k+1=>λa b c d e f g i j l m n o p q r s t u v x y w=>xj P6 Q (su P6 Q k) a b c d e f g i j l m n o p q r s t u v x y w
def zi (Q:L3 (Int->WP))(R6:L3 (Addr->Int->L3 (L3 (Int->Int->WP))))(a:OA)(b c:Nat)(d:Addr)(e:Int)(f:OA)(g i:Nat)(j:OA)(l m:Nat)(n o:Int)(w:World):Prop:=cond (decide (o<n)) (aK o l<|wA j λp=>af .i64 (p.add (o.toNat*1)) w λq=>af .i64 (d.add 0) w λr=>af .i64 (d.add 1) w λs=>aA (d.add 2) w λt u v=>HJ r s t u v q w λx y z a1 w=>∃k',su R6 Q k' a b c d e f g i o x y z j l m n o a b c (b:Int) 0 w) (Q f g i 0 w)
def qV (Q:L3 (Int->WP)):Nat->L3 (Addr->Int->L3 (L3 (Int->Int->WP)))
 |0,_,_,_,_,_,_,_,_,_,_,_,_,_,_=>False
 |k+1,a,b,c,d,e,f,g,i,j,l,m,n,o,w=>zi Q (qV Q k) a b c d e f g i j l m n o w
def abf {P6}(Q)(H6:Bk 58 Tryz.f227 (CL Q) 6 [(1,.l),(2,.a),(6,.i .i64),(7,.l),(24,.l),(25,.i .i64),(26,.i .i64)] P6):∀k,Bk 58 Tryz.f227 (CL Q) 10 [(1,.l),(2,.a),(6,.i .i64),(7,.l),(8,.i .i64),(10,.l),(24,.l),(25,.i .i64),(26,.i .i64),(37,.l),(38,.i .i64),(39,.i .i64)] (su P6 Q k):=bM λk h=>aT (ok 58) [] [aM H6,aM h]
def adr (Q):∀k,Bk 58 Tryz.f227 (CL Q) 6 [(1,.l),(2,.a),(6,.i .i64),(7,.l),(24,.l),(25,.i .i64),(26,.i .i64)] (qV Q k):=bM λk h=>aT (ok 58) [] [cu (abf Q h)]
def Zs:=λa b c d e f g i w Q=>bB (EX a b c d e f g i w Q) (Bx [ae a,ae b,.slice c d e] 84 w λj w=>af .i64 (j.add 0) w λl=>af .i64 (j.add 1) w λm=>aA (j.add 2) w λn o p=>Gg l m n o p f g i w λq w=>cond (!q) (Q none 0 0 1 w) (cy P 29 (ae (IntKind.wrap .i64 ((g:Int)*(g:Int)))) (ae (IntKind.wrap .i64 ((g:Int)*(g:Int)))) w λr s t w=>∃k',qV Q k' f g i j (g:Int) r s t f g i (g:Int) 0 w)) (ok 58) [] [cu (adr Q)] Tryz.func227
def qD (Q:Int->L3 (L3 WP))(R13:Addr->Addr->L3 (Int->Int->WP))(a b:Addr)(c:OA)(d e:Nat)(f g:Int)(w:World):Prop:=cond (decide (g<f)) (aK g d<|wA c λi=>af .i64 (i.add (g.toNat*1)) w λj=>aA (b.add 2) w λl m n=>aK g m<|wA l λo=>St (o.add (g.toNat*1)) (.int .i32 (-1)) w λw=>cond (j !=1099511627776) (aA (b.add 2) w λp q r=>aK g q<|wA p λs=>St (s.add (g.toNat*1)) (.int .i32 (IntKind.wrap .i32 j)) w λw=>R13 a b c d e f (IntKind.wrap .i64 (g+1)) w) (R13 a b c d e f (IntKind.wrap .i64 (g+1)) w)) (af .i64 (b.add 0) w λt=>aA (b.add 1) w λu v x=>aA (b.add 2) w λy z a1=>St (a.add 0) (ae t) w λw=>St (a.add 1) (.slice u v x) w λw=>St (a.add 2) (.slice y z a1) w λw=>af .i64 (a.add 0) w λb1=>aA (a.add 1) w λc1 d1 e1=>aA (a.add 2) w λf1 g1 i1=>Q b1 c1 d1 e1 f1 g1 i1 w)
def lD (Q:Int->L3 (L3 WP)):Nat->Addr->Addr->L3 (Int->Int->WP)
 |0,_,_,_,_,_,_,_,_=>False
 |k+1,a,b,c,d,e,f,g,w=>qD Q (lD Q k) a b c d e f g w
def rN (Q:Int->L3 (L3 WP))(R6:Addr->Int->Int->Addr->Addr->L3 (L3 (Int->Int->WP)))(a:Addr)(b c:Int)(d e:Addr)(f:OA)(g i:Nat)(j:OA)(l m:Nat)(n o:Int)(w:World):Prop:=cond (decide (o<n)) (aK o l<|wA j λp=>af .i64 (p.add (o.toNat*1)) w λq=>nh b c q w λr w=>Bx [ae r] 3 w λs w=>App P #[29,29] 29 (.slice f g i) (.slice (some s) 1 1) w λt u v w=>R6 a b c d e t u v j l m n (IntKind.wrap .i64 (o+1)) w) (af .i64 (d.add 0) w λx=>af .i64 (d.add 1) w λy=>aA (d.add 2) w λz a1 b1=>EX x y z a1 b1 f g i w λc1 d1 e1 f1 w=>cy P 296 (ae (d1:Int)) (ae (d1:Int)) w λg1 i1 j1 w=>St (e.add 2) (.slice g1 i1 j1) w λw=>∃k',lD Q k' a e c1 d1 e1 (d1:Int) 0 w)
def ox (Q:Int->L3 (L3 WP)):Nat->Addr->Int->Int->Addr->Addr->L3 (L3 (Int->Int->WP))
 |0,_,_,_,_,_,_,_,_,_,_,_,_,_,_=>False
 |k+1,a,b,c,d,e,f,g,i,j,l,m,n,o,w=>rN Q (ox Q k) a b c d e f g i j l m n o w
def rO (Q:Int->L3 (L3 WP))(a:Addr)(b c:Int)(d e:Addr)(w:World):Prop:=aA (e.add 1) w λf g i=>∃k',ox Q k' a b c d e none 0 0 f g i (g:Int) 0 w
noncomputable def vM:cv:=[(3,sp 0 5 (sp 6 5 (.br (.op 5 (.br (.op 11 (.op 12 (.op 13 (.op 14 .done)))) (.op 13 (.op 11 (.op 12 (.op 14 .done)))))) (.op 13 (.op 5 (.op 11 (.op 12 (.op 14 .done))))))))]
def Uh (Q):∀k,Bk 93 Tryz.f200 (w8 Q) 13 [(4,.a),(9,.a),(72,.l),(73,.i .i64),(74,.i .i64)] (lD Q k):=bM λk h=>aT (ok 93) vM [aM h]
def Vw (Q):∀k,Bk 93 Tryz.f200 (w8 Q) 6 [(4,.a),(5,.i .i64),(6,.i .i64),(7,.a),(9,.a),(10,.l),(48,.l),(49,.i .i64),(50,.i .i64)] (ox Q k):=bM λk h=>aT (ok 93) vM [aM h,cu (Uh Q)]
def Vx (Q):Bk 93 Tryz.f200 (w8 Q) 4 [(4,.a),(5,.i .i64),(6,.i .i64),(7,.a),(9,.a)] (rO Q):=aT (ok 93) vM [cu (Vw Q)]
def RX:=λa b w Q=>bB (zZ a b w Q) (Al T 319 w λc w=>wA a λd=>bg d w λe=>eN e w λf g w=>wA a λi=>bg i w λj=>tV j b w λl m n o p q w=>Al T 84 w λr w=>St (r.add 0) (ae l) w λw=>St (r.add 1) (ae m) w λw=>St (r.add 2) (.slice n o p) w λw=>wA a λs=>bg s w.drew λt=>wA a λu=>bg u w.drew λv=>(i_ t b w.drew λx w=>w.cell? u=some (.pointer v)/\(om v b w λy z a1 w=>Al T 319 w λb1 w=>w.cell? u=some (.pointer v)/\w.cell? s=some (.pointer t)/\St (b1.add 0) (ae x) w λw=>St (b1.add 1) (.slice y z a1) w λw=>St (b1.add 2) (.slice none 0 0) w λw=>rO Q c f g r b1 w)/\(Al T 319 w λc1 w=>w.cell? u=some (.pointer v)/\w.cell? s=some (.pointer t)/\om v b w λd1 e1 f1 w=>St (c1.add 0) (ae x) w λw=>St (c1.add 1) (.slice d1 e1 f1) w λw=>St (c1.add 2) (.slice none 0 0) w λw=>rO Q c f g r c1 w))/\(Al T 319 w.drew λg1 w=>w.cell? u=some (.pointer v)/\w.cell? s=some (.pointer t)/\i_ t b w λi1 w=>w.cell? u=some (.pointer v)/\om v b w λj1 l1 m1 w=>St (g1.add 0) (ae i1) w λw=>St (g1.add 1) (.slice j1 l1 m1) w λw=>St (g1.add 2) (.slice none 0 0) w λw=>rO Q c f g r g1 w)) (ok 93) vM [aM (Vx Q)] Tryz.func200
def oy (Q:Int->WP)(R5:OA->L3 (L3 (Int->Int->WP)))(a b:OA)(c d:Nat)(e:OA)(f g:Nat)(i j:Int)(w:World):Prop:=cond (decide (j<i)) (aK j f<|wA e λl=>af .i64 (l.add (j.toNat*1)) w λm=>wA a λn=>aA (n.add 1) w.drew λo p q=>zZ a m w.drew λr s t u v x y w=>w.cell? (n.add 1)=some (.slice o p q)/\(aK m p<|wA o λz=>St ((z.add (m.toNat*3)).add 0) (ae r) w λw=>St ((z.add (m.toNat*3)).add 1) (.slice s t u) w λw=>St ((z.add (m.toNat*3)).add 2) (.slice v x y) w λw=>wA a λa1=>af .u64 (a1.add 3) w λb1=>r6 b1 1 w λc1 w=>wA a λd1=>St (d1.add 3) (.int .u64 c1) w λw=>R5 a b c d e f g i (IntKind.wrap .i64 (j+1)) w)) (wA a λe1=>bg e1 w λf1=>f_ f1 w λg1 w=>wA a λi1=>St (i1.add 2) (ae g1) w λw=>Q (c:Int) w)
def lX (Q:Int->WP):Nat->OA->L3 (L3 (Int->Int->WP))
 |0,_,_,_,_,_,_,_,_,_,_=>False
 |k+1,a,b,c,d,e,f,g,i,j,w=>oy Q (lX Q k) a b c d e f g i j w
noncomputable def D4:cv:=[(7,sp 0 7 (.op 7 (.op 8 (.op 9 .done))))]
def Qc (Q):∀k,Bk 44 Tryz.f177 (Fm Q) 5 [(0,.p),(3,.l),(10,.l),(11,.i .i64),(12,.i .i64)] (lX Q k):=bM λk h=>aT (ok 44) D4 [aM h]
def MF:=λa w Q=>bB (wB a w Q) (cond a.isNone (Q 0 w) (yU a w λb c d w=>∃k',lX Q k' a b c d b c d (c:Int) 0 w)) (ok 44) D4 [cu (Qc Q)] Tryz.func177
def jz (Q:L3 WP)(R8:L3 (Int->WP))(a:OA)(b c:Nat)(d:Int)(w:World):Prop:=cond (decide (d<(b:Int))) (bR a b c 1 (some d) none λe f g=>bR a b c 1 none (some d) λi j l=>cD P #[296,296] 3 (.slice e f g) (.slice i j l) w.drew λm w=>R8 a b c (IntKind.wrap .i64 (d+m)) w) (Q a b c w)
def jA (Q:L3 WP):Nat->L3 (Int->WP)
 |0,_,_,_,_,_=>False
 |k+1,a,b,c,d,w=>jz Q (jA Q k) a b c d w
def qg (Q:L3 WP)(a:OA)(b c:Nat)(d:Int)(w:World):Prop:=False
noncomputable def pH:cv:=[(9,sp 0 7 (.op 7 (.op 8 (.op 9 .done))))]
def x8 (Q):∀k,Bk 48 Tryz.f201 (qf Q) 8 [(7,.l),(8,.i .i64)] (jA Q k):=bM λk h=>aT (ok 48) pH [aM h]
def G5 (Q):Bk 48 Tryz.f201 (qf Q) 5 [(0,.l),(6,.i .u64)] (qg Q):=aT (ok 48) pH [cu (x8 Q)]
def FR:=λa b c d w Q=>bB (oV a b c d w Q) (cond (decide (d<0)) (False) (qy (IntKind.wrap .u64 (b:Int)) (IntKind.wrap .u64 d) w λe f w=>cond (decide (e>0)) (qg Q a b c f w) (cond (decide (f>9223372036854775807)) (qg Q a b c f w) (cy P 296 (ae (IntKind.wrap .i64 f)) (ae (IntKind.wrap .i64 f)) w λg i j w=>cD P #[296,296] 3 (.slice g i j) (.slice a b c) w λl w=>∃k',jA Q k' g i j l w)))) (ok 48) pH [aM (G5 Q),cu (x8 Q)] Tryz.func201
def ads:=λw Q=>bB (CK w Q) (Bx [.slice none 0 0] 351 w λa w=>Q (some a) w) (ok 3) [] [] Tryz.func202
def Qd:=λa b c d w Q=>bB (sj a b c d w Q) (Bx [ae a,ae b] 353 w λe w=>Bx [ae c,ae d] 353 w λf w=>af .i64 e w λg=>af .i64 f w λi=>cond (decide (g<i)) (Q true w) (af .i64 e w λj=>af .i64 f w λl=>cond (j==l) (af .i64 (e.add 1) w λm=>af .i64 (f.add 1) w λn=>Q (decide (m<n)) w) (Q false w))) (ok 24) [] [] Tryz.func256
def vk (Q:WP)(R1:OA->Int->WP)(a:OA)(b:Int)(w:World):Prop:=cond (decide (b>0)) (NZ 2<|wA a λc=>aA c w.drew λd e f=>aK b e<|wA d λg=>af .i64 ((g.add (b.toNat*2)).add 0) w.drew λi=>af .i64 ((g.add (b.toNat*2)).add 1) w.drew λj=>wA a λl=>aA l w.drew λm n o=>aK (IntKind.wrap .i64 (Int.tdiv (IntKind.wrap .i64 (b-1)) 2)) n<|wA m λp=>af .i64 ((p.add (((IntKind.wrap .i64 (Int.tdiv (IntKind.wrap .i64 (b-1)) 2))).toNat*2)).add 0) w.drew λq=>af .i64 ((p.add (((IntKind.wrap .i64 (Int.tdiv (IntKind.wrap .i64 (b-1)) 2))).toNat*2)).add 1) w.drew λr=>sj i j q r w.drew λs w=>cond (!s) (Q w) (wA a λt=>aA t w.drew λu v x=>wA a λy=>aA y w.drew λz a1 b1=>wA a λc1=>aA c1 w.drew λd1 e1 f1=>aK (IntKind.wrap .i64 (Int.tdiv (IntKind.wrap .i64 (b-1)) 2)) e1<|wA d1 λg1=>af .i64 ((g1.add (((IntKind.wrap .i64 (Int.tdiv (IntKind.wrap .i64 (b-1)) 2))).toNat*2)).add 0) w.drew λi1=>af .i64 ((g1.add (((IntKind.wrap .i64 (Int.tdiv (IntKind.wrap .i64 (b-1)) 2))).toNat*2)).add 1) w.drew λj1=>wA a λl1=>aA l1 w.drew λm1 n1 o1=>aK b n1<|wA m1 λp1=>af .i64 ((p1.add (b.toNat*2)).add 0) w.drew λq1=>af .i64 ((p1.add (b.toNat*2)).add 1) w.drew λr1=>aK b v<|wA u λs1=>St ((s1.add (b.toNat*2)).add 0) (ae i1) w.drew λw=>St ((s1.add (b.toNat*2)).add 1) (ae j1) w λw=>aK (IntKind.wrap .i64 (Int.tdiv (IntKind.wrap .i64 (b-1)) 2)) a1<|wA z λt1=>St ((t1.add (((IntKind.wrap .i64 (Int.tdiv (IntKind.wrap .i64 (b-1)) 2))).toNat*2)).add 0) (ae q1) w λw=>St ((t1.add (((IntKind.wrap .i64 (Int.tdiv (IntKind.wrap .i64 (b-1)) 2))).toNat*2)).add 1) (ae r1) w λw=>R1 a (IntKind.wrap .i64 (Int.tdiv (IntKind.wrap .i64 (b-1)) 2)) w)) (Q w)
def qW (Q:WP):Nat->OA->Int->WP
 |0,_,_,_=>False
 |k+1,a,b,w=>vk Q (qW Q k) a b w
noncomputable def JY:cv:=[(3,sp 0 14 (.op 14 (.op 15 .done))),(4,sp 0 25 (.op 25 (.op 26 (.op 27 .done))))]
def Zt (Q):∀k,Bk 58 Tryz.f228 (Lc Q) 1 [(0,.p),(2,.i .i64)] (qW Q k):=bM λk h=>aT (ok 58) JY [aM h]
def Vy:=λa w Q=>bB (BZ a w Q) (wA a λb=>aA b w λc d e=>∃k',qW Q k' a (IntKind.wrap .i64 ((d:Int)-1)) w) (ok 58) JY [cu (Zt Q)] Tryz.func228
def RY:=λa b c w Q=>bB (mL a b c w Q) (cond a.isNone (Q w) (wA a λd=>aA d w λe f g=>Bx [ae b,ae c] 353 w λi w=>App P #[349,349] 349 (.slice e f g) (.slice (some i) 1 1) w λj l m w=>wA a λn=>St n (.slice j l m) w λw=>BZ a w λw=>Q w)) (ok 22) [] [] Tryz.func206
def Ui:=λa w Q=>bB (AY a w Q) (cond a.isNone (Q 0 w) (wA a λb=>aA b w λc d e=>Q (d:Int) w)) (ok 10) [] [] Tryz.func257
noncomputable def Vz:cv:=[(3,sp 0 14 (.op 14 (.op 15 (.op 16 .done))))]
def Uj:=λa w Q=>bB (AX a w Q) (AY a w λb w=>cond (b==0) (Q 0 0 false w) (wA a λc=>aA c w.drew λd e f=>aK 0 e<|wA d λg=>af .i64 (g.add (((0:Int).toNat)*2)) w.drew λi=>wA a λj=>aA j w.drew λl m n=>aK 0 m<|wA l λo=>af .i64 ((o.add (((0:Int).toNat)*2)).add 1) w.drew λp=>w.drew.cell? ((o.add (((0:Int).toNat)*2)).add 1)=some (ae p)/\w.drew.cell? j=some (.slice l m n)/\Q i p true w.drew)) (ok 22) Vz [] Tryz.func229
def oz (P1:OA->Int->WP)(Q:WP)(a:OA)(b c:Int)(w:World):Prop:=cond (c==b) (Q w) (wA a λd=>aA d w.drew λe f g=>wA a λi=>aA i w.drew λj l m=>wA a λn=>aA n w.drew λo p q=>aK c p<|wA o λr=>af .i64 ((r.add (c.toNat*2)).add 0) w.drew λs=>af .i64 ((r.add (c.toNat*2)).add 1) w.drew λt=>wA a λu=>aA u w.drew λv x y=>aK b x<|wA v λz=>af .i64 ((z.add (b.toNat*2)).add 0) w.drew λa1=>af .i64 ((z.add (b.toNat*2)).add 1) w.drew λb1=>aK b f<|wA e λc1=>St ((c1.add (b.toNat*2)).add 0) (ae s) w.drew λw=>St ((c1.add (b.toNat*2)).add 1) (ae t) w λw=>aK c l<|wA j λd1=>St ((d1.add (c.toNat*2)).add 0) (ae a1) w λw=>St ((d1.add (c.toNat*2)).add 1) (ae b1) w λw=>P1 a c w)
def mq (P1:OA->Int->WP)(Q:WP)(R3:OA->Int->Int->Int->WP)(a:OA)(b c d:Int)(w:World):Prop:=cond (decide (d<=(IntKind.wrap .i64 ((IntKind.wrap .i64 (2*b))+2)))) (wA a λe=>aA e w λf g i=>cond (decide (d<(g:Int))) (wA a λj=>aA j w.drew λl m n=>aK d m<|wA l λo=>af .i64 ((o.add (d.toNat*2)).add 0) w.drew λp=>af .i64 ((o.add (d.toNat*2)).add 1) w.drew λq=>wA a λr=>aA r w.drew λs t u=>aK c t<|wA s λv=>af .i64 ((v.add (c.toNat*2)).add 0) w.drew λx=>af .i64 ((v.add (c.toNat*2)).add 1) w.drew λy=>sj p q x y w.drew λz w=>cond z (R3 a b d (IntKind.wrap .i64 (d+1)) w) (R3 a b c (IntKind.wrap .i64 (d+1)) w)) (oz P1 Q a b c w)) (oz P1 Q a b c w)
def mu (P1:OA->Int->WP)(Q:WP):Nat->OA->Int->Int->Int->WP
 |0,_,_,_,_,_=>False
 |k+1,a,b,c,d,w=>mq P1 Q (mu P1 Q k) a b c d w
def xk (Q:WP)(R1:OA->Int->WP)(a:OA)(b:Int)(w:World):Prop:=∃k',mu R1 Q k' a b b (IntKind.wrap .i64 ((IntKind.wrap .i64 (2*b))+1)) w
def oA (Q:WP):Nat->OA->Int->WP
 |0,_,_,_=>False
 |k+1,a,b,w=>xk Q (oA Q k) a b w
noncomputable def vN:cv:=[(5,sp 0 14 (.op 14 .done)),(8,sp 0 25 (.op 25 (.op 26 (.op 27 .done))))]
def VA {P1}(Q)(H1:Bk 71 Tryz.f230 (oq Q) 1 [(0,.p),(2,.i .i64)] P1):Bk 71 Tryz.f230 (oq Q) 7 [(0,.p),(2,.i .i64),(3,.i .i64)] (oz P1 Q):=aT (ok 71) vN [aM H1]
def VB {P1}(Q)(H1:Bk 71 Tryz.f230 (oq Q) 1 [(0,.p),(2,.i .i64)] P1):∀k,Bk 71 Tryz.f230 (oq Q) 3 [(0,.p),(2,.i .i64),(3,.i .i64),(4,.i .i64)] (mu P1 Q k):=bM λk h=>aT (ok 71) vN [aM h,aM (VA Q H1)]
def VC (Q):∀k,Bk 71 Tryz.f230 (oq Q) 1 [(0,.p),(2,.i .i64)] (oA Q k):=bM λk h=>aT (ok 71) vN [cu (VB Q h)]
def RZ:=λa w Q=>bB (z8 a w Q) (∃k',oA Q k' a 0 w) (ok 71) vN [cu (VC Q)] Tryz.func230
def yp (Q:Int->Int->Bool->WP)(a b:Int)(c:Bool)(w:World):Prop:=Q a b c w
noncomputable def I1:cv:=[(4,sp 0 12 (.op 12 .done))]
def XN (Q):Bk 45 Tryz.f207 (DC Q) 7 [(2,.i .i64),(3,.i .i64),(4,.b)] (yp Q):=aT (ok 45) I1 []
def Uk:=λa w Q=>bB (jD a w Q) (AX a w λb c d w=>cond d (wA a λe=>aA e w λf g i=>wA a λj=>aA j w.drew λl m n=>wA a λo=>aA o w.drew λp q r=>aK (IntKind.wrap .i64 ((g:Int)-1)) q<|wA p λs=>af .i64 ((s.add (((IntKind.wrap .i64 ((g:Int)-1))).toNat*2)).add 0) w.drew λt=>af .i64 ((s.add (((IntKind.wrap .i64 ((g:Int)-1))).toNat*2)).add 1) w.drew λu=>aK 0 m<|wA l λv=>St ((v.add (((0:Int).toNat)*2)).add 0) (ae t) w.drew λw=>St ((v.add (((0:Int).toNat)*2)).add 1) (ae u) w λw=>wA a λx=>aA x w λy z a1=>bR y z a1 2 none (some (IntKind.wrap .i64 ((g:Int)-1))) λb1 c1 d1=>wA a λe1=>St e1 (.slice b1 c1 d1) w λw=>z8 a w λw=>yp Q b c d w) (yp Q b c d w)) (ok 45) I1 [aM (XN Q)] Tryz.func207
def mZ (P8:OA->Int->Int->Int->ON->OA->Int->Int->Bool->WP)(Q:ON->WP)(a:OA)(b c d:Int)(e:ON)(f:OA)(w:World):Prop:=jD f w λg i j w=>P8 a b c d e f g i j w
def my (P8:OA->Int->Int->Int->ON->OA->Int->Int->Bool->WP)(Q:ON->WP)(Yf:OA->Int->Int->Int->ON->OA->Int->Int->Int->WP)(a:OA)(b c d:Int)(e:ON)(f:OA)(g i j:Int)(w:World):Prop:=cond (decide (j<=3)) (n6 c d i j w λl w=>cond (decide (l<0)) (Yf a b c d e f g i (IntKind.wrap .i64 (j+1)) w) (dZ c d l w λm w=>dZ c d b w λn w=>cond (m !=n) (Yf a b c d e f g i (IntKind.wrap .i64 (j+1)) w) (wA a λo=>bg (o.add 1) w λp=>fe p l w λq w=>cond (q==255) (Yf a b c d e f g i (IntKind.wrap .i64 (j+1)) w) (wA a λr=>bg (r.add 1) w λs=>fe s i w λt w=>mL f (IntKind.wrap .i64 (g+t)) l w λw=>Yf a b c d e f g i (IntKind.wrap .i64 (j+1)) w)))) (mZ P8 Q a b c d e f w)
def iL (P8:OA->Int->Int->Int->ON->OA->Int->Int->Bool->WP)(Q:ON->WP):Nat->OA->Int->Int->Int->ON->OA->Int->Int->Int->WP
 |0,_,_,_,_,_,_,_,_,_,_=>False
 |k+1,a,b,c,d,e,f,g,i,j,w=>my P8 Q (iL P8 Q k) a b c d e f g i j w
def jb (Q:ON->WP)(R8:OA->Int->Int->Int->ON->OA->Int->Int->Bool->WP)(a:OA)(b c d:Int)(e:ON)(f:OA)(g i:Int)(j:Bool)(w:World):Prop:=cond j (aL P (Instr.lookup 207 (.map e) (ae i) true) w λl w=>dT l λm=>dK m λn o=>dI .i64 n λp=>dK o λq r=>dB q λs=>kL r<|cond s (mZ R8 Q a b c d e f w) (bC P (Instr.mapUpdate 207 (.map e) (ae i) (ae g)) w λw=>∃k',iL R8 Q k' a b c d e f g i 0 w)) (Q e w)
def jc (Q:ON->WP):Nat->OA->Int->Int->Int->ON->OA->Int->Int->Bool->WP
 |0,_,_,_,_,_,_,_,_,_,_=>False
 |k+1,a,b,c,d,e,f,g,i,j,w=>jb Q (jc Q k) a b c d e f g i j w
def Dl {P8}(Q)(H8:Bk 103 Tryz.f203 (kj Q) 8 [(0,.p),(1,.i .i64),(5,.i .i64),(6,.i .i64),(7,.m),(8,.p),(9,.i .i64),(10,.i .i64),(11,.b)] P8):Bk 103 Tryz.f203 (kj Q) 9 [(0,.p),(1,.i .i64),(5,.i .i64),(6,.i .i64),(7,.m),(8,.p)] (mZ P8 Q):=aT (ok 103) [] [aM H8]
def Lm {P8}(Q)(H8:Bk 103 Tryz.f203 (kj Q) 8 [(0,.p),(1,.i .i64),(5,.i .i64),(6,.i .i64),(7,.m),(8,.p),(9,.i .i64),(10,.i .i64),(11,.b)] P8):∀k,Bk 103 Tryz.f203 (kj Q) 14 [(0,.p),(1,.i .i64),(5,.i .i64),(6,.i .i64),(7,.m),(8,.p),(9,.i .i64),(10,.i .i64),(14,.i .i64)] (iL P8 Q k):=bM λk h=>aT (ok 103) [] [aM (Dl Q H8),aM h]
def MG (Q):∀k,Bk 103 Tryz.f203 (kj Q) 8 [(0,.p),(1,.i .i64),(5,.i .i64),(6,.i .i64),(7,.m),(8,.p),(9,.i .i64),(10,.i .i64),(11,.b)] (jc Q k):=bM λk h=>aT (ok 103) [] [aM (Dl Q h),cu (Lm Q h)]
def Kj:=λa b w Q=>bB (tY a b w Q) (wA a λc=>bg (c.add 1) w λd=>eN d w λe f w=>cw P 207 none w λg w=>wA a λi=>bg (i.add 1) w λj=>fe j b w λl w=>cond (l==255) (Q g w) (CK w λm w=>mL m 0 b w λw=>jD m w λn o p w=>∃k',jc Q k' a b e f g m n o p w)) (ok 103) [] [cu (MG Q)] Tryz.func203
def JH:=λa b c w Q=>bB (kO a b c w Q) (cond a.isNone (Q none 0 0 w) (Bx [] 3 w λd w=>App P #[29,29] 29 (.slice (some d) 0 0) (.slice a b c) w λe f g w=>Q e f g w)) (ok 8) [] [] Tryz.func215
def Qf:=λa b w Q=>bB (yV a b w Q) (cond a.isNone (Q none 0 0 w) (cond (decide (b<0)) (Q none 0 0 w) (wA a λc=>aA (c.add 1) w λd e f=>cond (decide (b≥(e:Int))) (Q none 0 0 w) (wA a λg=>aA (g.add 1) w λi j l=>aK b j<|wA i λm=>aA ((m.add (b.toNat*3)).add 1) w λn o p=>kO n o p w λq r s w=>Q q r s w)))) (ok 29) [] [] Tryz.func204
def Ou:=λa b c w Q=>bB (rq a b c w Q) (wA a λd=>aA (d.add 2) w λe f g=>aK b f<|wA e λi=>af .i32 (i.add (b.toNat*1)) w λj=>cond (decide (c≥(IntKind.wrap .i64 j))) (Q false w) (wA a λl=>aA (l.add 2) w λm n o=>aK b n<|wA m λp=>St (p.add (b.toNat*1)) (.int .i32 (IntKind.wrap .i32 c)) w λw=>Q true w)) (ok 25) [] [] Tryz.func205
def VD:=λa b w Q=>bB (IU a b w Q) (qA a w λc w=>cond c (qA b w λd w=>cond (!d) (Q true w) (Q (decide (a<b)) w)) (Q (decide (a<b)) w)) (ok 17) [] [] Tryz.func280
def Ov:=λa w Q=>bB (nM a w Q) (Q (a !=a) w) (ok 6) [] [] Tryz.func281
def iW (Q:Int->Bool->WP)(R3:L3 (Int->Int->Int->Int->WP))(a:OA)(b c:Nat)(d e f g:Int)(w:World):Prop:=cond (decide (f<g)) (DT 1<|aK (IntKind.wrap .i64 (o6 .u64 (IntKind.wrap .u64 (IntKind.wrap .i64 (f+g))) 1)) b<|wA a λi=>af .i64 (i.add (((IntKind.wrap .i64 (o6 .u64 (IntKind.wrap .u64 (IntKind.wrap .i64 (f+g))) 1))).toNat*1)) w λj=>IU j d w λl w=>cond l (R3 a b c d e (IntKind.wrap .i64 ((IntKind.wrap .i64 (o6 .u64 (IntKind.wrap .u64 (IntKind.wrap .i64 (f+g))) 1))+1)) g w) (R3 a b c d e f (IntKind.wrap .i64 (o6 .u64 (IntKind.wrap .u64 (IntKind.wrap .i64 (f+g))) 1)) w)) (cond (decide (f<e)) (aK f b<|wA a λm=>af .i64 (m.add (f.toNat*1)) w λn=>cond (n==d) (Q f true w) (aK f b<|wA a λo=>af .i64 (o.add (f.toNat*1)) w λp=>nM p w λq w=>cond q (nM d w λr w=>Q f r w) (Q f false w))) (Q f false w))
def gE (Q:Int->Bool->WP):Nat->L3 (Int->Int->Int->Int->WP)
 |0,_,_,_,_,_,_,_,_=>False
 |k+1,a,b,c,d,e,f,g,w=>iW Q (gE Q k) a b c d e f g w
def FT (Q):∀k,Bk 54 Tryz.f271 (vY Q) 3 [(0,.l),(1,.i .i64),(6,.i .i64),(7,.i .i64),(8,.i .i64)] (gE Q k):=bM λk h=>aT (ok 54) [] [aM h]
def D5:=λa b c d w Q=>bB (nL a b c d w Q) (∃k',gE Q k' a b c d (b:Int) 0 (b:Int) w) (ok 54) [] [cu (FT Q)] Tryz.func271
def Qg:=λa b w Q=>bB (Fs a b w Q) (wA a λc=>aA (c.add 1) w λd e f=>nL d e f b w λg i w=>Q g i w) (ok 14) [] [] Tryz.func258
def R0:=λa b w Q=>bB (t_ a b w Q) (cond a.isNone (Q none 0 false w) (wA a λc=>bg c w λd=>eN d w λe f w=>dZ e f b w λg w=>cond (decide (g<0)) (Q none 0 false w) (wA a λi=>aA (i.add 1) w λj l m=>aK g l<|wA j λn=>Fs (some (n.add (g.toNat*3))) b w λo p w=>Q (some (n.add (g.toNat*3))) o p w))) (ok 44) [] [] Tryz.func231
noncomputable def Ow:cv:=[(1,sp 0 15 (.op 15 .done))]
def MH:=λa b c w Q=>bB (wC a b c w Q) (wA a λd=>aA (d.add 2) w.drew λe f g=>wA a λi=>aA (i.add 1) w.drew λj l m=>aK (IntKind.wrap .i64 ((IntKind.wrap .i64 (b*(l:Int)))+c)) f<|wA e λn=>af .i32 (n.add (((IntKind.wrap .i64 ((IntKind.wrap .i64 (b*(l:Int)))+c))).toNat*1)) w.drew λo=>cond (o !=(-1)) (Q (IntKind.wrap .i64 o) w.drew) (Q 1099511627776 w.drew)) (ok 27) Ow [] Tryz.func232
def qE (Q:L3 WP)(Yf:OA->Int->OA->L3 (Int->Int->Int->WP))(a:OA)(b:Int)(c d:OA)(e f:Nat)(g i j:Int)(w:World):Prop:=cond (decide (j<=3)) (n6 g i b j w λl w=>t_ a l w λm n o w=>cond o (bT P .neq 354 (.tmp 89) (.tmp 90) (.pointer m) (.pointer c) w λp w=>cond p (wA a λq=>bg q w λr=>fe r b w λs w=>Bx [ae l,ae s] 292 w λt w=>App P #[289,289] 289 (.slice d e f) (.slice (some t) 1 1) w λu v x w=>Yf a b c u v x g i (IntKind.wrap .i64 (j+1)) w) (Yf a b c d e f g i (IntKind.wrap .i64 (j+1)) w)) (Yf a b c d e f g i (IntKind.wrap .i64 (j+1)) w)) (Q d e f w)
def lE (Q:L3 WP):Nat->OA->Int->OA->L3 (Int->Int->Int->WP)
 |0,_,_,_,_,_,_,_,_,_,_=>False
 |k+1,a,b,c,d,e,f,g,i,j,w=>qE Q (lE Q k) a b c d e f g i j w
def rP (Q:L3 WP)(R6:OA->Int->OA->Int->L3 (L3 (Int->Int->WP)))(a:OA)(b:Int)(c:OA)(d:Int)(e:OA)(f g:Nat)(i:OA)(j l:Nat)(m n:Int)(w:World):Prop:=cond (decide (n<m)) (aK n j<|wA i λo=>af .i64 (o.add (n.toNat*1)) w λp=>wC c n d w λq w=>cond (n !=d) (cond (q !=1099511627776) (Bx [ae p,ae q] 292 w λr w=>App P #[289,289] 289 (.slice e f g) (.slice (some r) 1 1) w λs t u w=>R6 a b c d s t u i j l m (IntKind.wrap .i64 (n+1)) w) (R6 a b c d e f g i j l m (IntKind.wrap .i64 (n+1)) w)) (R6 a b c d e f g i j l m (IntKind.wrap .i64 (n+1)) w)) (wA a λv=>bg v w λx=>eN x w λy z w=>∃k',lE Q k' a b c e f g y z 0 w)
def mz (Q:L3 WP):Nat->OA->Int->OA->Int->L3 (L3 (Int->Int->WP))
 |0,_,_,_,_,_,_,_,_,_,_,_,_,_=>False
 |k+1,a,b,c,d,e,f,g,i,j,l,m,n,w=>rP Q (mz Q k) a b c d e f g i j l m n w
def Ul (Q):∀k,Bk 105 Tryz.f208 (BX Q) 14 [(0,.p),(1,.i .i64),(5,.p),(8,.l),(12,.i .i64),(13,.i .i64),(14,.i .i64)] (lE Q k):=bM λk h=>aT (ok 105) [] [aM h]
def VE (Q):∀k,Bk 105 Tryz.f208 (BX Q) 6 [(0,.p),(1,.i .i64),(5,.p),(6,.i .i64),(8,.l),(38,.l),(39,.i .i64),(40,.i .i64)] (mz Q k):=bM λk h=>aT (ok 105) [] [aM h,cu (Ul Q)]
def R_:=λa b w Q=>bB (z0 a b w Q) (t_ a b w λc d e w=>cond (!e) (Q none 0 0 w) (wA c λf=>aA (f.add 1) w λg i j=>cy P 289 (ae 0) (ae (IntKind.wrap .i64 ((i:Int)+1))) w λl m n w=>wA c λo=>aA (o.add 1) w λp q r=>∃k',mz Q k' a b c d l m n p q r (q:Int) 0 w)) (ok 105) [] [cu (VE Q)] Tryz.func208
def mA (tA:OA->Addr->OA->Int->Int->Bool->WP)(Q:OA->WP)(a:OA)(b:Addr)(c:OA)(w:World):Prop:=jD c w λd e f w=>tA a b c d e f w
def mB (tA:OA->Addr->OA->Int->Int->Bool->WP)(Q:OA->WP)(R17:OA->Addr->OA->Int->L3 (Int->Int->WP))(a:OA)(b:Addr)(c:OA)(d:Int)(e:OA)(f g:Nat)(i j:Int)(w:World):Prop:=cond (decide (j<i)) (aK j f<|wA e λl=>af .i64 ((l.add (j.toNat*2)).add 0) w λm=>af .i64 ((l.add (j.toNat*2)).add 1) w λn=>Al T 292 w λo w=>St (o.add 0) (ae m) w λw=>St (o.add 1) (ae n) w λw=>af .i64 o w λp=>af .i64 (o.add 1) w λq=>rq (some b) p (IntKind.wrap .i64 (d+q)) w λr w=>cond r (af .i64 (o.add 1) w λs=>af .i64 o w λt=>mL c (IntKind.wrap .i64 (d+s)) t w λw=>R17 a b c d e f g i (IntKind.wrap .i64 (j+1)) w) (R17 a b c d e f g i (IntKind.wrap .i64 (j+1)) w)) (mA tA Q a b c w)
def jP (tA:OA->Addr->OA->Int->Int->Bool->WP)(Q:OA->WP):Nat->OA->Addr->OA->Int->L3 (Int->Int->WP)
 |0,_,_,_,_,_,_,_,_,_,_=>False
 |k+1,a,b,c,d,e,f,g,i,j,w=>mB tA Q (jP tA Q k) a b c d e f g i j w
def iM (Q:OA->WP)(R13:OA->Addr->OA->Int->Int->Bool->WP)(a:OA)(b:Addr)(c:OA)(d e:Int)(f:Bool)(w:World):Prop:=cond f (aA (b.add 2) w λg i j=>aK e i<|wA g λl=>af .i32 (l.add (e.toNat*1)) w λm=>cond (decide (d>(IntKind.wrap .i64 m))) (mA R13 Q a b c w) (wA a λn=>bg n w λo=>z0 o e w λp q r w=>∃k',jP R13 Q k' a b c d p q r (q:Int) 0 w)) (Q (some b) w)
def iO (Q:OA->WP):Nat->OA->Addr->OA->Int->Int->Bool->WP
 |0,_,_,_,_,_,_,_=>False
 |k+1,a,b,c,d,e,f,w=>iM Q (iO Q k) a b c d e f w
def m6 (Q:OA->WP)(R6:OA->Addr->OA->ON->L3 (Int->Int->WP))(a:OA)(b:Addr)(c:OA)(d:ON)(e:OA)(f g:Nat)(i j:Int)(w:World):Prop:=cond (decide (j<i)) (aK j f<|wA e λl=>af .i64 (l.add (j.toNat*1)) w λm=>aL P (Instr.lookup 207 (.map d) (ae m) true) w λn w=>dT n λo=>dK o λp q=>dI .i64 p λr=>dK q λs t=>dB s λu=>kL t<|cond u (rq (some b) m r w λv w=>cond v (mL c r m w λw=>R6 a b c d e f g i (IntKind.wrap .i64 (j+1)) w) (R6 a b c d e f g i (IntKind.wrap .i64 (j+1)) w)) (R6 a b c d e f g i (IntKind.wrap .i64 (j+1)) w)) (jD c w λx y z w=>∃k',iO Q k' a b c x y z w)
def jd (Q:OA->WP):Nat->OA->Addr->OA->ON->L3 (Int->Int->WP)
 |0,_,_,_,_,_,_,_,_,_,_=>False
 |k+1,a,b,c,d,e,f,g,i,j,w=>m6 Q (jd Q k) a b c d e f g i j w
noncomputable def mC:cv:=[(5,sp 0 7 (.op 10 (.op 7 (.op 8 (.op 9 .done)))))]
def Ca {tA}(Q)(H13:Bk 128 Tryz.f178 (ja Q) 13 [(0,.p),(7,.a),(8,.p),(14,.i .i64),(15,.i .i64),(16,.b)] tA):Bk 128 Tryz.f178 (ja Q) 14 [(0,.p),(7,.a),(8,.p)] (mA tA Q):=aT (ok 128) mC [aM H13]
def Ln {tA}(Q)(H13:Bk 128 Tryz.f178 (ja Q) 13 [(0,.p),(7,.a),(8,.p),(14,.i .i64),(15,.i .i64),(16,.b)] tA):∀k,Bk 128 Tryz.f178 (ja Q) 17 [(0,.p),(7,.a),(8,.p),(14,.i .i64),(104,.l),(105,.i .i64),(106,.i .i64)] (jP tA Q k):=bM λk h=>aT (ok 128) mC [aM (Ca Q H13),aM h]
def Lo (Q):∀k,Bk 128 Tryz.f178 (ja Q) 13 [(0,.p),(7,.a),(8,.p),(14,.i .i64),(15,.i .i64),(16,.b)] (iO Q k):=bM λk h=>aT (ok 128) mC [aM (Ca Q h),cu (Ln Q h)]
def MI (Q):∀k,Bk 128 Tryz.f178 (ja Q) 6 [(0,.p),(7,.a),(8,.p),(9,.m),(52,.l),(53,.i .i64),(54,.i .i64)] (jd Q k):=bM λk h=>aT (ok 128) mC [aM h,cu (Lo Q)]
def Kk:=λa b w Q=>bB (tW a b w Q) (wA a λc=>bg (c.add 1) w λd=>eN d w λe f w=>wA a λg=>bg (g.add 1) w λi=>f_ i w λj w=>Bx [.int .i32 2147483647] 21 w λl w=>oV (some l) 1 1 (IntKind.wrap .i64 (e*f)) w λm n o w=>Bx [ae b,ae j,.slice m n o] 298 w λp w=>CK w λq w=>tY a b w λr w=>wA a λs=>bg s w.drew λt=>dZ e f b w.drew λu w=>w.cell? s=some (.pointer t)/\yV t u w λv x y w=>∃k',jd Q k' a p q r v x y (x:Int) 0 w) (ok 128) mC [cu (MI Q)] Tryz.func178
def zj (Q:OA->WP)(a:OA)(w:World):Prop:=wA a λb=>bg (b.add 2) w λc=>Q c w
def oB (Q:OA->WP)(a:OA)(b:Int)(w:World):Prop:=tW a b w λc w=>wA a λd=>St (d.add 2) (.pointer c) w λw=>wA a λe=>af .u64 (e.add 3) w λf=>r6 f 1 w λg w=>wA a λi=>St (i.add 3) (.int .u64 g) w λw=>zj Q a w
noncomputable def xY:cv:=[(4,sp 0 28 (.op 28 (sp 29 2 .done)))]
def Fx (Q):Bk 70 Tryz.f163 (yS Q) 7 [(0,.p)] (zj Q):=aT (ok 70) xY []
def Qh (Q):Bk 70 Tryz.f163 (yS Q) 5 [(0,.p),(1,.i .i64)] (oB Q):=aT (ok 70) xY [aM (Fx Q)]
def MJ:=λa b w Q=>bB (wu a b w Q) (cond a.isNone (Q none w) (wA a λc=>bg (c.add 1) w λd=>fe d b w λe w=>cond (e==0) (Q none w) (wA a λf=>bg f w λg=>wB g w λi w=>wA a λj=>bg (j.add 2) w.drew λl=>cond l.isNone (oB Q a b w.drew) (wA a λm=>bg (m.add 2) w.drew λn=>wA n λo=>af .i64 o w.drew λp=>cond (p !=b) (oB Q a b w.drew) (wA a λq=>bg (q.add 2) w.drew λr=>wA r λs=>af .i64 (s.add 1) w.drew λt=>wA a λu=>bg (u.add 1) w.drew λv=>f_ v w.drew λx w=>w.cell? (s.add 1)=some (ae t)/\w.cell? (q.add 2)=some (.pointer r)/\cond (t !=x) (oB Q a b w) (zj Q a w)))))) (ok 70) xY [aM (Qh Q),aM (Fx Q)] Tryz.func163
def xl (Q:WP)(a:OA)(b:Addr)(w:World):Prop:=af .i64 (b.add 3) w λc=>cond (c==(-1)) (af .i64 (b.add 2) w λd=>wA a λe=>St (e.add 4) (ae d) w λw=>Q w) (wA a λf=>aA (f.add 1) w.drew λg i j=>af .i64 (b.add 3) w.drew λl=>af .i64 (b.add 2) w.drew λm=>aK l i<|wA g λn=>St ((n.add (l.toNat*4)).add 2) (ae m) w.drew λw=>Q w)
noncomputable def Hh:cv:=[(3,sp 0 10 (.op 10 .done)),(6,sp 0 10 (.op 10 .done))]
def VF (Q):Bk 48 Tryz.f212 (IT Q) 4 [(0,.p),(4,.a)] (xl Q):=aT (ok 48) Hh []
def Sa:=λa b w Q=>bB (tZ a b w Q) (wA a λc=>aA (c.add 1) w λd e f=>aK b e<|wA d λg=>af .i64 ((g.add (b.toNat*4)).add 0) w λi=>af .i64 ((g.add (b.toNat*4)).add 1) w λj=>af .i64 ((g.add (b.toNat*4)).add 2) w λl=>af .i64 ((g.add (b.toNat*4)).add 3) w λm=>Al T 334 w λn w=>St (n.add 0) (ae i) w λw=>St (n.add 1) (ae j) w λw=>St (n.add 2) (ae l) w λw=>St (n.add 3) (ae m) w λw=>af .i64 (n.add 2) w λo=>cond (o==(-1)) (af .i64 (n.add 3) w λp=>wA a λq=>St (q.add 3) (ae p) w λw=>xl Q a n w) (wA a λr=>aA (r.add 1) w.drew λs t u=>af .i64 (n.add 2) w.drew λv=>af .i64 (n.add 3) w.drew λx=>aK v t<|wA s λy=>St ((y.add (v.toNat*4)).add 3) (ae x) w.drew λw=>xl Q a n w)) (ok 48) Hh [aM (VF Q)] Tryz.func212
def Af (Q:WP)(a:OA)(b:Int)(w:World):Prop:=wA a λc=>St (c.add 3) (ae b) w λw=>Q w
noncomputable def JZ:cv:=[(0,sp 0 16 (.op 16 (sp 17 2 (.op 19 .done)))),(3,sp 0 11 (.op 11 .done))]
def Zu (Q):Bk 46 Tryz.f213 (K_ Q) 4 [(0,.p),(1,.i .i64)] (Af Q):=aT (ok 46) JZ []
def VG:=λa b w Q=>bB (w9 a b w Q) (wA a λc=>aA (c.add 1) w.drew λd e f=>wA a λg=>aA (g.add 1) w.drew λi j l=>wA a λm=>af .i64 (m.add 3) w.drew λn=>aK b e<|wA d λo=>St ((o.add (b.toNat*4)).add 2) (ae (-1)) w.drew λw=>aK b j<|wA i λp=>St ((p.add (b.toNat*4)).add 3) (ae n) w λw=>wA a λq=>af .i64 (q.add 3) w λr=>cond (r==(-1)) (wA a λs=>St (s.add 4) (ae b) w λw=>Af Q a b w) (wA a λt=>aA (t.add 1) w.drew λu v x=>wA a λy=>af .i64 (y.add 3) w.drew λz=>aK z v<|wA u λa1=>St ((a1.add (z.toNat*4)).add 2) (ae b) w.drew λw=>Af Q a b w)) (ok 46) JZ [aM (Zu Q)] Tryz.func213
def n_ (Q:Int->Bool->Bool->WP)(a:OA)(b:Int)(c d:Bool)(e:Addr)(w:World):Prop:=wA a λf=>cq (f.add 2) w.drew λg=>af .i64 (e.add 0) w.drew λi=>af .i64 (e.add 1) w.drew λj=>bC P (Instr.mapUpdate 180 (.map g) (.agg #[ae i,ae j]) (ae b)) w.drew λw=>w9 a b w λw=>Q b c d w
noncomputable def Lp:cv:=[(4,sp 0 5 (.op 5 (sp 6 3 (.op 9 (.op 10 .done))))),(7,sp 0 12 (.op 12 .done)),(8,sp 0 8 (.op 8 .done)),(11,sp 0 10 (.op 10 .done)),(13,sp 0 7 (.op 7 (.op 8 (sp 9 2 (.op 11 .done))))),(14,sp 0 6 (.op 6 .done))]
def Zv (Q):Bk 95 Tryz.f180 (Na Q) 14 [(0,.p),(6,.i .i64),(7,.b),(8,.b),(9,.a)] (n_ Q):=aT (ok 95) Lp []
def XO:=λa b c w Q=>bB (Dy a b c w Q) (cond a.isNone (Q (-1) false false w) (Al T 253 w λd w=>St (d.add 0) (ae b) w λw=>St (d.add 1) (ae c) w λw=>wA a λe=>cq (e.add 2) w.drew λf=>af .i64 (d.add 0) w.drew λg=>af .i64 (d.add 1) w.drew λi=>aL P (Instr.lookup 180 (.map f) (.agg #[ae g,ae i]) true) w.drew λj w=>dT j λl=>dK l λm n=>dI .i64 m λo=>dK n λp q=>dB p λr=>kL q<|cond r (tZ a o w λw=>n_ Q a o r false d w) (wA a λs=>aA (s.add 1) w.drew λt u v=>wA a λx=>af .i64 x w.drew λy=>cond (decide ((u:Int)<y)) (wA a λz=>aA (z.add 1) w.drew λa1 b1 c1=>wA a λd1=>aA (d1.add 1) w.drew.drew λe1 f1 g1=>af .i64 (d.add 0) w.drew.drew λi1=>af .i64 (d.add 1) w.drew.drew λj1=>Bx [ae i1,ae j1,ae 0,ae 0] 334 w.drew.drew λl1 w=>w.cell? (d1.add 1)=some (.slice e1 f1 g1)/\App P #[179,179] 179 (.slice e1 f1 g1) (.slice (some l1) 1 1) w λm1 n1 o1 w=>wA a λp1=>St (p1.add 1) (.slice m1 n1 o1) w λw=>n_ Q a (b1:Int) r false d w) (wA a λq1=>af .i64 (q1.add 4) w.drew λr1=>tZ a r1 w.drew λw=>wA a λs1=>cq (s1.add 2) w.drew λt1=>wA a λu1=>aA (u1.add 1) w.drew λv1 x1 y1=>aK r1 x1<|wA v1 λz1=>af .i64 ((z1.add (r1.toNat*4)).add 0) w.drew λa2=>af .i64 ((z1.add (r1.toNat*4)).add 1) w.drew λb2=>aL P (Builtin.delete_ #[180,253] 0 [.map t1,.agg #[ae a2,ae b2]].toArray) w.drew λc2 w=>wA a λd2=>aA (d2.add 1) w.drew λe2 f2 g2=>af .i64 (d.add 0) w.drew λi2=>af .i64 (d.add 1) w.drew λj2=>aK r1 f2<|wA e2 λl2=>St ((l2.add (r1.toNat*4)).add 0) (ae i2) w.drew λw=>St ((l2.add (r1.toNat*4)).add 1) (ae j2) w λw=>n_ Q a r1 r true d w)))) (ok 95) Lp [aM (Zv Q)] Tryz.func180
def ig (Q:Bool->WP)(R4:L3 (L3 (Int->Int->WP)))(a:OA)(b c:Nat)(d:OA)(e f:Nat)(g i:Int)(w:World):Prop:=cond (decide (i<g)) (aK i b<|wA a λj=>af .i64 ((j.add (i.toNat*3)).add 0) w.drew λl=>af .i64 ((j.add (i.toNat*3)).add 1) w.drew λm=>af .i64 ((j.add (i.toNat*3)).add 2) w.drew λn=>aK i e<|wA d λo=>af .i64 ((o.add (i.toNat*3)).add 0) w.drew λp=>af .i64 ((o.add (i.toNat*3)).add 1) w.drew λq=>af .i64 ((o.add (i.toNat*3)).add 2) w.drew λr=>bT P .neq 294 (.tmp 19) (.tmp 23) (.agg #[ae l,ae m,ae n]) (.agg #[ae p,ae q,ae r]) w.drew λs w=>cond s (Q false w) (R4 a b c d e f g (IntKind.wrap .i64 (i+1)) w)) (Q true w)
def fR (Q:Bool->WP):Nat->L3 (L3 (Int->Int->WP))
 |0,_,_,_,_,_,_,_,_,_=>False
 |k+1,a,b,c,d,e,f,g,i,w=>ig Q (fR Q k) a b c d e f g i w
noncomputable def sv:cv:=[(6,sp 0 8 (.op 8 .done))]
def DJ (Q):∀k,Bk 26 Tryz.f214 (s_ Q) 4 [(0,.l),(1,.l),(12,.i .i64),(13,.i .i64)] (fR Q k):=bM λk h=>aT (ok 26) sv [aM h]
def Cb:=λa b c d e f w Q=>bB (rK a b c d e f w Q) (cond ((b:Int) !=(e:Int)) (Q false w) (∃k',fR Q k' a b c d e f (b:Int) 0 w)) (ok 26) sv [cu (DJ Q)] Tryz.func214
def Zw:=λa b c d e f w Q=>bB (ET a b c d e f w Q) (rK a b c d e f w λg w=>Q g w) (ok 8) [] [] Tryz.func181
def abg:=λa w Q=>bB (r_ a w Q) (wA a λb=>af .u64 b w λc=>r6 c 1 w λd w=>wA a λe=>St e (.int .u64 d) w λw=>Q w) (ok 8) [] [] Tryz.func182
noncomputable def adt:cv:=[(1,sp 0 2 (sp 3 2 (.op 2 (.op 5 (.op 6 (.op 7 .done))))))]
def abh:=λa b c d e f w Q=>bB (Bf a b c d e f w Q) (Bx [.slice a b c,.slice d e f] 213 w λg w=>Al T 213 w λi w=>aA g w.drew λj l m=>aA (g.add 1) w.drew λn o p=>kO j l m w.drew λq r s w=>w.cell? (g.add 1)=some (.slice n o p)/\kO n o p w λt u v w=>St (i.add 0) (.slice q r s) w λw=>St (i.add 1) (.slice t u v) w λw=>aA (i.add 0) w λx y z=>aA (i.add 1) w λa1 b1 c1=>Q x y z a1 b1 c1 w) (ok 10) adt [] Tryz.func183
def C0 (P3:Int->Int->Int->Bool->L3 (Int->Int->WP))(Q:Int->WP)(a b:Int)(c:Addr)(d:OA)(e f:Nat)(g i:Int)(w:World):Prop:=af .i64 (c.add 2) w λj=>P3 a b j true d e f g (IntKind.wrap .i64 (i+1)) w
def zk (Q:Int->WP)(R3:Int->Int->Int->Bool->L3 (Int->Int->WP))(a b c:Int)(d:Bool)(e:OA)(f g:Nat)(i j:Int)(w:World):Prop:=cond (decide (j<i)) (aK j f<|wA e λl=>af .i64 ((l.add (j.toNat*3)).add 0) w λm=>af .i64 ((l.add (j.toNat*3)).add 1) w λn=>af .i64 ((l.add (j.toNat*3)).add 2) w λo=>Al T 294 w λp w=>St (p.add 0) (ae m) w λw=>St (p.add 1) (ae n) w λw=>St (p.add 2) (ae o) w λw=>af .i64 p w λq=>cond (q==a) (af .i64 (p.add 1) w λr=>cond (r==b) (cond (!d) (C0 R3 Q a b p e f g i j w) (af .i64 (p.add 2) w λs=>cond (decide (s<c)) (C0 R3 Q a b p e f g i j w) (R3 a b c d e f g i (IntKind.wrap .i64 (j+1)) w))) (R3 a b c d e f g i (IntKind.wrap .i64 (j+1)) w)) (R3 a b c d e f g i (IntKind.wrap .i64 (j+1)) w)) (Q c w)
def oC (Q:Int->WP):Nat->Int->Int->Int->Bool->L3 (Int->Int->WP)
 |0,_,_,_,_,_,_,_,_,_,_=>False
 |k+1,a,b,c,d,e,f,g,i,j,w=>zk Q (oC Q k) a b c d e f g i j w
def adu {P3}(Q)(H3:Bk 41 Tryz.f237 (CN Q) 3 [(1,.i .i64),(2,.i .i64),(7,.i .i64),(8,.b),(11,.l),(12,.i .i64),(13,.i .i64)] P3):Bk 41 Tryz.f237 (CN Q) 6 [(1,.i .i64),(2,.i .i64),(10,.a),(11,.l),(12,.i .i64),(13,.i .i64)] (C0 P3 Q):=aT (ok 41) [] [aM H3]
def adv (Q):∀k,Bk 41 Tryz.f237 (CN Q) 3 [(1,.i .i64),(2,.i .i64),(7,.i .i64),(8,.b),(11,.l),(12,.i .i64),(13,.i .i64)] (oC Q k):=bM λk h=>aT (ok 41) [] [aM h,aM (adu Q h)]
def Zx:=λa b c d e w Q=>bB (z9 a b c d e w Q) (∃k',oC Q k' d e 1099511627776 false a b c (b:Int) 0 w) (ok 41) [] [cu (adv Q)] Tryz.func237
def qF (Q:Int->WP)(a b c:Int)(w:World):Prop:=cond (b==3) (cond (decide (c>0)) (Q (IntKind.wrap .i64 (a-1)) w) (Q (-1) w)) (Q (-1) w)
def qG (Q:Int->WP)(a:OA)(b c d e:Int)(w:World):Prop:=cond (c==2) (wA a λf=>af .i64 (f.add 1) w λg=>cond (decide (e<(IntKind.wrap .i64 (g-1)))) (wA a λi=>af .i64 i w λj=>Q (IntKind.wrap .i64 (b+j)) w) (qF Q b c d w)) (qF Q b c d w)
def qH (Q:Int->WP)(a:OA)(b c d e:Int)(w:World):Prop:=cond (c==1) (wA a λf=>af .i64 f w λg=>cond (decide (d<(IntKind.wrap .i64 (g-1)))) (Q (IntKind.wrap .i64 (b+1)) w) (qG Q a b c d e w)) (qG Q a b c d e w)
noncomputable def uw:cv:=[(1,sp 0 14 (.op 14 (.op 15 .done)))]
def Um (Q):Bk 81 Tryz.f277 (vJ Q) 8 [(1,.i .i64),(2,.i .i64),(7,.i .i64)] (qF Q):=aT (ok 81) uw []
def Un (Q):Bk 81 Tryz.f277 (vJ Q) 6 [(0,.p),(1,.i .i64),(2,.i .i64),(7,.i .i64),(8,.i .i64)] (qG Q):=aT (ok 81) uw [aM (Um Q)]
def Uo (Q):Bk 81 Tryz.f277 (vJ Q) 4 [(0,.p),(1,.i .i64),(2,.i .i64),(7,.i .i64),(8,.i .i64)] (qH Q):=aT (ok 81) uw [aM (Un Q)]
def Qi:=λa b c w Q=>bB (yY a b c w Q) (wA a λd=>af .i64 d w.drew λe=>NZ e<|wA a λf=>af .i64 f w.drew λg=>NZ g<|w.drew.cell? f=some (ae g)/\cond (c==0) (cond (decide ((IntKind.wrap .i64 (Int.tdiv b g))>0)) (wA a λi=>af .i64 i w.drew λj=>Q (IntKind.wrap .i64 (b-j)) w.drew) (qH Q a b c (Int.tmod b e) (IntKind.wrap .i64 (Int.tdiv b g)) w.drew)) (qH Q a b c (Int.tmod b e) (IntKind.wrap .i64 (Int.tdiv b g)) w.drew)) (ok 81) uw [aM (Uo Q)] Tryz.func277
noncomputable def VH:cv:=[(3,sp 0 6 (sp 7 7 (.op 6 (.op 14 (.op 15 .done))))),(4,sp 0 36 (.op 36 .done))]
def Up:=λa b c w Q=>bB (nF a b c w Q) (yY a b c w λd w=>cond (decide (d<0)) (wA a λe=>aA (e.add 3) w.drew λf g i=>wA a λj=>aA (j.add 4) w.drew λl m n=>aK b m<|wA l λo=>af .i64 (o.add (b.toNat*1)) w.drew λp=>z9 f g i b c w.drew λq w=>w.cell? (o.add (b.toNat*1))=some (ae p)/\w.cell? (j.add 4)=some (.slice l m n)/\Q (q==p) w) (wA a λr=>aA (r.add 2) w.drew λs t u=>aK d t<|wA s λv=>af .u8 (v.add (d.toNat*1)) w.drew λx=>cond (x !=255) (wA a λy=>aA (y.add 2) w.drew λz a1 b1=>aK d a1<|wA z λc1=>af .u8 (c1.add (d.toNat*1)) w.drew λd1=>wA a λe1=>aA (e1.add 4) w.drew λf1 g1 i1=>aK d g1<|wA f1 λj1=>af .i64 (j1.add (d.toNat*1)) w.drew λl1=>wA a λm1=>aA (m1.add 4) w.drew λn1 o1 p1=>aK b o1<|wA n1 λq1=>af .i64 (q1.add (b.toNat*1)) w.drew λr1=>Q ((IntKind.wrap .i64 ((IntKind.wrap .i64 d1)+l1))==r1) w.drew) (Q false w.drew))) (ok 65) VH [] Tryz.func263
def sw (Q:Int->WP)(a:OA)(b:Int)(w:World):Prop:=nF a b 3 w λc w=>cond c (Q 3 w) (Q 5 w)
def sy (Q:Int->WP)(a:OA)(b:Int)(w:World):Prop:=nF a b 2 w λc w=>cond c (Q 2 w) (sw Q a b w)
def ux (Q:Int->WP)(a:OA)(b:Int)(w:World):Prop:=nF a b 1 w λc w=>cond c (Q 1 w) (sy Q a b w)
def Fy (Q):Bk 28 Tryz.f238 (uh Q) 12 [(0,.p),(1,.i .i64)] (sw Q):=aT (ok 28) [] []
def Fz (Q):Bk 28 Tryz.f238 (uh Q) 10 [(0,.p),(1,.i .i64)] (sy Q):=aT (ok 28) [] [aM (Fy Q)]
def Sb (Q):Bk 28 Tryz.f238 (uh Q) 8 [(0,.p),(1,.i .i64)] (ux Q):=aT (ok 28) [] [aM (Fz Q)]
def Ox:=λa b c w Q=>bB (DW a b c w Q) (cond (c==0) (nF a b 0 w λd w=>cond d (Q 0 w) (ux Q a b w)) (cond (c==1) (ux Q a b w) (cond (c==2) (sy Q a b w) (cond (c==3) (sw Q a b w) (Q 5 w))))) (ok 28) [] [aM (Sb Q),aM (Fz Q),aM (Fy Q)] Tryz.func238
def Sc:=λa b w Q=>bB (z6 a b w Q) (wA a λc=>aA (c.add 4) w λd e f=>aK b e<|wA d λg=>af .i64 (g.add (b.toNat*1)) w λi=>cond (i==1099511627776) (Q 5 w) (wA a λj=>aA (j.add 3) w λl m n=>z9 l m n b 4 w λo w=>cond (i==o) (Q 4 w) (DW a b 0 w λp w=>Q p w))) (ok 25) [] [] Tryz.func217
def xm (Q:L3 (L3 (Int->WP)))(R7:Addr->Addr->Addr->Int->Int->WP)(a b c:Addr)(d e:Int)(w:World):Prop:=cond (decide (e<d)) (aA (c.add 1) w.drew λf g i=>z6 (some b) e w.drew λj w=>w.cell? (c.add 1)=some (.slice f g i)/\Bx [ae j] 3 w λl w=>w.cell? (c.add 1)=some (.slice f g i)/\App P #[29,29] 29 (.slice f g i) (.slice (some l) 1 1) w λm n o w=>St (c.add 1) (.slice m n o) w λw=>R7 a b c d (IntKind.wrap .i64 (e+1)) w) (aA (c.add 0) w λp q r=>aA (c.add 1) w λs t u=>St (a.add 0) (.slice p q r) w λw=>St (a.add 1) (.slice s t u) w λw=>aA (a.add 0) w λv x y=>aA (a.add 1) w λz a1 b1=>Q v x y z a1 b1 0 w)
def sA (Q:L3 (L3 (Int->WP))):Nat->Addr->Addr->Addr->Int->Int->WP
 |0,_,_,_,_,_,_=>False
 |k+1,a,b,c,d,e,w=>xm Q (sA Q k) a b c d e w
noncomputable def Lq:cv:=[(9,sp 0 4 (.op 4 (.op 5 (.op 6 (.op 7 (.op 8 .done))))))]
def abi (Q):∀k,Bk 43 Tryz.f184 (Nb Q) 7 [(4,.a),(8,.a),(9,.a),(29,.i .i64),(30,.i .i64)] (sA Q k):=bM λk h=>aT (ok 43) Lq [aM h]
def XP:=λa b c d e f g i w Q=>bB (Dz a b c d e f g i w Q) (Bx [ae a,ae b,.slice c d e] 84 w λj w=>Al T 213 w λl w=>af .i64 (j.add 0) w λm=>af .i64 (j.add 1) w λn=>aA (j.add 2) w λo p q=>w_ m n o p q f g i w λr s t u w=>cond (u !=0) (St (l.add 0) (.slice none 0 0) w λw=>St (l.add 1) (.slice none 0 0) w λw=>aA (l.add 0) w λv x y=>aA (l.add 1) w λz a1 b1=>Q v x y z a1 b1 u w) (af .i64 (j.add 0) w λc1=>af .i64 (j.add 1) w λd1=>aA (j.add 2) w λe1 f1 g1=>Bx [ae c1,ae d1,.slice e1 f1 g1,.slice f g i,.slice r s t] 340 w λi1 w=>Al T 213 w λj1 w=>St (j1.add 0) (.slice r s t) w λw=>St (j1.add 1) (.slice none 0 0) w λw=>∃k',sA Q k' l i1 j1 (s:Int) 0 w)) (ok 43) Lq [cu (abi Q)] Tryz.func184
def A5 (Q:L3 (L3 (Int->WP)))(a:Addr)(w:World):Prop:=St (a.add 0) (.slice none 0 0) w λw=>St (a.add 1) (.slice none 0 0) w λw=>aA (a.add 0) w λb c d=>aA (a.add 1) w λe f g=>Q b c d e f g 1 w
def pI (Q:L3 (L3 (Int->WP)))(a:OA)(b:Int)(c:OA)(d e:Nat)(f g i:Addr)(w:World):Prop:=wA a λj=>r_ (some ((j.add 2).add 2)) w λw=>af .i64 (f.add 0) w λl=>af .i64 (f.add 1) w λm=>aA (f.add 2) w λn o p=>Dz l m n o p c d e w λq r s t u v x w=>Al T 213 w λy w=>St (y.add 0) (.slice q r s) w λw=>St (y.add 1) (.slice t u v) w λw=>aA (y.add 0) w.drew λz a1 b1=>aA (y.add 1) w.drew λc1 d1 e1=>ji c d e w.drew λf1 g1 i1 w=>w.cell? (y.add 0)=some (.slice z a1 b1)/\w.cell? (y.add 1)=some (.slice c1 d1 e1)/\St (i.add 0) (ae b) w λw=>St (i.add 1) (.slice f1 g1 i1) w λw=>St (i.add 2) (.slice z a1 b1) w λw=>St (i.add 3) (.slice c1 d1 e1) w λw=>aA (y.add 0) w λj1 l1 m1=>aA (y.add 1) w λn1 o1 p1=>Bf j1 l1 m1 n1 o1 p1 w λq1 r1 s1 t1 u1 v1 w=>St (g.add 0) (.slice q1 r1 s1) w λw=>St (g.add 1) (.slice t1 u1 v1) w λw=>aA (g.add 0) w λx1 y1 z1=>aA (g.add 1) w λa2 b2 c2=>Q x1 y1 z1 a2 b2 c2 0 w
def pJ (Q:L3 (L3 (Int->WP)))(a:OA)(b:Int)(c:OA)(d e:Nat)(f g:Addr)(i:Bool)(j:Addr)(w:World):Prop:=cond i (wA a λl=>r_ (some ((l.add 2).add 5)) w λw=>pI Q a b c d e f g j w) (pI Q a b c d e f g j w)
def jm (Q:L3 (L3 (Int->WP)))(a:OA)(b:Int)(c:OA)(d e:Nat)(f g:Addr)(i j:Bool)(l:Addr)(w:World):Prop:=cond i (wA a λm=>r_ (some ((m.add 2).add 4)) w λw=>pJ Q a b c d e f g j l w) (pJ Q a b c d e f g j l w)
def qI (Q:L3 (L3 (Int->WP)))(a:OA)(b:Int)(c:OA)(d e:Nat)(f g:Addr)(i:Int)(j l:Bool)(w:World):Prop:=wA a λm=>aA (m.add 1) w λn o p=>aK i o<|wA n λq=>cond j (af .i64 (q.add (i.toNat*4)) w λr=>cond (r==b) (aA ((q.add (i.toNat*4)).add 1) w λs t u=>ET s t u c d e w λv w=>cond v (wA a λx=>r_ (some ((x.add 2).add 3)) w λw=>aA (((q.add (i.toNat*4)).add 2).add 0) w λy z a1=>aA (((q.add (i.toNat*4)).add 2).add 1) w λb1 c1 d1=>Bf y z a1 b1 c1 d1 w λe1 f1 g1 i1 j1 l1 w=>St (g.add 0) (.slice e1 f1 g1) w λw=>St (g.add 1) (.slice i1 j1 l1) w λw=>aA (g.add 0) w λm1 n1 o1=>aA (g.add 1) w λp1 q1 r1=>Q m1 n1 o1 p1 q1 r1 0 w) (jm Q a b c d e f g j l (q.add (i.toNat*4)) w)) (jm Q a b c d e f g j l (q.add (i.toNat*4)) w)) (jm Q a b c d e f g j l (q.add (i.toNat*4)) w)
noncomputable def mS:cv:=[(16,sp 0 3 (.op 4 (.op 3 (sp 5 2 (.op 7 .done)))))]
def Uq (Q):Bk 122 Tryz.f164 (nE Q) 2 [(12,.a)] (A5 Q):=aT (ok 122) mS []
def Sd (Q):Bk 122 Tryz.f164 (nE Q) 14 [(0,.p),(3,.i .i64),(5,.l),(10,.a),(12,.a),(17,.a)] (pI Q):=aT (ok 122) mS []
def Se (Q):Bk 122 Tryz.f164 (nE Q) 12 [(0,.p),(3,.i .i64),(5,.l),(10,.a),(12,.a),(16,.b),(17,.a)] (pJ Q):=aT (ok 122) mS [aM (Sd Q)]
def Sf (Q):Bk 122 Tryz.f164 (nE Q) 10 [(0,.p),(3,.i .i64),(5,.l),(10,.a),(12,.a),(15,.b),(16,.b),(17,.a)] (jm Q):=aT (ok 122) mS [aM (Se Q)]
def Ur (Q):Bk 122 Tryz.f164 (nE Q) 6 [(0,.p),(3,.i .i64),(5,.l),(10,.a),(12,.a),(14,.i .i64),(15,.b),(16,.b)] (qI Q):=aT (ok 122) mS [aM (Sf Q)]
def Qj:=λa b c d e f g i j l m n w Q=>bB (oh a b c d e f g i j l m n w Q) (Bx [ae e,ae f,.slice g i j] 84 w λo w=>Al T 213 w λp w=>cond a.isNone (A5 Q p w) (af .i64 (o.add 0) w λq=>af .i64 (o.add 1) w λr=>aA (o.add 2) w λs t u=>Be q r s t u l m n w λv w=>cond (!v) (A5 Q p w) (wA a λx=>bg x w λy=>Dy y b c w λz a1 b1 w=>wA a λc1=>aA (c1.add 1) w λd1 e1 f1=>cond (z==(e1:Int)) (wA a λg1=>aA (g1.add 1) w λi1 j1 l1=>Bx [ae 0,.slice none 0 0,.slice none 0 0,.slice none 0 0] 303 w λm1 w=>App P #[133,133] 133 (.slice i1 j1 l1) (.slice (some m1) 1 1) w λn1 o1 p1 w=>wA a λq1=>St (q1.add 1) (.slice n1 o1 p1) w λw=>qI Q a d l m n o p z a1 b1 w) (qI Q a d l m n o p z a1 b1 w)))) (ok 122) mS [aM (Uq Q),aM (Ur Q)] Tryz.func164
def yq (Q:L3 (L3 (Value->WP)))(a:Int)(b:Addr)(w:World):Prop:=bY (aZ 2) w.drew λc=>dV c λd=>(Bx [ae a,d] 275 w.drew λe w=>St (b.add 0) (.slice none 0 0) w λw=>St (b.add 1) (.slice none 0 0) w λw=>w.cell? (aZ 2)=some c/\aA (b.add 0) w λf g i=>aA (b.add 1) w λj l m=>Q f g i j l m (.iface 273 (.pointer (some e))) w)/\(St (b.add 0) (.slice none 0 0) w.drew λw=>St (b.add 1) (.slice none 0 0) w λw=>w.cell? (aZ 2)=some c/\Bx [ae a,d] 275 w λn w=>aA (b.add 0) w λo p q=>aA (b.add 1) w λr s t=>Q o p q r s t (.iface 273 (.pointer (some n))) w)
def tB (Q:L3 (L3 (Value->WP)))(a:Int)(b:Addr)(w:World):Prop:=bY (aZ 3) w.drew λc=>dV c λd=>(Bx [ae a,d] 275 w.drew λe w=>St (b.add 0) (.slice none 0 0) w λw=>St (b.add 1) (.slice none 0 0) w λw=>w.cell? (aZ 3)=some c/\aA (b.add 0) w λf g i=>aA (b.add 1) w λj l m=>Q f g i j l m (.iface 273 (.pointer (some e))) w)/\(St (b.add 0) (.slice none 0 0) w.drew λw=>St (b.add 1) (.slice none 0 0) w λw=>w.cell? (aZ 3)=some c/\Bx [ae a,d] 275 w λn w=>aA (b.add 0) w λo p q=>aA (b.add 1) w λr s t=>Q o p q r s t (.iface 273 (.pointer (some n))) w)
def jF (Q:L3 (L3 (Value->WP)))(a:Int)(b c:Addr)(d:Int)(w:World):Prop:=cond (d !=0) (bY (aZ 4) w.drew λe=>dV e λf=>(Bx [ae a,f] 275 w.drew λg w=>St (b.add 0) (.slice none 0 0) w λw=>St (b.add 1) (.slice none 0 0) w λw=>w.cell? (aZ 4)=some e/\aA (b.add 0) w λi j l=>aA (b.add 1) w λm n o=>Q i j l m n o (.iface 273 (.pointer (some g))) w)/\(St (b.add 0) (.slice none 0 0) w.drew λw=>St (b.add 1) (.slice none 0 0) w λw=>w.cell? (aZ 4)=some e/\Bx [ae a,f] 275 w λp w=>aA (b.add 0) w λq r s=>aA (b.add 1) w λt u v=>Q q r s t u v (.iface 273 (.pointer (some p))) w)) (aA (c.add 0) w λx y z=>aA (c.add 1) w λa1 b1 c1=>St (b.add 0) (.slice x y z) w λw=>St (b.add 1) (.slice a1 b1 c1) w λw=>aA (b.add 0) w λd1 e1 f1=>aA (b.add 1) w λg1 i1 j1=>Q d1 e1 f1 g1 i1 j1 (.nilIface) w)
noncomputable def xo:cv:=[(2,sp 0 4 (.br (.op 4 (.op 5 (.op 6 (.op 7 .done)))) (.op 6 (.op 4 (.op 5 (.op 7 .done)))))),(5,sp 0 4 (.br (.op 4 (.op 5 (.op 6 (.op 7 .done)))) (.op 6 (.op 4 (.op 5 (.op 7 .done)))))),(6,sp 0 9 (.op 10 (.op 9 (.op 11 (.op 12 .done))))),(7,sp 0 11 (sp 12 2 (.br (.op 11 (.br (.op 14 (sp 15 3 (.op 18 (.op 19 (.op 20 .done))))) (.op 18 (.op 14 (sp 15 3 (.op 19 (.op 20 .done))))))) (.op 18 (.op 11 (.op 14 (sp 15 3 (.op 19 (.op 20 .done))))))))),(9,sp 0 4 (.br (.op 4 (.op 5 (.op 6 (.op 7 .done)))) (.op 6 (.op 4 (.op 5 (.op 7 .done))))))]
def XQ (Q):Bk 93 Tryz.f150 (yl Q) 2 [(1,.i .i64),(6,.a)] (yq Q):=aT (ok 93) xo []
def XR (Q):Bk 93 Tryz.f150 (yl Q) 5 [(1,.i .i64),(6,.a)] (tB Q):=aT (ok 93) xo []
def XS (Q):Bk 93 Tryz.f150 (yl Q) 8 [(1,.i .i64),(6,.a),(11,.a),(12,.i .i64)] (jF Q):=aT (ok 93) xo []
def Us:=λa b c w Q=>bB (vD a b c w Q) (Al T 213 w λd w=>cond a.isNone (yq Q b d w) (wA a λe=>bg e w λf=>cond f.isNone (yq Q b d w) (wA a λg=>bg g w λi=>tV i c w λj l m n o p w=>Al T 84 w λq w=>St (q.add 0) (ae j) w λw=>St (q.add 1) (ae l) w λw=>St (q.add 2) (.slice m n o) w λw=>wA a λr=>bg r w λs=>fe s b w λt w=>cond (t==0) (tB Q b d w) (cond (!p) (tB Q b d w) (wA a λu=>bg u w.drew λv=>wA a λx=>bg (x.add 2) w.drew λy=>wu y b w.drew λz w=>w.cell? u=some (.pointer v)/\BU v z c w λa1 b1 c1 w=>wA a λd1=>bg (d1.add 3) w.drew λe1=>wA a λf1=>bg f1 w.drew λg1=>af .i64 (q.add 0) w.drew λi1=>af .i64 (q.add 1) w.drew λj1=>aA (q.add 2) w.drew λl1 m1 n1=>(i_ g1 c w.drew λo1 w=>w.cell? (q.add 0)=some (ae i1)/\w.cell? (q.add 1)=some (ae j1)/\w.cell? (q.add 2)=some (.slice l1 m1 n1)/\w.cell? (d1.add 3)=some (.pointer e1)/\(oh e1 b c o1 i1 j1 l1 m1 n1 a1 b1 c1 w λp1 q1 r1 s1 t1 u1 v1 w=>Al T 213 w λx1 w=>w.cell? (q.add 0)=some (ae i1)/\w.cell? (q.add 1)=some (ae j1)/\w.cell? (q.add 2)=some (.slice l1 m1 n1)/\w.cell? f1=some (.pointer g1)/\w.cell? (d1.add 3)=some (.pointer e1)/\St (x1.add 0) (.slice p1 q1 r1) w λw=>St (x1.add 1) (.slice s1 t1 u1) w λw=>jF Q b d x1 v1 w)/\(Al T 213 w λy1 w=>w.cell? (q.add 0)=some (ae i1)/\w.cell? (q.add 1)=some (ae j1)/\w.cell? (q.add 2)=some (.slice l1 m1 n1)/\w.cell? f1=some (.pointer g1)/\w.cell? (d1.add 3)=some (.pointer e1)/\oh e1 b c o1 i1 j1 l1 m1 n1 a1 b1 c1 w λz1 a2 b2 c2 d2 e2 f2 w=>St (y1.add 0) (.slice z1 a2 b2) w λw=>St (y1.add 1) (.slice c2 d2 e2) w λw=>jF Q b d y1 f2 w))/\(Al T 213 w.drew λg2 w=>w.cell? (q.add 0)=some (ae i1)/\w.cell? (q.add 1)=some (ae j1)/\w.cell? (q.add 2)=some (.slice l1 m1 n1)/\w.cell? f1=some (.pointer g1)/\w.cell? (d1.add 3)=some (.pointer e1)/\i_ g1 c w λi2 w=>w.cell? (q.add 0)=some (ae i1)/\w.cell? (q.add 1)=some (ae j1)/\w.cell? (q.add 2)=some (.slice l1 m1 n1)/\w.cell? (d1.add 3)=some (.pointer e1)/\oh e1 b c i2 i1 j1 l1 m1 n1 a1 b1 c1 w λj2 l2 m2 n2 o2 p2 q2 w=>St (g2.add 0) (.slice j2 l2 m2) w λw=>St (g2.add 1) (.slice n2 o2 p2) w λw=>jF Q b d g2 q2 w)))))) (ok 93) xo [aM (XQ Q),aM (XR Q),aM (XS Q)] Tryz.func150
end Go.Proofs.YtmegplnmiepfbaaGreatDoor.S
