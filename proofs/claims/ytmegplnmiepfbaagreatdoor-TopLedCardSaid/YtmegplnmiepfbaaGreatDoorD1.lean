/- Part 2 of the proof. -/
import Derived.Test.YtmegplnmiepfbaaGreatDoorD0
import Derived.Test.YtmegplnmiepfbaaGreatDoorProg
set_option linter.unusedVariables false
set_option linter.unusedSimpArgs false
set_option linter.defProp false
set_option maxRecDepth 100000
namespace Go.Proofs.YtmegplnmiepfbaaGreatDoor.S
open Go.Sx
noncomputable abbrev P:Program:=Go.Proofs.Tryz.prog
noncomputable def rows:List (Nat×TI):=[(0,⟨.uN [],1,0,[.tuple #[]],[]⟩),
 (2,⟨.int .i64,1,8,[.int .i64 0],[.int .i64]⟩),
 (3,⟨.int .i64,1,8,[.int .i64 0],[.int .i64]⟩),
 (4,⟨.bool,1,1,[.bool false],[.bool]⟩),
 (5,⟨.int .u8,1,1,[.int .u8 0],[.int .u8]⟩),
 (9,⟨.str,1,16,[.string .empty],[.str]⟩),
 (17,⟨.ptr,1,8,[.pointer none],[.ptr]⟩),
 (20,⟨.iface,1,16,[.nilIface],[.any]⟩),
 (21,⟨.int .i32,1,4,[.int .i32 0],[.int .i32]⟩),
 (22,⟨.slice 5,1,24,[.slice none 0 0],[.sl]⟩),
 (25,⟨.struct [(0,3),(1,3),(2,22)],3,40,[.int .i64 0,.int .i64 0,.slice none 0 0],[.int .i64,.int .i64,.sl]⟩),
 (26,⟨.ptr,1,8,[.pointer none],[.ptr]⟩),
 (28,⟨.slice 51,1,24,[.slice none 0 0],[.sl]⟩),
 (29,⟨.slice 3,1,24,[.slice none 0 0],[.sl]⟩),
 (30,⟨.int .u64,1,8,[.int .u64 0],[.int .u64]⟩),
 (32,⟨.struct [(0,30),(1,30),(2,30),(3,30),(4,30),(5,30)],6,48,[.int .u64 0,.int .u64 0,.int .u64 0,.int .u64 0,.int .u64 0,.int .u64 0],[.int .u64,.int .u64,.int .u64,.int .u64,.int .u64,.int .u64]⟩),
 (34,⟨.struct [(0,3),(1,3),(2,3),(3,3),(4,28),(5,29),(6,32)],12,128,[.int .i64 0,.int .i64 0,.int .i64 0,.int .i64 0,.slice none 0 0,.slice none 0 0,.int .u64 0,.int .u64 0,.int .u64 0,.int .u64 0,.int .u64 0,.int .u64 0],[.int .i64,.int .i64,.int .i64,.int .i64,.sl,.sl,.int .u64,.int .u64,.int .u64,.int .u64,.int .u64,.int .u64]⟩),
 (38,⟨.struct [(0,3),(1,3),(2,3),(3,22)],4,48,[.int .i64 0,.int .i64 0,.int .i64 0,.slice none 0 0],[.int .i64,.int .i64,.int .i64,.sl]⟩),
 (39,⟨.slice 43,1,24,[.slice none 0 0],[.sl]⟩),
 (43,⟨.struct [(0,3),(1,3),(2,3)],3,24,[.int .i64 0,.int .i64 0,.int .i64 0],[.int .i64,.int .i64,.int .i64]⟩),
 (45,⟨.slice 90,1,24,[.slice none 0 0],[.sl]⟩),
 (46,⟨.slice 38,1,24,[.slice none 0 0],[.sl]⟩),
 (49,⟨.slice 4,1,24,[.slice none 0 0],[.sl]⟩),
 (51,⟨.struct [(0,3),(1,3)],2,16,[.int .i64 0,.int .i64 0],[.int .i64,.int .i64]⟩),
 (55,⟨.uN [3,3,4],1,0,[.tuple #[.int .i64 0,.int .i64 0,.bool false]],[]⟩),
 (64,⟨.slice 34,1,24,[.slice none 0 0],[.sl]⟩),
 (68,⟨.ptr,1,8,[.pointer none],[.ptr]⟩),
 (70,⟨.ptr,1,8,[.pointer none],[.ptr]⟩),
 (72,⟨.struct [(0,3),(1,68),(2,70)],3,24,[.int .i64 0,.pointer none,.pointer none],[.int .i64,.ptr,.ptr]⟩),
 (74,⟨.iface,1,16,[.nilIface],[.any]⟩),
 (76,⟨.ptr,1,8,[.pointer none],[.ptr]⟩),
 (78,⟨.ptr,1,8,[.pointer none],[.ptr]⟩),
 (80,⟨.struct [(0,3),(1,74)],2,24,[.int .i64 0,.nilIface],[.int .i64,.any]⟩),
 (81,⟨.int .u64,1,8,[.int .u64 0],[.int .u64]⟩),
 (82,⟨.uN [3,22],1,0,[.tuple #[.int .i64 0,.slice none 0 0]],[]⟩),
 (84,⟨.struct [(0,3),(1,3),(2,22)],3,40,[.int .i64 0,.int .i64 0,.slice none 0 0],[.int .i64,.int .i64,.sl]⟩),
 (90,⟨.struct [(0,3),(1,3),(2,3)],3,24,[.int .i64 0,.int .i64 0,.int .i64 0],[.int .i64,.int .i64,.int .i64]⟩),
 (95,⟨.uN [3,3],1,0,[.tuple #[.int .i64 0,.int .i64 0]],[]⟩),
 (100,⟨.ptr,1,8,[.pointer none],[.ptr]⟩),
 (102,⟨.ptr,1,8,[.pointer none],[.ptr]⟩),
 (103,⟨.ptr,1,8,[.pointer none],[.ptr]⟩),
 (104,⟨.ptr,1,8,[.pointer none],[.ptr]⟩),
 (106,⟨.struct [(0,102),(1,103),(2,104),(3,100),(4,32)],10,80,[.pointer none,.pointer none,.pointer none,.pointer none,.int .u64 0,.int .u64 0,.int .u64 0,.int .u64 0,.int .u64 0,.int .u64 0],[.ptr,.ptr,.ptr,.ptr,.int .u64,.int .u64,.int .u64,.int .u64,.int .u64,.int .u64]⟩),
 (108,⟨.int .i64,1,8,[.int .i64 0],[.int .i64]⟩),
 (112,⟨.uN [3,74],1,0,[.tuple #[.int .i64 0,.nilIface]],[]⟩),
 (120,⟨.ptr,1,8,[.pointer none],[.ptr]⟩),
 (122,⟨.ptr,1,8,[.pointer none],[.ptr]⟩),
 (123,⟨.ptr,1,8,[.pointer none],[.ptr]⟩),
 (125,⟨.struct [(0,3),(1,3),(2,3),(3,122),(4,123)],5,40,[.int .i64 0,.int .i64 0,.int .i64 0,.pointer none,.pointer none],[.int .i64,.int .i64,.int .i64,.ptr,.ptr]⟩),
 (131,⟨.ptr,1,8,[.pointer none],[.ptr]⟩),
 (133,⟨.slice 303,1,24,[.slice none 0 0],[.sl]⟩),
 (135,⟨.struct [(0,131),(1,133),(2,32)],8,80,[.pointer none,.slice none 0 0,.int .u64 0,.int .u64 0,.int .u64 0,.int .u64 0,.int .u64 0,.int .u64 0],[.ptr,.sl,.int .u64,.int .u64,.int .u64,.int .u64,.int .u64,.int .u64]⟩),
 (137,⟨.struct [(0,3),(1,3),(2,4)],3,24,[.int .i64 0,.int .i64 0,.bool false],[.int .i64,.int .i64,.bool]⟩),
 (138,⟨.uN [137,4],1,0,[.tuple #[.agg #[.int .i64 0,.int .i64 0,.bool false],.bool false]],[]⟩),
 (140,⟨.uN [25,3],1,0,[.tuple #[.agg #[.int .i64 0,.int .i64 0,.slice none 0 0],.int .i64 0]],[]⟩),
 (144,⟨.uN [43,4],1,0,[.tuple #[.agg #[.int .i64 0,.int .i64 0,.int .i64 0],.bool false]],[]⟩),
 (146,⟨.func,1,8,[.nilFunc],[.any]⟩),
 (148,⟨.uN [3,3,3],1,0,[.tuple #[.int .i64 0,.int .i64 0,.int .i64 0]],[]⟩),
 (150,⟨.uN [29,74],1,0,[.tuple #[.slice none 0 0,.nilIface]],[]⟩),
 (152,⟨.uN [28,29,3],1,0,[.tuple #[.slice none 0 0,.slice none 0 0,.int .i64 0]],[]⟩),
 (155,⟨.iface,1,16,[.nilIface],[.any]⟩),
 (158,⟨.other,1,8,[.pointer none],[.ptr]⟩),
 (159,⟨.int .u64,1,8,[.int .u64 0],[.int .u64]⟩),
 (161,⟨.struct [(0,17),(1,158),(2,159)],3,24,[.pointer none,.pointer none,.int .u64 0],[.ptr,.ptr,.int .u64]⟩),
 (164,⟨.int .u8,1,1,[.int .u8 0],[.int .u8]⟩),
 (169,⟨.map,1,8,[.map none],[.map]⟩),
 (171,⟨.struct [(0,3),(1,3),(2,169),(3,29)],4,48,[.int .i64 0,.int .i64 0,.map none,.slice none 0 0],[.int .i64,.int .i64,.map,.sl]⟩),
 (172,⟨.slice 2,1,24,[.slice none 0 0],[.sl]⟩),
 (174,⟨.struct [(0,25),(3,2),(4,172)],5,72,[.int .i64 0,.int .i64 0,.slice none 0 0,.int .i64 0,.slice none 0 0],[.int .i64,.int .i64,.sl,.int .i64,.sl]⟩),
 (175,⟨.arr 6 30,6,48,[.int .u64 0,.int .u64 0,.int .u64 0,.int .u64 0,.int .u64 0,.int .u64 0],[.int .u64,.int .u64,.int .u64,.int .u64,.int .u64,.int .u64]⟩),
 (179,⟨.slice 334,1,24,[.slice none 0 0],[.sl]⟩),
 (180,⟨.map,1,8,[.map none],[.map]⟩),
 (182,⟨.struct [(0,3),(1,179),(2,180),(3,3),(4,3)],5,56,[.int .i64 0,.slice none 0 0,.map none,.int .i64 0,.int .i64 0],[.int .i64,.sl,.map,.int .i64,.int .i64]⟩),
 (183,⟨.uN [38,3],1,0,[.tuple #[.agg #[.int .i64 0,.int .i64 0,.int .i64 0,.slice none 0 0],.int .i64 0]],[]⟩),
 (185,⟨.uN [25,74],1,0,[.tuple #[.agg #[.int .i64 0,.int .i64 0,.slice none 0 0],.nilIface]],[]⟩),
 (187,⟨.int .i64,1,8,[.int .i64 0],[.int .i64]⟩),
 (188,⟨.ptr,1,8,[.pointer none],[.ptr]⟩),
 (195,⟨.ptr,1,8,[.pointer none],[.ptr]⟩),
 (197,⟨.struct [(0,103),(1,102),(2,195),(3,30)],4,32,[.pointer none,.pointer none,.pointer none,.int .u64 0],[.ptr,.ptr,.ptr,.int .u64]⟩),
 (198,⟨.uN [3,4],1,0,[.tuple #[.int .i64 0,.bool false]],[]⟩),
 (202,⟨.ptr,1,8,[.pointer none],[.ptr]⟩),
 (203,⟨.func,1,8,[.nilFunc],[.any]⟩),
 (204,⟨.uN [3,3,74],1,0,[.tuple #[.int .i64 0,.int .i64 0,.nilIface]],[]⟩),
 (207,⟨.map,1,8,[.map none],[.map]⟩),
 (208,⟨.slice 211,1,24,[.slice none 0 0],[.sl]⟩),
 (211,⟨.struct [(0,3),(1,3),(2,29)],3,40,[.int .i64 0,.int .i64 0,.slice none 0 0],[.int .i64,.int .i64,.sl]⟩),
 (213,⟨.struct [(0,29),(1,29)],2,48,[.slice none 0 0,.slice none 0 0],[.sl,.sl]⟩),
 (214,⟨.uN [213,3],1,0,[.tuple #[.agg #[.slice none 0 0,.slice none 0 0],.int .i64 0]],[]⟩),
 (216,⟨.uN [39,28,29,3],1,0,[.tuple #[.slice none 0 0,.slice none 0 0,.slice none 0 0,.int .i64 0]],[]⟩),
 (221,⟨.iface,1,16,[.nilIface],[.any]⟩),
 (224,⟨.iface,1,16,[.nilIface],[.any]⟩),
 (226,⟨.iface,1,16,[.nilIface],[.any]⟩),
 (227,⟨.slice 74,1,24,[.slice none 0 0],[.sl]⟩),
 (231,⟨.iface,1,16,[.nilIface],[.any]⟩),
 (234,⟨.slice 319,1,24,[.slice none 0 0],[.sl]⟩),
 (236,⟨.struct [(0,102),(1,234),(2,2),(3,30)],4,48,[.pointer none,.slice none 0 0,.int .i64 0,.int .u64 0],[.ptr,.sl,.int .i64,.int .u64]⟩),
 (238,⟨.uN [84,3,3],1,0,[.tuple #[.agg #[.int .i64 0,.int .i64 0,.slice none 0 0],.int .i64 0,.int .i64 0]],[]⟩),
 (240,⟨.ptr,1,8,[.pointer none],[.ptr]⟩),
 (242,⟨.struct [(0,3),(1,74)],2,24,[.int .i64 0,.nilIface],[.int .i64,.any]⟩),
 (245,⟨.slice 248,1,24,[.slice none 0 0],[.sl]⟩),
 (247,⟨.struct [(0,245),(1,3)],2,32,[.slice none 0 0,.int .i64 0],[.sl,.int .i64]⟩),
 (248,⟨.int .u32,1,4,[.int .u32 0],[.int .u32]⟩),
 (249,⟨.uN [213,74],1,0,[.tuple #[.agg #[.slice none 0 0,.slice none 0 0],.nilIface]],[]⟩),
 (253,⟨.arr 2 3,2,16,[.int .i64 0,.int .i64 0],[.int .i64,.int .i64]⟩),
 (257,⟨.ptr,1,8,[.pointer none],[.ptr]⟩),
 (258,⟨.map,1,8,[.map none],[.map]⟩),
 (260,⟨.struct [(0,3),(1,3),(2,258),(3,28),(4,29)],5,72,[.int .i64 0,.int .i64 0,.map none,.slice none 0 0,.slice none 0 0],[.int .i64,.int .i64,.map,.sl,.sl]⟩),
 (263,⟨.ptr,1,8,[.pointer none],[.ptr]⟩),
 (265,⟨.struct [(0,22),(1,3)],2,32,[.slice none 0 0,.int .i64 0],[.sl,.int .i64]⟩),
 (266,⟨.uN [84,74],1,0,[.tuple #[.agg #[.int .i64 0,.int .i64 0,.slice none 0 0],.nilIface]],[]⟩),
 (268,⟨.ptr,1,8,[.pointer none],[.ptr]⟩),
 (269,⟨.ptr,1,8,[.pointer none],[.ptr]⟩),
 (271,⟨.struct [(0,3),(1,3),(2,74)],3,32,[.int .i64 0,.int .i64 0,.nilIface],[.int .i64,.int .i64,.any]⟩),
 (273,⟨.ptr,1,8,[.pointer none],[.ptr]⟩),
 (275,⟨.struct [(0,3),(1,74)],2,24,[.int .i64 0,.nilIface],[.int .i64,.any]⟩),
 (276,⟨.uN [84,4],1,0,[.tuple #[.agg #[.int .i64 0,.int .i64 0,.slice none 0 0],.bool false]],[]⟩),
 (278,⟨.slice 294,1,24,[.slice none 0 0],[.sl]⟩),
 (284,⟨.uN [22,74],1,0,[.tuple #[.slice none 0 0,.nilIface]],[]⟩),
 (286,⟨.uN [22,3],1,0,[.tuple #[.slice none 0 0,.int .i64 0]],[]⟩),
 (289,⟨.slice 292,1,24,[.slice none 0 0],[.sl]⟩),
 (292,⟨.struct [(0,3),(1,3)],2,16,[.int .i64 0,.int .i64 0],[.int .i64,.int .i64]⟩),
 (294,⟨.struct [(0,3),(1,3),(2,3)],3,24,[.int .i64 0,.int .i64 0,.int .i64 0],[.int .i64,.int .i64,.int .i64]⟩),
 (296,⟨.slice 21,1,24,[.slice none 0 0],[.sl]⟩),
 (298,⟨.struct [(0,3),(1,2),(2,296)],3,40,[.int .i64 0,.int .i64 0,.slice none 0 0],[.int .i64,.int .i64,.sl]⟩),
 (300,⟨.uN [3,4,4],1,0,[.tuple #[.int .i64 0,.bool false,.bool false]],[]⟩),
 (303,⟨.struct [(0,2),(1,278),(2,213)],4,80,[.int .i64 0,.slice none 0 0,.slice none 0 0,.slice none 0 0],[.int .i64,.sl,.sl,.sl]⟩),
 (307,⟨.ptr,1,8,[.pointer none],[.ptr]⟩),
 (314,⟨.arr 4 3,4,32,[.int .i64 0,.int .i64 0,.int .i64 0,.int .i64 0],[.int .i64,.int .i64,.int .i64,.int .i64]⟩),
 (317,⟨.func,1,8,[.nilFunc],[.any]⟩),
 (319,⟨.struct [(0,2),(1,29),(2,296)],3,56,[.int .i64 0,.slice none 0 0,.slice none 0 0],[.int .i64,.sl,.sl]⟩),
 (322,⟨.ptr,1,8,[.pointer none],[.ptr]⟩),
 (331,⟨.func,1,8,[.nilFunc],[.any]⟩),
 (334,⟨.struct [(0,253),(2,3),(3,3)],4,32,[.int .i64 0,.int .i64 0,.int .i64 0,.int .i64 0],[.int .i64,.int .i64,.int .i64,.int .i64]⟩),
 (336,⟨.uN [29,3],1,0,[.tuple #[.slice none 0 0,.int .i64 0]],[]⟩),
 (338,⟨.ptr,1,8,[.pointer none],[.ptr]⟩),
 (340,⟨.struct [(0,84),(3,278),(4,29)],5,88,[.int .i64 0,.int .i64 0,.slice none 0 0,.slice none 0 0,.slice none 0 0],[.int .i64,.int .i64,.sl,.sl,.sl]⟩),
 (341,⟨.uN [81,81],1,0,[.tuple #[.int .u64 0,.int .u64 0]],[]⟩),
 (349,⟨.slice 353,1,24,[.slice none 0 0],[.sl]⟩),
 (351,⟨.struct [(0,349)],1,24,[.slice none 0 0],[.sl]⟩),
 (353,⟨.struct [(0,3),(1,3)],2,16,[.int .i64 0,.int .i64 0],[.int .i64,.int .i64]⟩),
 (354,⟨.ptr,1,8,[.pointer none],[.ptr]⟩),
 (355,⟨.uN [354,3,4],1,0,[.tuple #[.pointer none,.int .i64 0,.bool false]],[]⟩),
 (358,⟨.ptr,1,8,[.pointer none],[.ptr]⟩),
 (359,⟨.ptr,1,8,[.pointer none],[.ptr]⟩),
 (363,⟨.struct [(0,84),(3,359),(4,278),(5,29)],6,96,[.int .i64 0,.int .i64 0,.slice none 0 0,.pointer none,.slice none 0 0,.slice none 0 0],[.int .i64,.int .i64,.sl,.ptr,.sl,.sl]⟩),
 (367,⟨.uN [30,30],1,0,[.tuple #[.int .u64 0,.int .u64 0]],[]⟩),
 (370,⟨.func,1,8,[.nilFunc],[.any]⟩),
 (372,⟨.int .i64,1,8,[.int .i64 0],[.int .i64]⟩),
 (373,⟨.uN [3,372],1,0,[.tuple #[.int .i64 0,.int .i64 0]],[]⟩),
 (385,⟨.struct [(0,29),(1,3)],2,32,[.slice none 0 0,.int .i64 0],[.sl,.int .i64]⟩),
 (386,⟨.arr 256 385,512,8192,([]++(List.replicate 256 [.slice none 0 0,.int .i64 0]).flatten),([]++(List.replicate 256 [.sl,.int .i64]).flatten)⟩),
 (388,⟨.struct [(0,3),(1,3),(2,386)],514,8208,([.int .i64 0,.int .i64 0]++(List.replicate 256 [.slice none 0 0,.int .i64 0]).flatten),([.int .i64,.int .i64]++(List.replicate 256 [.sl,.int .i64]).flatten)⟩),
 (390,⟨.int .u64,1,8,[.int .u64 0],[.int .u64]⟩),
 (393,⟨.ptr,1,8,[.pointer none],[.ptr]⟩),
 (397,⟨.ptr,1,8,[.pointer none],[.ptr]⟩),
 (400,⟨.ptr,1,8,[.pointer none],[.ptr]⟩)]
noncomputable def T:uF:=aaM rows
noncomputable def fns:List Nat:=[3,4,5,6,7,8,9,10,11,12,13,14,15,16,17,18,19,20,21,22,23,24,25,26,27,28,29,30,31,32,33,34,35,36,37,38,39,40,41,42,43,44,45,46,47,48,49,50,51,52,53,54,55,56,57,58,59,60,61,62,63,64,65,66,67,68,69,70,71,72,73,74,75,76,77,78,79,80,81,82,83,84,85,86,87,88,89,90,91,92,93,94,96,100,101,102,103,104,105,106,107,108,109,110,111,112,113,114,115,116,117,118,119,120,121,122,123,124,125,126,127,128,129,130,131,132,133,134,135,136,137,140,141,142,143,144,145,146,147,148,149,150,151,152,153,154,155,156,157,158,159,160,161,162,163,164,165,166,167,168,169,170,171,172,173,174,175,176,177,178,179,180,181,182,183,184,185,186,187,188,189,190,191,192,193,194,195,196,197,198,199,200,201,202,203,204,205,206,207,208,209,210,211,212,213,214,215,216,217,218,220,221,222,223,224,225,226,227,228,229,230,231,232,233,234,235,236,237,238,240,241,242,243,244,245,246,247,248,249,250,252,253,254,255,256,257,258,259,260,261,262,263,264,265,266,267,268,269,270,271,272,273,274,275,276,277,278,279,280,281,282,302,321,323,325]
noncomputable def cx (n:Nat):Cx:=⟨P,T,λf=>oP f fns,n⟩
def HB:rows.map (λp=>UO P p.1)=rows.map (λp=>some (p.2.d,p.2.size,p.2.bytes,p.2.zero)):=by kernel_rfl
def auf:alo P fns=true:=by kernel_rfl
def ap4:P.follows .mixedOrders=true:=by kernel_rfl
def ok (n:Nat):mJ (cx n):=asJ HB auf ap4 n
abbrev Bk (n:Nat)(fn:Func)(K:Value->World->Prop)(j:Nat)(l:List (Nat×Kd))(B:KP l):Prop:=Y_ (cx n) fn (ahK (cx n) fn K) j l B
def DU:=bC (.o .b)
def BQ:=λb c d e f g i j l m n w (Q:Bool->WP)=>aq P 5 #[ae b,ae c,ae d,.slice e f g,.slice i j l,ae m,ae n] w (DU Q)
def Mr:=bC (.o (.i .i64))
def aS:=λb c d w (Q:Int->WP)=>aq P 10 #[ae b,ae c,ae d] w (Mr Q)
def ajP:=bC (.o .p)
def Em:=λb c w (Q:OA->WP)=>aq P 11 #[ae b,ae c] w (ajP Q)
def IQ:=bC (.g [.i .i64,.i .i64,.i .i64,.i .i64,.l,.l,.i .u64,.i .u64,.i .u64,.i .u64,.i .u64,.i .u64])
def ij:=λb c d e f g i w (Q:Int->Int->Int->Int->L3 (L3 (Int->Int->Int->Int->Int->Int->WP)))=>aq P 12 #[.pointer b,.agg #[ae c,ae d,ae e,.slice f g i]] w (IQ Q)
def Da:=bC (.o .l)
def lE:=λb c d e f w (Q:L3 WP)=>aq P 13 #[.agg #[ae b,ae c,.slice d e f]] w (Da Q)
def Ph:=bC (.o .l)
def v7:=λb w (Q:L3 WP)=>aq P 14 #[.pointer b] w (Ph Q)
def Pj:=bC (.o .b)
def v8:=λw (Q:Bool->WP)=>aq P 15 #[] w (Pj Q)
def fK:=bC (.o .l)
def uS:=λb c d e f g i j w (Q:L3 WP)=>aq P 16 #[ae b,ae c,.slice d e f,.slice g i j] w (fK Q)
def TT:=bC (.o .l)
def yH:=λb c d e w (Q:L3 WP)=>aq P 17 #[.slice b c d,ae e] w (TT Q)
def DV:=bC (.o .p)
def uT:=λb c d e f g i j l m w (Q:OA->WP)=>aq P 18 #[ae b,ae c,ae d,ae e,.slice f g i,.slice j l m] w (DV Q)
def TU:=bC (.g [.i .i64,.i .i64,.l])
def n7:=λb w (Q:Int->Int->L3 WP)=>aq P 19 #[.pointer b] w (TU Q)
def Pm:=fY [.o (.i .i64),.o (.i .i64),.o .b]
def qg:=λb c d w (Q:Int->Int->Bool->WP)=>aq P 20 #[.pointer b,ae c,ae d] w (Pm Q)
def CF:=bC (.o (.i .i64))
def l6:=λb c d e w (Q:Int->WP)=>aq P 21 #[ae b,ae c,ae d,ae e] w (CF Q)
def Pn:=bC (.g [.i .u64,.i .u64,.i .u64,.i .u64,.i .u64,.i .u64])
def v9:=λb w (Q:Int->Int->Int->Int->Int->Int->WP)=>aq P 22 #[.pointer b] w (Pn Q)
def Of:=bC (.o (.i .i64))
def o6:=λb c w (Q:Int->WP)=>aq P 23 #[ae b,ae c] w (Of Q)
def ajQ:=bC (.o .p)
def Jn:=λb w (Q:OA->WP)=>aq P 27 #[ae b] w (ajQ Q)
def BR:=bC (.o .w)
def zW:=λb c d e f g i j w (Q:Value->WP)=>aq P 28 #[.pointer b,.agg #[ae c,ae d,ae e,.slice f g i],.pointer j] w (BR Q)
def ahM:=bC (.o (.i .i64))
def CG:=λb w (Q:Int->WP)=>aq P 29 #[b] w (ahM Q)
def KZ:=fY [.o (.i .i64),.o .l]
def sJ:=λb c d e f w (Q:Int->L3 WP)=>aq P 30 #[.agg #[ae b,ae c,.slice d e f]] w (KZ Q)
def Db:=bC (.g [.i .i64,.i .i64,.l])
def tK:=λb c d e f g w (Q:Int->Int->L3 WP)=>aq P 31 #[.agg #[ae b,ae c,.slice d e f],ae g] w (Db Q)
def TV:=bC (.o .p)
def Fb:=λb w (Q:OA->WP)=>aq P 32 #[.pointer b] w (TV Q)
def Po:=bC (.o .l)
def mV:=λb w (Q:L3 WP)=>aq P 33 #[.pointer b] w (Po Q)
def Dc:=bC (.o .b)
def tL:=λb c d e f g w (Q:Bool->WP)=>aq P 34 #[.slice b c d,.slice e f g] w (Dc Q)
def rU:=bC (.g [.i .i64,.i .i64,.l])
def qh:=λb c d e f w (Q:Int->Int->L3 WP)=>aq P 35 #[ae b,ae c,.slice d e f] w (rU Q)
def Pp:=bC (.o (.i .u8))
def qi:=λb w (Q:Int->WP)=>aq P 36 #[.int .u8 b] w (Pp Q)
def Fc:=bC (.g [.i .i64,.i .i64,.i .i64,.l])
def v_:=λb c d e w (Q:Int->Int->Int->L3 WP)=>aq P 37 #[.agg #[ae b,ae c,ae d],ae e] w (Fc Q)
def Ms:=bC (.o .b)
def tM:=λb c d e f w (Q:Bool->WP)=>aq P 38 #[.agg #[ae b,ae c,.slice d e f]] w (Ms Q)
def TX:=bC (.o .p)
def yI:=λb w (Q:OA->WP)=>aq P 39 #[.pointer b] w (TX Q)
def aa1:=bC (.g [.i .i64,.i .i64,.l])
def Dv:=λb w (Q:Int->Int->L3 WP)=>aq P 40 #[.pointer b] w (aa1 Q)
def aa2:=fY [.o (.i .i64),.o (.i .i64)]
def sV:=λb c d w (Q:Int->Int->WP)=>aq P 41 #[ae b,ae c,ae d] w (aa2 Q)
def ac9:=bC (.o (.i .i64))
def zX:=λb c d e w (Q:Int->WP)=>aq P 42 #[ae b,ae c,ae d,ae e] w (ac9 Q)
def Xy:=bC (.g [.i .u64,.i .u64,.i .u64,.i .u64,.i .u64,.i .u64])
def AZ:=λb w (Q:Int->Int->Int->Int->Int->Int->WP)=>aq P 43 #[.pointer b] w (Xy Q)
def K0:=fY [.o (.i .i64),.o (.i .i64)]
def kM:=λb c w (Q:Int->Int->WP)=>aq P 44 #[ae b,ae c] w (K0 Q)
def afV:=bC (.o .p)
def F2:=λb w (Q:OA->WP)=>aq P 47 #[ae b] w (afV Q)
def alu:=bC (.o .b)
def K1:=λb c d e f g w (Q:Bool->WP)=>aq P 48 #[.agg #[ae b,ae c,ae d,.slice e f g]] w (alu Q)
def Fe:=bC (.o .w)
def wc:=λb c d e f g i w (Q:Value->WP)=>aq P 49 #[.pointer b,.agg #[ae c,ae d,ae e,.slice f g i]] w (Fe Q)
def RF:=bC (.o .w)
def xL:=λb c d e w (Q:Value->WP)=>aq P 50 #[.pointer b,.slice c d e] w (RF Q)
def Xz:=fY []
def vw:=λb w (Q:WP)=>aq P 51 #[.pointer b] w (Xz Q)
def F3:=bC (.o .w)
def xM:=λb c d w (Q:Value->WP)=>aq P 52 #[.pointer b,ae c,ae d] w (F3 Q)
def Pq:=fY [.o (.i .i64),.o .w]
def we:=λb c d w (Q:Int->Value->WP)=>aq P 53 #[.pointer b,ae c,ae d] w (Pq Q)
def ac_:=bC (.o .w)
def gh:=λb w (Q:Value->WP)=>aq P 54 #[ae b] w (ac_ Q)
def K2:=bC (.o (.i .i64))
def sK:=λb c d w (Q:Int->WP)=>aq P 55 #[.pointer b,ae c,ae d] w (K2 Q)
def Mt:=bC (.o (.i .i64))
def tN:=λb c w (Q:Int->WP)=>aq P 56 #[.pointer b,ae c] w (Mt Q)
def Pt:=bC (.o .w)
def wg:=λb c d e w (Q:Value->WP)=>aq P 57 #[.pointer b,.pointer c,ae d,ae e] w (Pt Q)
def RG:=bC (.o .w)
def xN:=λb c w (Q:Value->WP)=>aq P 58 #[.pointer b,.pointer c] w (RG Q)
def afW:=bC (.o .b)
def o7:=λb c w (Q:Bool->WP)=>aq P 59 #[b,c] w (afW Q)
def Jo:=bC (.o .b)
def ni:=λb c w (Q:Bool->WP)=>aq P 60 #[b,c] w (Jo Q)
def lQ:=bC (.o .l)
def wj:=λb c d w (Q:L3 WP)=>aq P 61 #[.slice b c d] w (lQ Q)
def Pu:=fY [.o (.i .i64),.o (.i .i64)]
def qj:=λb c d w (Q:Int->Int->WP)=>aq P 62 #[ae b,ae c,ae d] w (Pu Q)
def Mu:=bC (.o (.i .i64))
def tO:=λb c d e w (Q:Int->WP)=>aq P 63 #[ae b,ae c,ae d,ae e] w (Mu Q)
def G9:=bC (.o .l)
def yJ:=λb w (Q:L3 WP)=>aq P 64 #[.pointer b] w (G9 Q)
def RH:=bC (.o .b)
def q9:=λb c w (Q:Bool->WP)=>aq P 65 #[ae b,ae c] w (RH Q)
def Ff:=bC (.o .b)
def Dd:=λb c d w (Q:Bool->WP)=>aq P 66 #[.slice b c d] w (Ff Q)
def XA:=bC (.g [.i .i64,.i .i64,.l])
def A0:=λb w (Q:Int->Int->L3 WP)=>aq P 67 #[.pointer b] w (XA Q)
def ahN:=bC (.o .b)
def yK:=λb c d w (Q:Bool->WP)=>aq P 68 #[ae b,ae c,ae d] w (ahN Q)
def afX:=bC (.o .b)
def lF:=λb c w (Q:Bool->WP)=>aq P 69 #[ae b,ae c] w (afX Q)
def Jp:=bC (.g [.i .u64,.i .u64,.i .u64,.i .u64,.i .u64,.i .u64])
def wS:=λb c d e f g i j l m n o w (Q:Int->Int->Int->Int->Int->Int->WP)=>aq P 70 #[.agg #[.int .u64 b,.int .u64 c,.int .u64 d,.int .u64 e,.int .u64 f,.int .u64 g],.agg #[.int .u64 i,.int .u64 j,.int .u64 l,.int .u64 m,.int .u64 n,.int .u64 o]] w (Jp Q)
def Vd:=bC (.g [.i .u64,.i .u64,.i .u64,.i .u64,.i .u64,.i .u64])
def tP:=λb w (Q:Int->Int->Int->Int->Int->Int->WP)=>aq P 71 #[.pointer b] w (Vd Q)
def Pv:=bC (.g [.i .u64,.i .u64,.i .u64,.i .u64,.i .u64,.i .u64])
def wk:=λb w (Q:Int->Int->Int->Int->Int->Int->WP)=>aq P 72 #[.pointer b] w (Pv Q)
def ajR:=bC (.o .p)
def Jq:=λb w (Q:OA->WP)=>aq P 74 #[ae b] w (ajR Q)
def alv:=bC (.o .b)
def K3:=λb c d w (Q:Bool->WP)=>aq P 75 #[.slice b c d] w (alv Q)
def Jr:=fY [.g [.i .i64,.i .i64,.b],.o .b]
def wT:=λb w (Q:Int->Int->Bool->Bool->WP)=>aq P 76 #[ae b] w (Jr Q)
def ajS:=bC (.o .b)
def AF:=λb c w (Q:Bool->WP)=>aq P 77 #[ae b,ae c] w (ajS Q)
def Za:=bC (.o (.i .i64))
def rG:=λb c w (Q:Int->WP)=>aq P 78 #[.pointer b,ae c] w (Za Q)
def afY:=fY [.g [.i .i64,.i .i64,.l],.o (.i .i64)]
def F4:=λb c d w (Q:Int->Int->L3 (Int->WP))=>aq P 79 #[.slice b c d] w (afY Q)
def Zb:=bC (.o (.i .i64))
def BS:=λb c d e f g w (Q:Int->WP)=>aq P 80 #[.pointer b,.agg #[ae c,ae d,.slice e f g]] w (Zb Q)
def afZ:=bC (.o .p)
def F5:=λb c d w (Q:OA->WP)=>aq P 81 #[ae b,ae c,ae d] w (afZ Q)
def Pw:=fY []
def qk:=λb w (Q:WP)=>aq P 82 #[.pointer b] w (Pw Q)
def Px:=fY []
def ql:=λb w (Q:WP)=>aq P 83 #[.pointer b] w (Px Q)
def TY:=bC (.o (.i .i64))
def yL:=λb c w (Q:Int->WP)=>aq P 84 #[.pointer b,ae c] w (TY Q)
def Zc:=bC (.o (.i .i64))
def BT:=λb c d w (Q:Int->WP)=>aq P 85 #[.pointer b,ae c,ae d] w (Zc Q)
def Py:=fY [.o (.i .i64),.o (.i .i64)]
def wm:=λb c d w (Q:Int->Int->WP)=>aq P 86 #[.pointer b,ae c,ae d] w (Py Q)
def TZ:=fY [.g [.i .i64,.i .i64,.i .i64],.o .b]
def iR:=λb c w (Q:Int->Int->Int->Bool->WP)=>aq P 87 #[.pointer b,ae c] w (TZ Q)
def Ve:=bC (.o .b)
def o8:=λb c w (Q:Bool->WP)=>aq P 88 #[.pointer b,ae c] w (Ve Q)
def rV:=bC (.o (.i .i64))
def mW:=λb c d e w (Q:Int->WP)=>aq P 89 #[.pointer b,ae c,ae d,ae e] w (rV Q)
def RI:=fY []
def nG:=λb c d e w (Q:WP)=>aq P 90 #[.pointer b,.agg #[ae c,ae d,ae e]] w (RI Q)
def T0:=bC (.o .b)
def yM:=λb c d w (Q:Bool->WP)=>aq P 91 #[.pointer b,ae c,ae d] w (T0 Q)
def Zd:=fY [.o (.i .i64),.o (.i .i64),.o (.i .i64)]
def BU:=λb c d w (Q:Int->Int->Int->WP)=>aq P 92 #[.pointer b,ae c,ae d] w (Zd Q)
def jh:=fY [.o .l,.o .w]
def xO:=λb c d e w (Q:L3 (Value->WP))=>aq P 93 #[.pointer b,.slice c d e] w (jh Q)
def tQ:=fY [.o .l,.o .l,.o (.i .i64)]
def xP:=λb c d e w (Q:L3 (L3 (Int->WP)))=>aq P 94 #[.pointer b,.slice c d e] w (tQ Q)
def pU:=bC (.o .b)
def wU:=λb c d w (Q:Bool->WP)=>aq P 96 #[b,c,.bool d] w (pU Q)
def wI:=bC (.o .b)
def F6:=λb c d e f g w (Q:Bool->WP)=>aq P 100 #[b,c,.agg #[.pointer d,.pointer e,.int .u64 f],g] w (wI Q)
def T1:=bC (.o .b)
def lR:=λb c d w (Q:Bool->WP)=>aq P 101 #[ae b,ae c,ae d] w (T1 Q)
def Fg:=bC (.o .l)
def qm:=λb w (Q:L3 WP)=>aq P 102 #[.pointer b] w (Fg Q)
def Js:=bC (.o .l)
def jJ:=λb c d w (Q:L3 WP)=>aq P 103 #[.slice b c d] w (Js Q)
def Ze:=bC (.g [.i .u64,.i .u64,.i .u64,.i .u64,.i .u64,.i .u64])
def cW:=λb c d e f g w (Q:Int->Int->Int->Int->Int->Int->WP)=>aq P 104 #[.agg #[.int .u64 b,.int .u64 c,.int .u64 d,.int .u64 e,.int .u64 f,.int .u64 g]] w (Ze Q)
def af0:=bC (.o (.i .u64))
def rW:=λb c w (Q:Int->WP)=>aq P 105 #[.int .u64 b,.int .u64 c] w (af0 Q)
def T2:=bC (.o (.i .u64))
def rX:=λb w (Q:Int->WP)=>aq P 106 #[.pointer b] w (T2 Q)
def Og:=bC (.o (.i .u64))
def o9:=λb w (Q:Int->WP)=>aq P 107 #[.pointer b] w (Og Q)
def XB:=fY []
def vz:=λb w (Q:WP)=>aq P 108 #[.pointer b] w (XB Q)
def ajT:=fY [.g [.i .i64,.i .i64,.i .i64,.l],.o (.i .i64)]
def Jt:=λb c d w (Q:Int->Int->Int->L3 (Int->WP))=>aq P 109 #[.slice b c d] w (ajT Q)
def Vf:=bC (.o (.i .i64))
def e_:=λb c w (Q:Int->WP)=>aq P 110 #[.pointer b,ae c] w (Vf Q)
def Pz:=fY [.g [.i .i64,.i .i64,.l],.o .w]
def EH:=λb c d w (Q:Int->Int->L3 (Value->WP))=>aq P 111 #[.slice b c d] w (Pz Q)
def af1:=bC (.o .b)
def Bg:=λb c d e f w (Q:Bool->WP)=>aq P 112 #[.agg #[ae b,ae c,.slice d e f]] w (af1 Q)
def Vg:=bC (.o .p)
def HC:=λb c d e f g w (Q:OA->WP)=>aq P 113 #[.agg #[ae b,ae c,.slice d e f],ae g] w (Vg Q)
def T3:=bC (.o (.i .i64))
def fZ:=λb w (Q:Int->WP)=>aq P 114 #[.pointer b] w (T3 Q)
def ahO:=bC (.o .p)
def HD:=λb w (Q:OA->WP)=>aq P 115 #[.pointer b] w (ahO Q)
def af2:=bC (.o .p)
def F7:=λb c w (Q:OA->WP)=>aq P 116 #[.pointer b,.pointer c] w (af2 Q)
def af3:=bC (.o .p)
def F8:=λb w (Q:OA->WP)=>aq P 117 #[ae b] w (af3 Q)
def af4:=bC (.o .p)
def F9:=λb w (Q:OA->WP)=>aq P 118 #[ae b] w (af4 Q)
def T4:=bC (.o (.i .i64))
def lT:=λb c w (Q:Int->WP)=>aq P 119 #[.pointer b,ae c] w (T4 Q)
def Vh:=bC (.o (.i .i64))
def zY:=λb c d w (Q:Int->WP)=>aq P 120 #[.pointer b,ae c,ae d] w (Vh Q)
def T5:=fY [.o (.i .i64),.o .b]
def yN:=λb c d w (Q:Int->Bool->WP)=>aq P 121 #[.pointer b,ae c,ae d] w (T5 Q)
def T6:=bC (.o .b)
def rY:=λb c d w (Q:Bool->WP)=>aq P 122 #[.pointer b,ae c,ae d] w (T6 Q)
def Zf:=bC (.o (.i .i64))
def dY:=λb c d w (Q:Int->WP)=>aq P 123 #[ae b,ae c,ae d] w (Zf Q)
def T7:=bC (.o (.i .i64))
def yO:=λb w (Q:Int->WP)=>aq P 124 #[.pointer b] w (T7 Q)
def RJ:=bC (.o .b)
def xQ:=λb c w (Q:Bool->WP)=>aq P 125 #[.pointer b,ae c] w (RJ Q)
def RK:=bC (.o (.i .i64))
def q_:=λb c w (Q:Int->WP)=>aq P 126 #[.pointer b,ae c] w (RK Q)
def T8:=bC (.o .b)
def rZ:=λb c d w (Q:Bool->WP)=>aq P 127 #[.pointer b,ae c,d] w (T8 Q)
def PA:=fY []
def De:=λb c w (Q:WP)=>aq P 128 #[.pointer b,.pointer c] w (PA Q)
def Zg:=fY [.o (.i .i64),.o (.i .i64),.o .w]
def BV:=λb c d w (Q:Int->Int->Value->WP)=>aq P 129 #[.pointer b,ae c,ae d] w (Zg Q)
def ahP:=bC (.o (.i .i64))
def yP:=λb w (Q:Int->WP)=>aq P 130 #[b] w (ahP Q)
def Zh:=fY [.o (.i .i64),.o (.i .i64)]
def wV:=λb w (Q:Int->Int->WP)=>aq P 131 #[.pointer b] w (Zh Q)
def aa3:=bC (.o (.i .i64))
def nf:=λb c d w (Q:Int->WP)=>aq P 132 #[ae b,ae c,ae d] w (aa3 Q)
def yQ:=bC (.o .l)
def EI:=λb c d e f w (Q:L3 WP)=>aq P 133 #[ae b,ae c,.slice d e f] w (yQ Q)
def XC:=fY [.g [.l,.l],.o (.i .i64)]
def vA:=λb c d w (Q:L3 (L3 (Int->WP)))=>aq P 134 #[.pointer b,ae c,ae d] w (XC Q)
def K4:=fY [.o .l,.o .l,.o .l,.o (.i .i64)]
def HE:=λb c d e f g i j w (Q:L3 (L3 (L3 (Int->WP))))=>aq P 135 #[ae b,ae c,.slice d e f,.slice g i j] w (K4 Q)
def PB:=bC (.o .b)
def wo:=λb c d w (Q:Bool->WP)=>aq P 136 #[.pointer b,ae c,ae d] w (PB Q)
def RL:=bC (.o .b)
def xR:=λb c d w (Q:Bool->WP)=>aq P 137 #[.pointer b,ae c,ae d] w (RL Q)
def Tp:=bC (.o (.i .i64))
def wW:=λb c d w (Q:Int->WP)=>aq P 140 #[.slice b c d] w (Tp Q)
def ada:=bC (.o (.i .i64))
def EJ:=λb c w (Q:Int->WP)=>aq P 141 #[ae b,ae c] w (ada Q)
def adb:=fY [.o (.i .i64),.o (.i .i64)]
def nW:=λb c d w (Q:Int->Int->WP)=>aq P 142 #[ae b,ae c,ae d] w (adb Q)
def Vi:=fY [.g [.i .i64,.i .i64,.l],.o (.i .i64),.o (.i .i64)]
def HF:=λb c d e f w (Q:Int->Int->L3 (Int->Int->WP))=>aq P 143 #[.slice b c d,ae e,ae f] w (Vi Q)
def Tq:=fY []
def F_:=λb c d e f g i j l m n w (Q:WP)=>aq P 144 #[.agg #[ae b,ae c,.slice d e f],ae g,.agg #[ae i,ae j,.slice l m n]] w (Tq Q)
def G2:=bC (.o .b)
def iW:=λb c d e w (Q:Bool->WP)=>aq P 145 #[.slice b c d,.int .u8 e] w (G2 Q)
def XD:=fY [.o (.i .i64),.o (.i .i64)]
def k_:=λb c w (Q:Int->Int->WP)=>aq P 146 #[ae b,ae c] w (XD Q)
def Vj:=fY [.o (.i .i64),.o (.i .i64)]
def eM:=λb w (Q:Int->Int->WP)=>aq P 147 #[.pointer b] w (Vj Q)
def Vk:=bC (.o .b)
def tR:=λb c w (Q:Bool->WP)=>aq P 148 #[.pointer b,ae c] w (Vk Q)
def RM:=bC (.o .b)
def rf:=λb c w (Q:Bool->WP)=>aq P 149 #[.pointer b,ae c] w (RM Q)
def yn:=fY [.g [.l,.l],.o .w]
def vB:=λb c d w (Q:L3 (L3 (Value->WP)))=>aq P 150 #[.pointer b,ae c,ae d] w (yn Q)
def Vl:=bC (.o .b)
def CH:=λb c d e f w (Q:Bool->WP)=>aq P 151 #[ae b,ae c,.slice d e f] w (Vl Q)
def PC:=bC (.o .l)
def EK:=λb c d w (Q:L3 WP)=>aq P 152 #[.slice b c d] w (PC Q)
def ade:=bC (.o .b)
def K5:=λb w (Q:Bool->WP)=>aq P 153 #[ae b] w (ade Q)
def FJ:=bC (.o .b)
def nH:=λb c d e w (Q:Bool->WP)=>aq P 154 #[.slice b c d,e] w (FJ Q)
def Ga:=bC (.o .b)
def xS:=λb c d w (Q:Bool->WP)=>aq P 155 #[.pointer b,.pointer c,ae d] w (Ga Q)
def Oh:=fY []
def BW:=λb c w (Q:WP)=>aq P 156 #[.pointer b,.pointer c] w (Oh Q)
def Zi:=fY [.o (.i .i64),.o (.i .i64),.o .b]
def wX:=λb c d w (Q:Int->Int->Bool->WP)=>aq P 157 #[ae b,ae c,ae d] w (Zi Q)
def zZ:=fY [.g [.i .i64,.i .i64,.l],.o .w]
def xU:=λb c d w (Q:Int->Int->L3 (Value->WP))=>aq P 158 #[.pointer b,ae c,ae d] w (zZ Q)
def Zj:=bC (.o (.i .i64))
def n8:=λb c d e w (Q:Int->WP)=>aq P 159 #[ae b,ae c,ae d,ae e] w (Zj Q)
def AG:=bC (.o (.i .i64))
def yR:=λb c d e w (Q:Int->WP)=>aq P 160 #[.slice b c d,.int .u8 e] w (AG Q)
def IS:=fY [.g [.i .i64,.i .i64,.l],.o .b]
def tS:=λb c w (Q:Int->Int->L3 (Bool->WP))=>aq P 161 #[.pointer b,ae c] w (IS Q)
def z0:=bC (.o .l)
def BX:=λb c d w (Q:L3 WP)=>aq P 162 #[.pointer b,.pointer c,ae d] w (z0 Q)
def yS:=bC (.o .p)
def wq:=λb c w (Q:OA->WP)=>aq P 163 #[.pointer b,ae c] w (yS Q)
def nC:=fY [.g [.l,.l],.o (.i .i64)]
def n9:=λb c d e f g i j l m n o w (Q:L3 (L3 (Int->WP)))=>aq P 164 #[.pointer b,ae c,ae d,ae e,.agg #[ae f,ae g,.slice i j l],.slice m n o] w (nC Q)
def PD:=bC (.o (.i .i64))
def ja:=λb c w (Q:Int->WP)=>aq P 165 #[.pointer b,ae c] w (PD Q)
def yT:=bC (.o (.i .i64))
def wY:=λb c d e w (Q:Int->WP)=>aq P 166 #[.slice b c d,e] w (yT Q)
def RN:=fY [.o .l,.o .w]
def xV:=λb c w (Q:L3 (Value->WP))=>aq P 167 #[.pointer b,ae c] w (RN Q)
def ahQ:=fY [.o .l,.o (.i .i64)]
def HG:=λb c d e f w (Q:L3 (Int->WP))=>aq P 168 #[.agg #[ae b,ae c,.slice d e f]] w (ahQ Q)
def aa4:=bC (.o .b)
def Dw:=λb c d e f g w (Q:Bool->WP)=>aq P 169 #[.slice b c d,.slice e f g] w (aa4 Q)
def PE:=bC (.o (.i .i64))
def wu:=λb w (Q:Int->WP)=>aq P 170 #[.pointer b] w (PE Q)
def K6:=bC (.o .l)
def n_:=λb c w (Q:L3 WP)=>aq P 171 #[.pointer b,ae c] w (K6 Q)
def K7:=bC (.o .l)
def BY:=λb c w (Q:L3 WP)=>aq P 172 #[.pointer b,ae c] w (K7 Q)
def Vm:=bC (.o (.i .i64))
def z6:=λb c w (Q:Int->WP)=>aq P 173 #[.pointer b,ae c] w (Vm Q)
def PF:=bC (.o (.i .i64))
def EL:=λb c d e w (Q:Int->WP)=>aq P 174 #[ae b,ae c,ae d,ae e] w (PF Q)
def RO:=bC (.o (.i .i64))
def xW:=λb w (Q:Int->WP)=>aq P 175 #[.pointer b] w (RO Q)
def adf:=bC (.o .l)
def kE:=λb c d w (Q:L3 WP)=>aq P 176 #[.slice b c d] w (adf Q)
def Fh:=bC (.o (.i .i64))
def wv:=λb w (Q:Int->WP)=>aq P 177 #[.pointer b] w (Fh Q)
def jb:=bC (.o .p)
def tT:=λb c w (Q:OA->WP)=>aq P 178 #[.pointer b,ae c] w (jb Q)
def af5:=bC (.o .b)
def Bh:=λb c d e f g i j w (Q:Bool->WP)=>aq P 179 #[.agg #[ae b,ae c,.slice d e f],.slice g i j] w (af5 Q)
def Nl:=fY [.o (.i .i64),.o .b,.o .b]
def Dx:=λb c d w (Q:Int->Bool->Bool->WP)=>aq P 180 #[.pointer b,ae c,ae d] w (Nl Q)
def adg:=bC (.o .b)
def EM:=λb c d e f g w (Q:Bool->WP)=>aq P 181 #[.slice b c d,.slice e f g] w (adg Q)
def af6:=fY []
def r6:=λb w (Q:WP)=>aq P 182 #[.pointer b] w (af6 Q)
def af7:=bC (.g [.l,.l])
def Bi:=λb c d e f g w (Q:L3 (L3 WP))=>aq P 183 #[.agg #[.slice b c d,.slice e f g]] w (af7 Q)
def Nm:=fY [.g [.l,.l],.o (.i .i64)]
def Dy:=λb c d e f g i j w (Q:L3 (L3 (Int->WP)))=>aq P 184 #[.agg #[ae b,ae c,.slice d e f],.slice g i j] w (Nm Q)
def Dz:=bC (.o .l)
def ji:=λb c d w (Q:L3 WP)=>aq P 185 #[.slice b c d] w (Dz Q)
def RP:=fY [.o .l,.o .w]
def nI:=λb c w (Q:L3 (Value->WP))=>aq P 186 #[.pointer b,ae c] w (RP Q)
def PG:=fY [.o .l,.o .w]
def qo:=λb c w (Q:L3 (Value->WP))=>aq P 187 #[.pointer b,ae c] w (PG Q)
def z7:=bC (.o .l)
def rH:=λb c d e w (Q:L3 WP)=>aq P 188 #[.slice b c d,ae e] w (z7 Q)
def tU:=fY [.o .l,.o .w]
def xX:=λb c w (Q:L3 (Value->WP))=>aq P 189 #[.pointer b,ae c] w (tU Q)
def ahR:=bC (.o .b)
def uJ:=λb c d e f w (Q:Bool->WP)=>aq P 190 #[.agg #[ae b,ae c,.slice d e f]] w (ahR Q)
def CI:=fY [.o (.i .i64),.o .l]
def EO:=λb c d e f w (Q:Int->L3 WP)=>aq P 191 #[.agg #[ae b,ae c,.slice d e f]] w (CI Q)
def uU:=bC (.o .l)
def BZ:=λb c d w (Q:L3 WP)=>aq P 192 #[ae b,ae c,ae d] w (uU Q)
def aa5:=bC (.o .b)
def sW:=λb c w (Q:Bool->WP)=>aq P 193 #[.pointer b,ae c] w (aa5 Q)
def Zk:=bC (.g [.i .i64,.i .i64,.i .i64,.i .i64])
def wZ:=λw (Q:Int->Int->Int->Int->WP)=>aq P 194 #[] w (Zk Q)
def aa6:=bC (.o (.i .i64))
def yo:=λb c d e w (Q:Int->WP)=>aq P 195 #[ae b,ae c,ae d,ae e] w (aa6 Q)
def BA:=fY []
def kN:=λb c d e w (Q:WP)=>aq P 196 #[.slice b c d,e] w (BA Q)
def aa7:=bC (.o (.i .i64))
def DA:=λb c d e f g w (Q:Int->WP)=>aq P 197 #[.agg #[ae b,ae c,ae d],.agg #[ae e,ae f,ae g]] w (aa7 Q)
def jj:=bC (.o .l)
def ld:=λb c d w (Q:L3 WP)=>aq P 198 #[.slice b c d] w (jj Q)
def G_:=bC (.o .l)
def yU:=λb w (Q:L3 WP)=>aq P 199 #[.pointer b] w (G_ Q)
def w8:=bC (.g [.i .i64,.l,.l])
def z8:=λb c w (Q:Int->L3 (L3 WP))=>aq P 200 #[.pointer b,ae c] w (w8 Q)
def p9:=bC (.o .l)
def oR:=λb c d e w (Q:L3 WP)=>aq P 201 #[.slice b c d,ae e] w (p9 Q)
def ahS:=bC (.o .p)
def CJ:=λw (Q:OA->WP)=>aq P 202 #[] w (ahS Q)
def ko:=bC (.o .m)
def tV:=λb c w (Q:ON->WP)=>aq P 203 #[.pointer b,ae c] w (ko Q)
def T9:=bC (.o .l)
def yV:=λb c w (Q:L3 WP)=>aq P 204 #[.pointer b,ae c] w (T9 Q)
def RQ:=bC (.o .b)
def ri:=λb c d w (Q:Bool->WP)=>aq P 205 #[.pointer b,ae c,ae d] w (RQ Q)
def Vn:=fY []
def mK:=λb c d w (Q:WP)=>aq P 206 #[.pointer b,ae c,ae d] w (Vn Q)
def DB (Q:Int->Int->Bool->World->Prop)(v:Value)(w:World):Prop:=
 dT v λc=>dH c λd e=>dI .i64 d λf=>dH e λg i=>dI .i64 g λj=>dH i λl m=>dB l λn=>kL m<|Q f j n w
def jE:=λb w (Q:Int->Int->Bool->WP)=>aq P 207 #[.pointer b] w (DB Q)
def He {b:Option Addr}{w:World}{Q Q':Int->Int->Bool->World->Prop}(hq:∀a b c w,Q a b c w->Q' a b c w)(h:jE b w Q):jE b w Q':=by
 refine aq.mono ?_ h
 intro v w' h0
 unfold DB at h0⊢
 obtain⟨c,rfl,h1⟩:=acW h0
 obtain⟨d,e,rfl,h2⟩:=jF h1
 obtain⟨f,rfl,h3⟩:=Cz h2
 obtain⟨g,i,rfl,h4⟩:=jF h3
 obtain⟨j,rfl,h5⟩:=Cz h4
 obtain⟨l,m,rfl,h6⟩:=jF h5
 obtain⟨n,rfl,h7⟩:=Hs h6
 obtain⟨rfl,h8⟩:=rC h7
 exact hq _ _ _ w' h8
def B0:=bC (.o .l)
def z9:=λb c w (Q:L3 WP)=>aq P 208 #[.pointer b,ae c] w (B0 Q)
def zF:=bC (.o .b)
def nT:=λb c d e w (Q:Bool->WP)=>aq P 209 #[.slice b c d,e] w (zF Q)
def aa8:=bC (.o .b)
def DC:=λb c d e w (Q:Bool->WP)=>aq P 210 #[.agg #[ae b,ae c,ae d],.pointer e] w (aa8 Q)
def af8:=bC (.o .b)
def Gb:=λb c d e f g i w (Q:Bool->WP)=>aq P 211 #[.agg #[ae b,ae c,.slice d e f],ae g,ae i] w (af8 Q)
def IT:=fY []
def tW:=λb c w (Q:WP)=>aq P 212 #[.pointer b,ae c] w (IT Q)
def K8:=fY []
def w9:=λb c w (Q:WP)=>aq P 213 #[.pointer b,ae c] w (K8 Q)
def sX:=bC (.o .b)
def rI:=λb c d e f g w (Q:Bool->WP)=>aq P 214 #[.slice b c d,.slice e f g] w (sX Q)
def K9:=bC (.o .l)
def kO:=λb c d w (Q:L3 WP)=>aq P 215 #[.slice b c d] w (K9 Q)
def K_:=fY [.o .l,.o (.i .i64)]
def w_:=λb c d e f g i j w (Q:L3 (Int->WP))=>aq P 216 #[.agg #[ae b,ae c,.slice d e f],.slice g i j] w (K_ Q)
def Vo:=bC (.o (.i .i64))
def z_:=λb c w (Q:Int->WP)=>aq P 217 #[.pointer b,ae c] w (Vo Q)
def XE:=fY [.o (.i .u64),.o (.i .u64)]
def qw:=λb c w (Q:Int->Int->WP)=>aq P 218 #[.int .u64 b,.int .u64 c] w (XE Q)
def adh:=bC (.o .b)
def Aa:=λb w (Q:Bool->WP)=>aq P 220 #[ae b] w (adh Q)
def yW:=bC (.o .l)
def HH:=λb c d e f g w (Q:L3 WP)=>aq P 221 #[.agg #[ae b,ae c,.slice d e f],ae g] w (yW Q)
def EP:=bC (.o .l)
def B2:=λb c d w (Q:L3 WP)=>aq P 222 #[ae b,ae c,ae d] w (EP Q)
def cI:=fY []
def fk:=λb c d e f g i w (Q:WP)=>aq P 223 #[.slice b c d,ae e,ae f,ae g,i] w (cI Q)
def XF:=bC (.o (.i .i64))
def vC:=λb w (Q:Int->WP)=>aq P 224 #[.int .u64 b] w (XF Q)
def PI:=bC (.o (.i .i64))
def ER:=λb c d w (Q:Int->WP)=>aq P 225 #[.slice b c d] w (PI Q)
def T_:=bC (.o (.i .i64))
def oe:=λb c w (Q:Int->WP)=>aq P 226 #[ae b,ae c] w (T_ Q)
def CK:=fY [.o .l,.o (.i .i64)]
def ES:=λb c d e f g i j w (Q:L3 (Int->WP))=>aq P 227 #[.agg #[ae b,ae c,.slice d e f],.slice g i j] w (CK Q)
def La:=fY []
def B3:=λb w (Q:WP)=>aq P 228 #[.pointer b] w (La Q)
def XG:=fY [.o (.i .i64),.o (.i .i64),.o .b]
def A2:=λb w (Q:Int->Int->Bool->WP)=>aq P 229 #[.pointer b] w (XG Q)
def og:=fY []
def Ab:=λb w (Q:WP)=>aq P 230 #[.pointer b] w (og Q)
def Vp:=fY [.o .p,.o (.i .i64),.o .b]
def tX:=λb c w (Q:OA->Int->Bool->WP)=>aq P 231 #[.pointer b,ae c] w (Vp Q)
def PJ:=bC (.o (.i .i64))
def wB:=λb c d w (Q:Int->WP)=>aq P 232 #[.pointer b,ae c,ae d] w (PJ Q)
def qx:=bC (.o (.i .i64))
def o_:=λb c d e w (Q:Int->WP)=>aq P 233 #[.slice b c d,e] w (qx Q)
def ahT:=bC (.o .p)
def CL:=λb w (Q:OA->WP)=>aq P 234 #[ae b] w (ahT Q)
def tY:=bC (.o .l)
def j_:=λb c d e w (Q:L3 WP)=>aq P 235 #[.slice b c d,ae e] w (tY Q)
def Fi:=fY []
def Df:=λb w (Q:WP)=>aq P 236 #[.pointer b] w (Fi Q)
def CM:=bC (.o (.i .i64))
def Ac:=λb c d e f w (Q:Int->WP)=>aq P 237 #[.slice b c d,ae e,ae f] w (CM Q)
def tZ:=bC (.o (.i .i64))
def DW:=λb c d w (Q:Int->WP)=>aq P 238 #[.pointer b,ae c,ae d] w (tZ Q)
def Ua:=fY [.o (.i .u64),.o (.i .u64)]
def Fj:=λb c w (Q:Int->Int->WP)=>aq P 240 #[.int .u64 b,.int .u64 c] w (Ua Q)
def DX:=bC (.o .b)
def mL:=λb c d e w (Q:Bool->WP)=>aq P 241 #[.slice b c d,e] w (DX Q)
def adi:=bC (.o .b)
def Lb:=λb c w (Q:Bool->WP)=>aq P 242 #[.int .u8 b,.pointer c] w (adi Q)
def ik:=fY []
def jK:=λb c d e f g w (Q:WP)=>aq P 243 #[.slice b c d,ae e,ae f,g] w (ik Q)
def mM:=fY []
def lN:=λb c d e f g w (Q:WP)=>aq P 244 #[.slice b c d,ae e,ae f,g] w (mM Q)
def iq:=fY []
def jL:=λb c d e f g w (Q:WP)=>aq P 245 #[.slice b c d,ae e,ae f,g] w (iq Q)
def lj:=fY [.o (.i .i64),.o (.i .i64)]
def kF:=λb c d e f g w (Q:Int->Int->WP)=>aq P 246 #[.slice b c d,ae e,ae f,g] w (lj Q)
def pV:=fY []
def jZ:=λb c d e f g w (Q:WP)=>aq P 247 #[.slice b c d,ae e,ae f,g] w (pV Q)
def bt:=bC (.o .b)
def iB:=λb c d e f g w (Q:Bool->WP)=>aq P 248 #[.slice b c d,ae e,ae f,g] w (bt Q)
def eE:=bC (.o (.i .i64))
def jD:=λb c d e f g i w (Q:Int->WP)=>aq P 249 #[.slice b c d,ae e,ae f,ae g,i] w (eE Q)
def cT:=fY [.o (.i .i64),.o .b]
def lq:=λb c d e f g i w (Q:Int->Bool->WP)=>aq P 250 #[.slice b c d,ae e,ae f,ae g,i] w (cT Q)
def vD:=bC (.o (.i .i64))
def Fk:=λb w (Q:Int->WP)=>aq P 252 #[.int .u64 b] w (vD Q)
def XH:=bC (.o .b)
def qy:=λb w (Q:Bool->WP)=>aq P 253 #[ae b] w (XH Q)
def Tr:=bC (.o .b)
def Gc:=λb c d e f g i j w (Q:Bool->WP)=>aq P 254 #[.agg #[ae b,ae c,.slice d e f],.slice g i j] w (Tr Q)
def ahU:=fY [.o .l,.o (.i .i64)]
def HI:=λb c d e f g w (Q:L3 (Int->WP))=>aq P 255 #[.agg #[ae b,ae c,.slice d e f],ae g] w (ahU Q)
def Ub:=bC (.o .b)
def r7:=λb c d e w (Q:Bool->WP)=>aq P 256 #[.agg #[ae b,ae c],.agg #[ae d,ae e]] w (Ub Q)
def XI:=bC (.o (.i .i64))
def A3:=λb w (Q:Int->WP)=>aq P 257 #[.pointer b] w (XI Q)
def Uc:=fY [.o (.i .i64),.o .b]
def Fl:=λb c w (Q:Int->Bool->WP)=>aq P 258 #[.pointer b,ae c] w (Uc Q)
def DY:=fY []
def jM:=λb w (Q:WP)=>aq P 259 #[.pointer b] w (DY Q)
def XJ:=bC (.o (.i .i64))
def qz:=λb w (Q:Int->WP)=>aq P 260 #[.pointer b] w (XJ Q)
def JS:=fY [.o (.i .i64),.o (.i .i64),.o .b]
def A4:=λb w (Q:Int->Int->Bool->WP)=>aq P 261 #[.pointer b] w (JS Q)
def pe:=fY []
def sM:=λb c w (Q:WP)=>aq P 262 #[.pointer b,ae c] w (pe Q)
def XK:=bC (.o .b)
def nD:=λb c d w (Q:Bool->WP)=>aq P 263 #[.pointer b,ae c,ae d] w (XK Q)
def xd:=bC (.o (.i .i64))
def uV:=λb c d e w (Q:Int->WP)=>aq P 264 #[.slice b c d,e] w (xd Q)
def jw:=fY []
def iZ:=λb c d e f g i w (Q:WP)=>aq P 265 #[.slice b c d,ae e,ae f,ae g,i] w (jw Q)
def Kb:=bC (.o (.i .u64))
def zN:=λb w (Q:Int->WP)=>aq P 266 #[ae b] w (Kb Q)
def Lc:=bC (.o (.i .u64))
def sO:=λb w (Q:Int->WP)=>aq P 267 #[.pointer b] w (Lc Q)
def zG:=bC (.o (.i .i64))
def fg:=λb c d e f g w (Q:Int->WP)=>aq P 268 #[.slice b c d,ae e,.pointer f,g] w (zG Q)
def DZ:=bC (.o (.i .i64))
def jx:=λb c d e f g i j w (Q:Int->WP)=>aq P 269 #[.slice b c d,ae e,ae f,ae g,.pointer i,j] w (DZ Q)
def ajU:=bC (.o (.i .i64))
def Ju:=λb c d e f g w (Q:Int->WP)=>aq P 270 #[.agg #[ae b,ae c,.slice d e f],ae g] w (ajU Q)
def vV:=fY [.o (.i .i64),.o .b]
def nJ:=λb c d e w (Q:Int->Bool->WP)=>aq P 271 #[.slice b c d,ae e] w (vV Q)
def Vq:=bC (.o .b)
def Ad:=λb c w (Q:Bool->WP)=>aq P 272 #[.pointer b,ae c] w (Vq Q)
def XL:=bC (.o .b)
def vF:=λb c d w (Q:Bool->WP)=>aq P 273 #[.pointer b,ae c,ae d] w (XL Q)
def PK:=bC (.o .b)
def qp:=λb w (Q:Bool->WP)=>aq P 274 #[.pointer b] w (PK Q)
def Ud:=bC (.o (.i .i64))
def yX:=λb w (Q:Int->WP)=>aq P 275 #[.pointer b] w (Ud Q)
def Mv:=fY []
def ir:=λb c d w (Q:WP)=>aq P 276 #[.pointer b,ae c,ae d] w (Mv Q)
def vG:=bC (.o (.i .i64))
def yY:=λb c d w (Q:Int->WP)=>aq P 277 #[.pointer b,ae c,ae d] w (vG Q)
def D0:=fY [.o (.i .i64),.o (.i .i64)]
def gN:=λb c d e f g i w (Q:Int->Int->WP)=>aq P 278 #[.slice b c d,ae e,ae f,.pointer g,i] w (D0 Q)
def ajV:=bC (.o .b)
def Jv:=λb c d e f g w (Q:Bool->WP)=>aq P 279 #[.agg #[ae b,ae c,.slice d e f],ae g] w (ajV Q)
def Zl:=bC (.o .b)
def IU:=λb c w (Q:Bool->WP)=>aq P 280 #[ae b,ae c] w (Zl Q)
def RR:=bC (.o .b)
def nK:=λb w (Q:Bool->WP)=>aq P 281 #[ae b] w (RR Q)
def Ue:=fY []
def yZ:=λb c w (Q:WP)=>aq P 282 #[.pointer b,ae c] w (Ue Q)
def Vr:=bC (.o .w)
def Gd:=λb w (Q:Value->WP)=>aq P 302 #[.pointer b] w (Vr Q)
def PL:=bC (.o .w)
def Dg:=λb w (Q:Value->WP)=>aq P 321 #[.pointer b] w (PL Q)
def Uf:=bC (.o .w)
def Fm:=λb w (Q:Value->WP)=>aq P 325 #[.pointer b] w (Uf Q)
def t_:=λa b c w Q=>bB (aS a b c w Q) (NZ (IntKind.wrap .i64 ((IntKind.wrap .i64 (c-b))+1))<|cond (decide ((Int.tmod a (IntKind.wrap .i64 ((IntKind.wrap .i64 (c-b))+1)))<0)) (Q (IntKind.wrap .i64 (b+(IntKind.wrap .i64 ((IntKind.wrap .i64 ((IntKind.wrap .i64 ((Int.tmod a (IntKind.wrap .i64 ((IntKind.wrap .i64 (c-b))+1)))+c))-b))+1)))) w) (Q (IntKind.wrap .i64 (b+(Int.tmod a (IntKind.wrap .i64 ((IntKind.wrap .i64 (c-b))+1))))) w)) (ok 24) [] [] Tryz.func10
def Ug:=λa w Q=>bB (vz a w Q) (cond (!a.isNone) (cz P 180 none w λb w=>wA a λc=>St (c.add 1) (.slice none 0 0) w λw=>wA a λd=>St (d.add 2) (.map b) w λw=>wA a λe=>St (e.add 3) (ae (-1)) w λw=>wA a λf=>St (f.add 4) (ae (-1)) w λw=>Q w) (Q w)) (ok 17) [] [] Tryz.func108
def af9:=λa w Q=>bB (Jq a w Q) (cond (decide (a<1)) (Q none w) (Bx [ae a,.slice none 0 0,.map none,ae 0,ae 0] 182 w λb w=>vz (some b) w λw=>Q (some b) w)) (ok 12) [] [] Tryz.func74
def aa9:=λa w Q=>bB (F2 a w Q) (cond (decide (a<1)) (Q none w) (Jq a w λb w=>Bx [.pointer b,.slice none 0 0,.int .u64 0,.int .u64 0,.int .u64 0,.int .u64 0,.int .u64 0,.int .u64 0] 135 w λc w=>Q (some c) w)) (ok 9) [] [] Tryz.func47
def af_:=λa w Q=>bB (Jn a w Q) (cond (decide (a<1)) (Q none w) (F2 a w λb w=>Bx [.pointer none,.pointer none,.pointer none,.pointer b,.int .u64 0,.int .u64 0,.int .u64 0,.int .u64 0,.int .u64 0,.int .u64 0] 106 w λc w=>Q (some c) w)) (ok 9) [] [] Tryz.func27
def aga:=λa b w Q=>bB (Em a b w Q) (cond (decide (a<1)) (Q none w) (cond (decide (b<1)) (Q none w) (cond (decide (b>65536)) (Q none w) (Jn a w λc w=>Bx [ae b,.pointer c,.pointer none] 72 w λd w=>Q (some d) w)))) (ok 20) [] [] Tryz.func11
def Fo:=λa w Q=>bB (yI a w Q) (cond a.isNone (Q none w) (wA a λb=>bg (b.add 1) w λc=>Q c w)) (ok 9) [] [] Tryz.func39
def Vs:=λa b c d e f w Q=>bB (cW a b c d e f w Q) (Bx [.int .u64 a,.int .u64 b,.int .u64 c,.int .u64 d,.int .u64 e,.int .u64 f] 32 w λg w=>Al T 175 w λi w=>af .u64 g w λj=>af .u64 (g.add 1) w λl=>af .u64 (g.add 2) w λm=>af .u64 (g.add 3) w λn=>af .u64 (g.add 4) w λo=>af .u64 (g.add 5) w λp=>St (i.add 0) (.int .u64 j) w λw=>St (i.add 1) (.int .u64 l) w λw=>St (i.add 2) (.int .u64 m) w λw=>St (i.add 3) (.int .u64 n) w λw=>St (i.add 4) (.int .u64 o) w λw=>St (i.add 5) (.int .u64 p) w λw=>af .u64 (i.add 0) w λq=>af .u64 (i.add 1) w λr=>af .u64 (i.add 2) w λs=>af .u64 (i.add 3) w λt=>af .u64 (i.add 4) w λu=>af .u64 (i.add 5) w λv=>Q q r s t u v w) (ok 16) [] [] Tryz.func104
def aa_:=λa b w Q=>bB (rW a b w Q) (cond (decide (a>(IntKind.wrap .u64 (18446744073709551615-b)))) (Q 18446744073709551615 w) (Q (IntKind.wrap .u64 (a+b)) w)) (ok 12) [] [] Tryz.func105
def sP (Q:Int->Int->Int->Int->Int->Int->WP)(R3:Addr->Addr->Addr->Int->WP)(a b c:Addr)(d:Int)(w:World):Prop:=cond (decide (d<6)) (aJ d 6<|af .u64 (b.add (d.toNat*1)) w.drew λe=>aJ d 6<|af .u64 (c.add (d.toNat*1)) w.drew λf=>rW e f w.drew λg w=>aJ d 6<|St (b.add (d.toNat*1)) (.int .u64 g) w λw=>R3 a b c (IntKind.wrap .i64 (d+1)) w) (aJ 0 6<|af .u64 (b.add (((0:Int).toNat)*1)) w λi=>aJ 1 6<|af .u64 (b.add (((1:Int).toNat)*1)) w λj=>aJ 2 6<|af .u64 (b.add (((2:Int).toNat)*1)) w λl=>aJ 3 6<|af .u64 (b.add (((3:Int).toNat)*1)) w λm=>aJ 4 6<|af .u64 (b.add (((4:Int).toNat)*1)) w λn=>aJ 5 6<|af .u64 (b.add (((5:Int).toNat)*1)) w λo=>St (a.add 0) (.int .u64 i) w λw=>St (a.add 1) (.int .u64 j) w λw=>St (a.add 2) (.int .u64 l) w λw=>St (a.add 3) (.int .u64 m) w λw=>St (a.add 4) (.int .u64 n) w λw=>St (a.add 5) (.int .u64 o) w λw=>af .u64 (a.add 0) w λp=>af .u64 (a.add 1) w λq=>af .u64 (a.add 2) w λr=>af .u64 (a.add 3) w λs=>af .u64 (a.add 4) w λt=>af .u64 (a.add 5) w λu=>Q p q r s t u w)
def pW (Q:Int->Int->Int->Int->Int->Int->WP):Nat->Addr->Addr->Addr->Int->WP
 |0,_,_,_,_,_=>False
 |k+1,a,b,c,d,w=>sP Q (pW Q k) a b c d w
def gU (Q:Int->Int->Int->Int->Int->Int->WP)(a b c:Addr)(w:World):Prop:=∃k',pW Q k' a b c 0 w
noncomputable def HJ:cv:=[(1,.op 0 (.op 2 (.br (.op 1 (.br (.op 3 (.br (.op 4 (.op 5 (.op 6 (.op 7 .done)))) (.op 5 (.op 4 (.op 6 (.op 7 .done)))))) (.br (.op 4 (.br (.op 3 (.op 5 (.op 6 (.op 7 .done)))) (.op 5 (.op 3 (.op 6 (.op 7 .done)))))) (.op 5 (.br (.op 3 (.op 4 (.op 6 (.op 7 .done)))) (.op 4 (.op 3 (.op 6 (.op 7 .done))))))))) (.br (.op 4 (.br (.op 1 (.br (.op 3 (.op 5 (.op 6 (.op 7 .done)))) (.op 5 (.op 3 (.op 6 (.op 7 .done)))))) (.op 5 (.op 1 (.op 3 (.op 6 (.op 7 .done))))))) (.op 5 (.br (.op 1 (.br (.op 3 (.op 4 (.op 6 (.op 7 .done)))) (.op 4 (.op 3 (.op 6 (.op 7 .done)))))) (.op 4 (.op 1 (.op 3 (.op 6 (.op 7 .done))))))))))),(5,sp 0 7 (.op 7 (.op 8 (.op 9 .done))))]
def agb (Q):∀k,Bk 38 Tryz.f70 (Jp Q) 3 [(4,.a),(5,.a),(6,.a),(12,.i .i64)] (pW Q k):=bK λk h=>aU (ok 38) HJ [aM h]
def agc (Q):Bk 38 Tryz.f70 (Jp Q) 2 [(4,.a),(5,.a),(6,.a)] (gU Q):=aU (ok 38) HJ [ct (agb Q)]
def aba:=λa b c d e f g i j l m n w Q=>bB (wS a b c d e f g i j l m n w Q) (Bx [.int .u64 a,.int .u64 b,.int .u64 c,.int .u64 d,.int .u64 e,.int .u64 f] 32 w λo w=>Bx [.int .u64 g,.int .u64 i,.int .u64 j,.int .u64 l,.int .u64 m,.int .u64 n] 32 w λp w=>Al T 32 w λq w=>af .u64 (o.add 0) w.drew λr=>af .u64 (o.add 1) w.drew λs=>af .u64 (o.add 2) w.drew λt=>af .u64 (o.add 3) w.drew λu=>af .u64 (o.add 4) w.drew λv=>af .u64 (o.add 5) w.drew λx=>af .u64 (p.add 0) w.drew λy=>af .u64 (p.add 1) w.drew λz=>af .u64 (p.add 2) w.drew λa1=>af .u64 (p.add 3) w.drew λb1=>af .u64 (p.add 4) w.drew λc1=>af .u64 (p.add 5) w.drew λd1=>(cW r s t u v x w.drew λe1 f1 g1 i1 j1 l1 w=>w.cell? (p.add 0)=some (.int .u64 y)/\w.cell? (p.add 1)=some (.int .u64 z)/\w.cell? (p.add 2)=some (.int .u64 a1)/\w.cell? (p.add 3)=some (.int .u64 b1)/\w.cell? (p.add 4)=some (.int .u64 c1)/\w.cell? (p.add 5)=some (.int .u64 d1)/\(cW y z a1 b1 c1 d1 w λm1 n1 o1 p1 q1 r1 w=>(Al T 175 w λs1 w=>w.cell? (p.add 0)=some (.int .u64 y)/\w.cell? (p.add 1)=some (.int .u64 z)/\w.cell? (p.add 2)=some (.int .u64 a1)/\w.cell? (p.add 3)=some (.int .u64 b1)/\w.cell? (p.add 4)=some (.int .u64 c1)/\w.cell? (p.add 5)=some (.int .u64 d1)/\w.cell? (o.add 0)=some (.int .u64 r)/\w.cell? (o.add 1)=some (.int .u64 s)/\w.cell? (o.add 2)=some (.int .u64 t)/\w.cell? (o.add 3)=some (.int .u64 u)/\w.cell? (o.add 4)=some (.int .u64 v)/\w.cell? (o.add 5)=some (.int .u64 x)/\Al T 175 w λt1 w=>w.cell? (p.add 0)=some (.int .u64 y)/\w.cell? (p.add 1)=some (.int .u64 z)/\w.cell? (p.add 2)=some (.int .u64 a1)/\w.cell? (p.add 3)=some (.int .u64 b1)/\w.cell? (p.add 4)=some (.int .u64 c1)/\w.cell? (p.add 5)=some (.int .u64 d1)/\w.cell? (o.add 0)=some (.int .u64 r)/\w.cell? (o.add 1)=some (.int .u64 s)/\w.cell? (o.add 2)=some (.int .u64 t)/\w.cell? (o.add 3)=some (.int .u64 u)/\w.cell? (o.add 4)=some (.int .u64 v)/\w.cell? (o.add 5)=some (.int .u64 x)/\St (s1.add 0) (.int .u64 e1) w λw=>St (s1.add 1) (.int .u64 f1) w λw=>St (s1.add 2) (.int .u64 g1) w λw=>St (s1.add 3) (.int .u64 i1) w λw=>St (s1.add 4) (.int .u64 j1) w λw=>St (s1.add 5) (.int .u64 l1) w λw=>St (t1.add 0) (.int .u64 m1) w λw=>St (t1.add 1) (.int .u64 n1) w λw=>St (t1.add 2) (.int .u64 o1) w λw=>St (t1.add 3) (.int .u64 p1) w λw=>St (t1.add 4) (.int .u64 q1) w λw=>St (t1.add 5) (.int .u64 r1) w λw=>gU Q q s1 t1 w)/\(Al T 175 w λu1 w=>w.cell? (p.add 0)=some (.int .u64 y)/\w.cell? (p.add 1)=some (.int .u64 z)/\w.cell? (p.add 2)=some (.int .u64 a1)/\w.cell? (p.add 3)=some (.int .u64 b1)/\w.cell? (p.add 4)=some (.int .u64 c1)/\w.cell? (p.add 5)=some (.int .u64 d1)/\w.cell? (o.add 0)=some (.int .u64 r)/\w.cell? (o.add 1)=some (.int .u64 s)/\w.cell? (o.add 2)=some (.int .u64 t)/\w.cell? (o.add 3)=some (.int .u64 u)/\w.cell? (o.add 4)=some (.int .u64 v)/\w.cell? (o.add 5)=some (.int .u64 x)/\Al T 175 w λv1 w=>w.cell? (p.add 0)=some (.int .u64 y)/\w.cell? (p.add 1)=some (.int .u64 z)/\w.cell? (p.add 2)=some (.int .u64 a1)/\w.cell? (p.add 3)=some (.int .u64 b1)/\w.cell? (p.add 4)=some (.int .u64 c1)/\w.cell? (p.add 5)=some (.int .u64 d1)/\w.cell? (o.add 0)=some (.int .u64 r)/\w.cell? (o.add 1)=some (.int .u64 s)/\w.cell? (o.add 2)=some (.int .u64 t)/\w.cell? (o.add 3)=some (.int .u64 u)/\w.cell? (o.add 4)=some (.int .u64 v)/\w.cell? (o.add 5)=some (.int .u64 x)/\St (v1.add 0) (.int .u64 e1) w λw=>St (v1.add 1) (.int .u64 f1) w λw=>St (v1.add 2) (.int .u64 g1) w λw=>St (v1.add 3) (.int .u64 i1) w λw=>St (v1.add 4) (.int .u64 j1) w λw=>St (v1.add 5) (.int .u64 l1) w λw=>St (u1.add 0) (.int .u64 m1) w λw=>St (u1.add 1) (.int .u64 n1) w λw=>St (u1.add 2) (.int .u64 o1) w λw=>St (u1.add 3) (.int .u64 p1) w λw=>St (u1.add 4) (.int .u64 q1) w λw=>St (u1.add 5) (.int .u64 r1) w λw=>gU Q q v1 u1 w))/\((Al T 175 w λx1 w=>w.cell? (p.add 0)=some (.int .u64 y)/\w.cell? (p.add 1)=some (.int .u64 z)/\w.cell? (p.add 2)=some (.int .u64 a1)/\w.cell? (p.add 3)=some (.int .u64 b1)/\w.cell? (p.add 4)=some (.int .u64 c1)/\w.cell? (p.add 5)=some (.int .u64 d1)/\w.cell? (o.add 0)=some (.int .u64 r)/\w.cell? (o.add 1)=some (.int .u64 s)/\w.cell? (o.add 2)=some (.int .u64 t)/\w.cell? (o.add 3)=some (.int .u64 u)/\w.cell? (o.add 4)=some (.int .u64 v)/\w.cell? (o.add 5)=some (.int .u64 x)/\(cW y z a1 b1 c1 d1 w λy1 z1 a2 b2 c2 d2 w=>Al T 175 w λe2 w=>w.cell? (p.add 0)=some (.int .u64 y)/\w.cell? (p.add 1)=some (.int .u64 z)/\w.cell? (p.add 2)=some (.int .u64 a1)/\w.cell? (p.add 3)=some (.int .u64 b1)/\w.cell? (p.add 4)=some (.int .u64 c1)/\w.cell? (p.add 5)=some (.int .u64 d1)/\w.cell? (o.add 0)=some (.int .u64 r)/\w.cell? (o.add 1)=some (.int .u64 s)/\w.cell? (o.add 2)=some (.int .u64 t)/\w.cell? (o.add 3)=some (.int .u64 u)/\w.cell? (o.add 4)=some (.int .u64 v)/\w.cell? (o.add 5)=some (.int .u64 x)/\St (x1.add 0) (.int .u64 e1) w λw=>St (x1.add 1) (.int .u64 f1) w λw=>St (x1.add 2) (.int .u64 g1) w λw=>St (x1.add 3) (.int .u64 i1) w λw=>St (x1.add 4) (.int .u64 j1) w λw=>St (x1.add 5) (.int .u64 l1) w λw=>St (e2.add 0) (.int .u64 y1) w λw=>St (e2.add 1) (.int .u64 z1) w λw=>St (e2.add 2) (.int .u64 a2) w λw=>St (e2.add 3) (.int .u64 b2) w λw=>St (e2.add 4) (.int .u64 c2) w λw=>St (e2.add 5) (.int .u64 d2) w λw=>gU Q q x1 e2 w)/\(Al T 175 w λf2 w=>w.cell? (p.add 0)=some (.int .u64 y)/\w.cell? (p.add 1)=some (.int .u64 z)/\w.cell? (p.add 2)=some (.int .u64 a1)/\w.cell? (p.add 3)=some (.int .u64 b1)/\w.cell? (p.add 4)=some (.int .u64 c1)/\w.cell? (p.add 5)=some (.int .u64 d1)/\w.cell? (o.add 0)=some (.int .u64 r)/\w.cell? (o.add 1)=some (.int .u64 s)/\w.cell? (o.add 2)=some (.int .u64 t)/\w.cell? (o.add 3)=some (.int .u64 u)/\w.cell? (o.add 4)=some (.int .u64 v)/\w.cell? (o.add 5)=some (.int .u64 x)/\cW y z a1 b1 c1 d1 w λg2 i2 j2 l2 m2 n2 w=>St (x1.add 0) (.int .u64 e1) w λw=>St (x1.add 1) (.int .u64 f1) w λw=>St (x1.add 2) (.int .u64 g1) w λw=>St (x1.add 3) (.int .u64 i1) w λw=>St (x1.add 4) (.int .u64 j1) w λw=>St (x1.add 5) (.int .u64 l1) w λw=>St (f2.add 0) (.int .u64 g2) w λw=>St (f2.add 1) (.int .u64 i2) w λw=>St (f2.add 2) (.int .u64 j2) w λw=>St (f2.add 3) (.int .u64 l2) w λw=>St (f2.add 4) (.int .u64 m2) w λw=>St (f2.add 5) (.int .u64 n2) w λw=>gU Q q x1 f2 w))/\(Al T 175 w λo2 w=>w.cell? (p.add 0)=some (.int .u64 y)/\w.cell? (p.add 1)=some (.int .u64 z)/\w.cell? (p.add 2)=some (.int .u64 a1)/\w.cell? (p.add 3)=some (.int .u64 b1)/\w.cell? (p.add 4)=some (.int .u64 c1)/\w.cell? (p.add 5)=some (.int .u64 d1)/\w.cell? (o.add 0)=some (.int .u64 r)/\w.cell? (o.add 1)=some (.int .u64 s)/\w.cell? (o.add 2)=some (.int .u64 t)/\w.cell? (o.add 3)=some (.int .u64 u)/\w.cell? (o.add 4)=some (.int .u64 v)/\w.cell? (o.add 5)=some (.int .u64 x)/\(cW y z a1 b1 c1 d1 w λp2 q2 r2 s2 t2 u2 w=>Al T 175 w λv2 w=>w.cell? (p.add 0)=some (.int .u64 y)/\w.cell? (p.add 1)=some (.int .u64 z)/\w.cell? (p.add 2)=some (.int .u64 a1)/\w.cell? (p.add 3)=some (.int .u64 b1)/\w.cell? (p.add 4)=some (.int .u64 c1)/\w.cell? (p.add 5)=some (.int .u64 d1)/\w.cell? (o.add 0)=some (.int .u64 r)/\w.cell? (o.add 1)=some (.int .u64 s)/\w.cell? (o.add 2)=some (.int .u64 t)/\w.cell? (o.add 3)=some (.int .u64 u)/\w.cell? (o.add 4)=some (.int .u64 v)/\w.cell? (o.add 5)=some (.int .u64 x)/\St (v2.add 0) (.int .u64 e1) w λw=>St (v2.add 1) (.int .u64 f1) w λw=>St (v2.add 2) (.int .u64 g1) w λw=>St (v2.add 3) (.int .u64 i1) w λw=>St (v2.add 4) (.int .u64 j1) w λw=>St (v2.add 5) (.int .u64 l1) w λw=>St (o2.add 0) (.int .u64 p2) w λw=>St (o2.add 1) (.int .u64 q2) w λw=>St (o2.add 2) (.int .u64 r2) w λw=>St (o2.add 3) (.int .u64 s2) w λw=>St (o2.add 4) (.int .u64 t2) w λw=>St (o2.add 5) (.int .u64 u2) w λw=>gU Q q v2 o2 w)/\(Al T 175 w λx2 w=>w.cell? (p.add 0)=some (.int .u64 y)/\w.cell? (p.add 1)=some (.int .u64 z)/\w.cell? (p.add 2)=some (.int .u64 a1)/\w.cell? (p.add 3)=some (.int .u64 b1)/\w.cell? (p.add 4)=some (.int .u64 c1)/\w.cell? (p.add 5)=some (.int .u64 d1)/\w.cell? (o.add 0)=some (.int .u64 r)/\w.cell? (o.add 1)=some (.int .u64 s)/\w.cell? (o.add 2)=some (.int .u64 t)/\w.cell? (o.add 3)=some (.int .u64 u)/\w.cell? (o.add 4)=some (.int .u64 v)/\w.cell? (o.add 5)=some (.int .u64 x)/\cW y z a1 b1 c1 d1 w λy2 z2 a3 b3 c3 d3 w=>St (x2.add 0) (.int .u64 e1) w λw=>St (x2.add 1) (.int .u64 f1) w λw=>St (x2.add 2) (.int .u64 g1) w λw=>St (x2.add 3) (.int .u64 i1) w λw=>St (x2.add 4) (.int .u64 j1) w λw=>St (x2.add 5) (.int .u64 l1) w λw=>St (o2.add 0) (.int .u64 y2) w λw=>St (o2.add 1) (.int .u64 z2) w λw=>St (o2.add 2) (.int .u64 a3) w λw=>St (o2.add 3) (.int .u64 b3) w λw=>St (o2.add 4) (.int .u64 c3) w λw=>St (o2.add 5) (.int .u64 d3) w λw=>gU Q q x2 o2 w))))/\((Al T 175 w.drew λe3 w=>w.cell? (p.add 0)=some (.int .u64 y)/\w.cell? (p.add 1)=some (.int .u64 z)/\w.cell? (p.add 2)=some (.int .u64 a1)/\w.cell? (p.add 3)=some (.int .u64 b1)/\w.cell? (p.add 4)=some (.int .u64 c1)/\w.cell? (p.add 5)=some (.int .u64 d1)/\w.cell? (o.add 0)=some (.int .u64 r)/\w.cell? (o.add 1)=some (.int .u64 s)/\w.cell? (o.add 2)=some (.int .u64 t)/\w.cell? (o.add 3)=some (.int .u64 u)/\w.cell? (o.add 4)=some (.int .u64 v)/\w.cell? (o.add 5)=some (.int .u64 x)/\(cW r s t u v x w λf3 g3 i3 j3 l3 m3 w=>w.cell? (p.add 0)=some (.int .u64 y)/\w.cell? (p.add 1)=some (.int .u64 z)/\w.cell? (p.add 2)=some (.int .u64 a1)/\w.cell? (p.add 3)=some (.int .u64 b1)/\w.cell? (p.add 4)=some (.int .u64 c1)/\w.cell? (p.add 5)=some (.int .u64 d1)/\(cW y z a1 b1 c1 d1 w λn3 o3 p3 q3 r3 s3 w=>Al T 175 w λt3 w=>w.cell? (p.add 0)=some (.int .u64 y)/\w.cell? (p.add 1)=some (.int .u64 z)/\w.cell? (p.add 2)=some (.int .u64 a1)/\w.cell? (p.add 3)=some (.int .u64 b1)/\w.cell? (p.add 4)=some (.int .u64 c1)/\w.cell? (p.add 5)=some (.int .u64 d1)/\w.cell? (o.add 0)=some (.int .u64 r)/\w.cell? (o.add 1)=some (.int .u64 s)/\w.cell? (o.add 2)=some (.int .u64 t)/\w.cell? (o.add 3)=some (.int .u64 u)/\w.cell? (o.add 4)=some (.int .u64 v)/\w.cell? (o.add 5)=some (.int .u64 x)/\St (e3.add 0) (.int .u64 f3) w λw=>St (e3.add 1) (.int .u64 g3) w λw=>St (e3.add 2) (.int .u64 i3) w λw=>St (e3.add 3) (.int .u64 j3) w λw=>St (e3.add 4) (.int .u64 l3) w λw=>St (e3.add 5) (.int .u64 m3) w λw=>St (t3.add 0) (.int .u64 n3) w λw=>St (t3.add 1) (.int .u64 o3) w λw=>St (t3.add 2) (.int .u64 p3) w λw=>St (t3.add 3) (.int .u64 q3) w λw=>St (t3.add 4) (.int .u64 r3) w λw=>St (t3.add 5) (.int .u64 s3) w λw=>gU Q q e3 t3 w)/\(Al T 175 w λu3 w=>w.cell? (p.add 0)=some (.int .u64 y)/\w.cell? (p.add 1)=some (.int .u64 z)/\w.cell? (p.add 2)=some (.int .u64 a1)/\w.cell? (p.add 3)=some (.int .u64 b1)/\w.cell? (p.add 4)=some (.int .u64 c1)/\w.cell? (p.add 5)=some (.int .u64 d1)/\w.cell? (o.add 0)=some (.int .u64 r)/\w.cell? (o.add 1)=some (.int .u64 s)/\w.cell? (o.add 2)=some (.int .u64 t)/\w.cell? (o.add 3)=some (.int .u64 u)/\w.cell? (o.add 4)=some (.int .u64 v)/\w.cell? (o.add 5)=some (.int .u64 x)/\cW y z a1 b1 c1 d1 w λv3 x3 y3 z3 a4 b4 w=>St (e3.add 0) (.int .u64 f3) w λw=>St (e3.add 1) (.int .u64 g3) w λw=>St (e3.add 2) (.int .u64 i3) w λw=>St (e3.add 3) (.int .u64 j3) w λw=>St (e3.add 4) (.int .u64 l3) w λw=>St (e3.add 5) (.int .u64 m3) w λw=>St (u3.add 0) (.int .u64 v3) w λw=>St (u3.add 1) (.int .u64 x3) w λw=>St (u3.add 2) (.int .u64 y3) w λw=>St (u3.add 3) (.int .u64 z3) w λw=>St (u3.add 4) (.int .u64 a4) w λw=>St (u3.add 5) (.int .u64 b4) w λw=>gU Q q e3 u3 w))/\(Al T 175 w λc4 w=>w.cell? (p.add 0)=some (.int .u64 y)/\w.cell? (p.add 1)=some (.int .u64 z)/\w.cell? (p.add 2)=some (.int .u64 a1)/\w.cell? (p.add 3)=some (.int .u64 b1)/\w.cell? (p.add 4)=some (.int .u64 c1)/\w.cell? (p.add 5)=some (.int .u64 d1)/\w.cell? (o.add 0)=some (.int .u64 r)/\w.cell? (o.add 1)=some (.int .u64 s)/\w.cell? (o.add 2)=some (.int .u64 t)/\w.cell? (o.add 3)=some (.int .u64 u)/\w.cell? (o.add 4)=some (.int .u64 v)/\w.cell? (o.add 5)=some (.int .u64 x)/\cW r s t u v x w λd4 e4 f4 g4 i4 j4 w=>w.cell? (p.add 0)=some (.int .u64 y)/\w.cell? (p.add 1)=some (.int .u64 z)/\w.cell? (p.add 2)=some (.int .u64 a1)/\w.cell? (p.add 3)=some (.int .u64 b1)/\w.cell? (p.add 4)=some (.int .u64 c1)/\w.cell? (p.add 5)=some (.int .u64 d1)/\cW y z a1 b1 c1 d1 w λl4 m4 n4 o4 p4 q4 w=>St (e3.add 0) (.int .u64 d4) w λw=>St (e3.add 1) (.int .u64 e4) w λw=>St (e3.add 2) (.int .u64 f4) w λw=>St (e3.add 3) (.int .u64 g4) w λw=>St (e3.add 4) (.int .u64 i4) w λw=>St (e3.add 5) (.int .u64 j4) w λw=>St (c4.add 0) (.int .u64 l4) w λw=>St (c4.add 1) (.int .u64 m4) w λw=>St (c4.add 2) (.int .u64 n4) w λw=>St (c4.add 3) (.int .u64 o4) w λw=>St (c4.add 4) (.int .u64 p4) w λw=>St (c4.add 5) (.int .u64 q4) w λw=>gU Q q e3 c4 w))/\(Al T 175 w.drew λr4 w=>w.cell? (p.add 0)=some (.int .u64 y)/\w.cell? (p.add 1)=some (.int .u64 z)/\w.cell? (p.add 2)=some (.int .u64 a1)/\w.cell? (p.add 3)=some (.int .u64 b1)/\w.cell? (p.add 4)=some (.int .u64 c1)/\w.cell? (p.add 5)=some (.int .u64 d1)/\w.cell? (o.add 0)=some (.int .u64 r)/\w.cell? (o.add 1)=some (.int .u64 s)/\w.cell? (o.add 2)=some (.int .u64 t)/\w.cell? (o.add 3)=some (.int .u64 u)/\w.cell? (o.add 4)=some (.int .u64 v)/\w.cell? (o.add 5)=some (.int .u64 x)/\(cW r s t u v x w λs4 t4 u4 v4 x4 y4 w=>w.cell? (p.add 0)=some (.int .u64 y)/\w.cell? (p.add 1)=some (.int .u64 z)/\w.cell? (p.add 2)=some (.int .u64 a1)/\w.cell? (p.add 3)=some (.int .u64 b1)/\w.cell? (p.add 4)=some (.int .u64 c1)/\w.cell? (p.add 5)=some (.int .u64 d1)/\(cW y z a1 b1 c1 d1 w λz4 a5 b5 c5 d5 e5 w=>Al T 175 w λf5 w=>w.cell? (p.add 0)=some (.int .u64 y)/\w.cell? (p.add 1)=some (.int .u64 z)/\w.cell? (p.add 2)=some (.int .u64 a1)/\w.cell? (p.add 3)=some (.int .u64 b1)/\w.cell? (p.add 4)=some (.int .u64 c1)/\w.cell? (p.add 5)=some (.int .u64 d1)/\w.cell? (o.add 0)=some (.int .u64 r)/\w.cell? (o.add 1)=some (.int .u64 s)/\w.cell? (o.add 2)=some (.int .u64 t)/\w.cell? (o.add 3)=some (.int .u64 u)/\w.cell? (o.add 4)=some (.int .u64 v)/\w.cell? (o.add 5)=some (.int .u64 x)/\St (f5.add 0) (.int .u64 s4) w λw=>St (f5.add 1) (.int .u64 t4) w λw=>St (f5.add 2) (.int .u64 u4) w λw=>St (f5.add 3) (.int .u64 v4) w λw=>St (f5.add 4) (.int .u64 x4) w λw=>St (f5.add 5) (.int .u64 y4) w λw=>St (r4.add 0) (.int .u64 z4) w λw=>St (r4.add 1) (.int .u64 a5) w λw=>St (r4.add 2) (.int .u64 b5) w λw=>St (r4.add 3) (.int .u64 c5) w λw=>St (r4.add 4) (.int .u64 d5) w λw=>St (r4.add 5) (.int .u64 e5) w λw=>gU Q q f5 r4 w)/\(Al T 175 w λg5 w=>w.cell? (p.add 0)=some (.int .u64 y)/\w.cell? (p.add 1)=some (.int .u64 z)/\w.cell? (p.add 2)=some (.int .u64 a1)/\w.cell? (p.add 3)=some (.int .u64 b1)/\w.cell? (p.add 4)=some (.int .u64 c1)/\w.cell? (p.add 5)=some (.int .u64 d1)/\w.cell? (o.add 0)=some (.int .u64 r)/\w.cell? (o.add 1)=some (.int .u64 s)/\w.cell? (o.add 2)=some (.int .u64 t)/\w.cell? (o.add 3)=some (.int .u64 u)/\w.cell? (o.add 4)=some (.int .u64 v)/\w.cell? (o.add 5)=some (.int .u64 x)/\cW y z a1 b1 c1 d1 w λi5 j5 l5 m5 n5 o5 w=>St (g5.add 0) (.int .u64 s4) w λw=>St (g5.add 1) (.int .u64 t4) w λw=>St (g5.add 2) (.int .u64 u4) w λw=>St (g5.add 3) (.int .u64 v4) w λw=>St (g5.add 4) (.int .u64 x4) w λw=>St (g5.add 5) (.int .u64 y4) w λw=>St (r4.add 0) (.int .u64 i5) w λw=>St (r4.add 1) (.int .u64 j5) w λw=>St (r4.add 2) (.int .u64 l5) w λw=>St (r4.add 3) (.int .u64 m5) w λw=>St (r4.add 4) (.int .u64 n5) w λw=>St (r4.add 5) (.int .u64 o5) w λw=>gU Q q g5 r4 w))/\(Al T 175 w λp5 w=>w.cell? (p.add 0)=some (.int .u64 y)/\w.cell? (p.add 1)=some (.int .u64 z)/\w.cell? (p.add 2)=some (.int .u64 a1)/\w.cell? (p.add 3)=some (.int .u64 b1)/\w.cell? (p.add 4)=some (.int .u64 c1)/\w.cell? (p.add 5)=some (.int .u64 d1)/\w.cell? (o.add 0)=some (.int .u64 r)/\w.cell? (o.add 1)=some (.int .u64 s)/\w.cell? (o.add 2)=some (.int .u64 t)/\w.cell? (o.add 3)=some (.int .u64 u)/\w.cell? (o.add 4)=some (.int .u64 v)/\w.cell? (o.add 5)=some (.int .u64 x)/\cW r s t u v x w λq5 r5 s5 t5 u5 v5 w=>w.cell? (p.add 0)=some (.int .u64 y)/\w.cell? (p.add 1)=some (.int .u64 z)/\w.cell? (p.add 2)=some (.int .u64 a1)/\w.cell? (p.add 3)=some (.int .u64 b1)/\w.cell? (p.add 4)=some (.int .u64 c1)/\w.cell? (p.add 5)=some (.int .u64 d1)/\cW y z a1 b1 c1 d1 w λx5 y5 z5 a6 b6 c6 w=>St (p5.add 0) (.int .u64 q5) w λw=>St (p5.add 1) (.int .u64 r5) w λw=>St (p5.add 2) (.int .u64 s5) w λw=>St (p5.add 3) (.int .u64 t5) w λw=>St (p5.add 4) (.int .u64 u5) w λw=>St (p5.add 5) (.int .u64 v5) w λw=>St (r4.add 0) (.int .u64 x5) w λw=>St (r4.add 1) (.int .u64 y5) w λw=>St (r4.add 2) (.int .u64 z5) w λw=>St (r4.add 3) (.int .u64 a6) w λw=>St (r4.add 4) (.int .u64 b6) w λw=>St (r4.add 5) (.int .u64 c6) w λw=>gU Q q p5 r4 w)))) (ok 38) HJ [aM (agc Q)] Tryz.func70
def Fp:=λa w Q=>bB (rX a w Q) (cond a.isNone (Q 0 w) (wA a λb=>af .u64 (b.add 3) w λc=>Q c w)) (ok 9) [] [] Tryz.func106
def B4:=λa w Q=>bB (o9 a w Q) (cond a.isNone (Q 0 w) (wA a λb=>af .u64 (b.add 3) w λc=>Q c w)) (ok 9) [] [] Tryz.func107
noncomputable def Uh:cv:=[(1,sp 0 4 (sp 5 4 (.op 4 (.op 9 (.op 10 (.op 11 .done))))))]
def RS:=λa w Q=>bB (tP a w Q) (Al T 32 w λb w=>wA a λc=>bg (c.add 1) w.drew λd=>wA a λe=>bg (e.add 2) w.drew λf=>rX d w.drew λg w=>w.cell? (e.add 2)=some (.pointer f)/\o9 f w λi w=>St (b.add 0) (.int .u64 g) w λw=>St (b.add 1) (.int .u64 i) w λw=>St (b.add 2) (.int .u64 0) w λw=>St (b.add 3) (.int .u64 0) w λw=>St (b.add 4) (.int .u64 0) w λw=>St (b.add 5) (.int .u64 0) w λw=>af .u64 (b.add 0) w λj=>af .u64 (b.add 1) w λl=>af .u64 (b.add 2) w λm=>af .u64 (b.add 3) w λn=>af .u64 (b.add 4) w λo=>af .u64 (b.add 5) w λp=>Q j l m n o p w) (ok 14) Uh [] Tryz.func71
def Mw:=λa w Q=>bB (wk a w Q) (Al T 32 w λb w=>cond a.isNone (St (b.add 0) (.int .u64 0) w λw=>St (b.add 1) (.int .u64 0) w λw=>St (b.add 2) (.int .u64 0) w λw=>St (b.add 3) (.int .u64 0) w λw=>St (b.add 4) (.int .u64 0) w λw=>St (b.add 5) (.int .u64 0) w λw=>af .u64 (b.add 0) w λc=>af .u64 (b.add 1) w λd=>af .u64 (b.add 2) w λe=>af .u64 (b.add 3) w λf=>af .u64 (b.add 4) w λg=>af .u64 (b.add 5) w λi=>Q c d e f g i w) (wA a λj=>af .u64 ((j.add 2).add 0) w λl=>af .u64 ((j.add 2).add 1) w λm=>af .u64 ((j.add 2).add 2) w λn=>af .u64 ((j.add 2).add 3) w λo=>af .u64 ((j.add 2).add 4) w λp=>af .u64 ((j.add 2).add 5) w λq=>St (b.add 0) (.int .u64 l) w λw=>St (b.add 1) (.int .u64 m) w λw=>St (b.add 2) (.int .u64 n) w λw=>St (b.add 3) (.int .u64 o) w λw=>St (b.add 4) (.int .u64 p) w λw=>St (b.add 5) (.int .u64 q) w λw=>af .u64 (b.add 0) w λr=>af .u64 (b.add 1) w λs=>af .u64 (b.add 2) w λt=>af .u64 (b.add 3) w λu=>af .u64 (b.add 4) w λv=>af .u64 (b.add 5) w λx=>Q r s t u v x w)) (ok 10) [] [] Tryz.func72
noncomputable def Vt:cv:=[(3,sp 0 5 (sp 7 4 (.op 5 (.op 6 (.op 11 (.op 12 (.op 13 .done)))))))]
def Ui:=λa w Q=>bB (AZ a w Q) (Al T 32 w λb w=>cond a.isNone (St (b.add 0) (.int .u64 0) w λw=>St (b.add 1) (.int .u64 0) w λw=>St (b.add 2) (.int .u64 0) w λw=>St (b.add 3) (.int .u64 0) w λw=>St (b.add 4) (.int .u64 0) w λw=>St (b.add 5) (.int .u64 0) w λw=>af .u64 (b.add 0) w λc=>af .u64 (b.add 1) w λd=>af .u64 (b.add 2) w λe=>af .u64 (b.add 3) w λf=>af .u64 (b.add 4) w λg=>af .u64 (b.add 5) w λi=>Q c d e f g i w) (wA a λj=>af .u64 ((j.add 4).add 0) w.drew λl=>af .u64 ((j.add 4).add 1) w.drew λm=>af .u64 ((j.add 4).add 2) w.drew λn=>af .u64 ((j.add 4).add 3) w.drew λo=>af .u64 ((j.add 4).add 4) w.drew λp=>af .u64 ((j.add 4).add 5) w.drew λq=>wA a λr=>bg (r.add 3) w.drew λs=>tP a w.drew λt u v x y z w=>w.cell? (r.add 3)=some (.pointer s)/\w.cell? ((j.add 4).add 0)=some (.int .u64 l)/\w.cell? ((j.add 4).add 1)=some (.int .u64 m)/\w.cell? ((j.add 4).add 2)=some (.int .u64 n)/\w.cell? ((j.add 4).add 3)=some (.int .u64 o)/\w.cell? ((j.add 4).add 4)=some (.int .u64 p)/\w.cell? ((j.add 4).add 5)=some (.int .u64 q)/\wS l m n o p q t u v x y z w λa1 b1 c1 d1 e1 f1 w=>w.cell? (r.add 3)=some (.pointer s)/\wk s w λg1 i1 j1 l1 m1 n1 w=>wS a1 b1 c1 d1 e1 f1 g1 i1 j1 l1 m1 n1 w λo1 p1 q1 r1 s1 t1 w=>St (b.add 0) (.int .u64 o1) w λw=>St (b.add 1) (.int .u64 p1) w λw=>St (b.add 2) (.int .u64 q1) w λw=>St (b.add 3) (.int .u64 r1) w λw=>St (b.add 4) (.int .u64 s1) w λw=>St (b.add 5) (.int .u64 t1) w λw=>af .u64 (b.add 0) w λu1=>af .u64 (b.add 1) w λv1=>af .u64 (b.add 2) w λx1=>af .u64 (b.add 3) w λy1=>af .u64 (b.add 4) w λz1=>af .u64 (b.add 5) w λa2=>Q u1 v1 x1 y1 z1 a2 w)) (ok 19) Vt [] Tryz.func43
def Mx:=λa w Q=>bB (v9 a w Q) (Al T 32 w λb w=>yI a w λc w=>AZ c w λd e f g i j w=>St (b.add 0) (.int .u64 d) w λw=>St (b.add 1) (.int .u64 e) w λw=>St (b.add 2) (.int .u64 f) w λw=>St (b.add 3) (.int .u64 g) w λw=>St (b.add 4) (.int .u64 i) w λw=>St (b.add 5) (.int .u64 j) w λw=>af .u64 (b.add 0) w λl=>af .u64 (b.add 1) w λm=>af .u64 (b.add 2) w λn=>af .u64 (b.add 3) w λo=>af .u64 (b.add 4) w λp=>af .u64 (b.add 5) w λq=>Q l m n o p q w) (ok 6) [] [] Tryz.func22
def mN (Q:Int->Int->Bool->Bool->WP)(a b:Addr)(w:World):Prop:=af .i64 (b.add 0) w λc=>af .i64 (b.add 1) w λd=>cD (b.add 2) w λe=>St (a.add 0) (ae c) w λw=>St (a.add 1) (ae d) w λw=>St (a.add 2) (.bool e) w λw=>af .i64 (a.add 0) w λf=>af .i64 (a.add 1) w λg=>cD (a.add 2) w λi=>Q f g i true w
def uK (Q:Int->Int->Bool->Bool->WP)(a b:Addr)(w:World):Prop:=St (b.add 1) (ae 4) w λw=>St b (ae 4) w λw=>mN Q a b w
def PM (Q):Bk 26 Tryz.f76 (Jr Q) 16 [(2,.a),(4,.a)] (mN Q):=aU (ok 26) [] []
def adk (Q):Bk 26 Tryz.f76 (Jr Q) 13 [(2,.a),(4,.a)] (uK Q):=aU (ok 26) [] [aM (PM Q)]
def abb:=λa w Q=>bB (wT a w Q) (Al T 137 w λb w=>Al T 137 w λc w=>cond (a==1) (St (c.add 2) (.bool true) w λw=>mN Q b c w) (cond (a==2) (St c (ae 4) w λw=>St (c.add 1) (ae 1) w λw=>mN Q b c w) (cond (a==3) (uK Q b c w) (cond (a==4) (uK Q b c w) (cond (a==6) (uK Q b c w) (cond (a==5) (St c (ae 4) w λw=>mN Q b c w) (cond (a==7) (mN Q b c w) (cond (a==8) (mN Q b c w) (St (b.add 0) (ae 0) w λw=>St (b.add 1) (ae 0) w λw=>St (b.add 2) (.bool false) w λw=>af .i64 (b.add 0) w λd=>af .i64 (b.add 1) w λe=>cD (b.add 2) w λf=>Q d e f false w))))))))) (ok 26) [] [aM (adk Q),aM (PM Q)] Tryz.func76
def AH (Q:Int->WP)(R3:Int->L3 (Int->Int->WP))(a:Int)(b:OA)(c d:Nat)(e f:Int)(w:World):Prop:=cond (decide (f<e)) (aJ f c<|wA b λg=>af .u8 (g.add (f.toNat*1)) w λi=>DR (IntKind.wrap .i64 (8*f))<|R3 (ior .i64 a (BH .i64 (IntKind.wrap .i64 i) (IntKind.wrap .i64 (8*f)))) b c d e (IntKind.wrap .i64 (f+1)) w) (Q a w)
def wJ (Q:Int->WP):Nat->Int->L3 (Int->Int->WP)
 |0,_,_,_,_,_,_,_=>False
 |k+1,a,b,c,d,e,f,w=>AH Q (wJ Q k) a b c d e f w
def agf (Q):∀k,Bk 22 Tryz.f140 (Tp Q) 3 [(3,.i .i64),(6,.l),(7,.i .i64),(8,.i .i64)] (wJ Q k):=bK λk h=>aU (ok 22) [] [aM h]
def abc:=λa b c w Q=>bB (wW a b c w Q) (∃k',wJ Q k' 0 a b c (b:Int) 0 w) (ok 22) [] [ct (agf Q)] Tryz.func140
noncomputable def ahX:cv:=[(1,sp 0 6 (.op 6 (.op 7 .done))),(14,sp 0 5 (sp 6 9 (sp 17 6 (.op 5 (.op 15 (.op 16 (.op 23 (.op 24 .done))))))))]
def agh:=λa b c w Q=>bB (Jt a b c w Q) (Al T 38 w λd w=>aJ 0 b<|wA a λe=>af .u8 (e.add (((0:Int).toNat)*1)) w.drew λf=>bU a b c 1 (some 1) none λg i j=>wT (IntKind.wrap .i64 f) w.drew λl m n o w=>Al T 137 w λp w=>St (p.add 0) (ae l) w λw=>St (p.add 1) (ae m) w λw=>St (p.add 2) (.bool n) w λw=>cond (!o) (St (d.add 0) (ae 0) w λw=>St (d.add 1) (ae (IntKind.wrap .i64 f)) w λw=>St (d.add 2) (ae 0) w λw=>St (d.add 3) (.slice none 0 0) w λw=>af .i64 (d.add 0) w λq=>af .i64 (d.add 1) w λr=>af .i64 (d.add 2) w λs=>aA (d.add 3) w λt u v=>Q q r s t u v 1 w) (cD (p.add 2) w λx=>cond x (cond (decide ((i:Int)<4)) (St (d.add 0) (ae 0) w λw=>St (d.add 1) (ae 0) w λw=>St (d.add 2) (ae 0) w λw=>St (d.add 3) (.slice none 0 0) w λw=>af .i64 (d.add 0) w λy=>af .i64 (d.add 1) w λz=>af .i64 (d.add 2) w λa1=>aA (d.add 3) w λb1 c1 d1=>Q y z a1 b1 c1 d1 0 w) (bU g i j 1 none (some 4) λe1 f1 g1=>wW e1 f1 g1 w λi1 w=>cond (decide ((IntKind.wrap .i64 ((i:Int)-4))<i1)) (St (d.add 0) (ae 0) w λw=>St (d.add 1) (ae 0) w λw=>St (d.add 2) (ae 0) w λw=>St (d.add 3) (.slice none 0 0) w λw=>af .i64 (d.add 0) w λj1=>af .i64 (d.add 1) w λl1=>af .i64 (d.add 2) w λm1=>aA (d.add 3) w λn1 o1 p1=>Q j1 l1 m1 n1 o1 p1 0 w) (bU g i j 1 (some 4) (some (IntKind.wrap .i64 (4+i1))) λq1 r1 s1=>App P #[22,22] 22 (.slice none 0 0) (.slice q1 r1 s1) w λt1 u1 v1 w=>St (d.add 0) (ae (IntKind.wrap .i64 f)) w λw=>St (d.add 1) (ae 0) w λw=>St (d.add 2) (ae 0) w λw=>St (d.add 3) (.slice t1 u1 v1) w λw=>af .i64 (d.add 0) w λx1=>af .i64 (d.add 1) w λy1=>af .i64 (d.add 2) w λz1=>aA (d.add 3) w λa2 b2 c2=>Q x1 y1 z1 a2 b2 c2 (IntKind.wrap .i64 (5+i1)) w))) (af .i64 p w λd2=>af .i64 (p.add 1) w λe2=>cond (decide ((i:Int)<(IntKind.wrap .i64 (d2+e2)))) (St (d.add 0) (ae 0) w λw=>St (d.add 1) (ae 0) w λw=>St (d.add 2) (ae 0) w λw=>St (d.add 3) (.slice none 0 0) w λw=>af .i64 (d.add 0) w λf2=>af .i64 (d.add 1) w λg2=>af .i64 (d.add 2) w λi2=>aA (d.add 3) w λj2 l2 m2=>Q f2 g2 i2 j2 l2 m2 0 w) (af .i64 p w.drew λn2=>bU g i j 1 none (some n2) λo2 p2 q2=>af .i64 p w.drew λr2=>af .i64 p w.drew λs2=>af .i64 (p.add 1) w.drew λt2=>bU g i j 1 (some r2) (some (IntKind.wrap .i64 (s2+t2))) λu2 v2 x2=>af .i64 p w.drew λy2=>af .i64 (p.add 1) w.drew λz2=>wW o2 p2 q2 w.drew λa3 w=>w.cell? (p.add 1)=some (ae z2)/\w.cell? p=some (ae y2)/\w.cell? (p.add 1)=some (ae t2)/\w.cell? p=some (ae s2)/\w.cell? p=some (ae r2)/\wW u2 v2 x2 w λb3 w=>w.cell? (p.add 1)=some (ae z2)/\w.cell? p=some (ae y2)/\St (d.add 0) (ae (IntKind.wrap .i64 f)) w λw=>St (d.add 1) (ae a3) w λw=>St (d.add 2) (ae b3) w λw=>St (d.add 3) (.slice none 0 0) w λw=>w.cell? (p.add 1)=some (ae z2)/\w.cell? p=some (ae y2)/\af .i64 (d.add 0) w λc3=>af .i64 (d.add 1) w λd3=>af .i64 (d.add 2) w λe3=>aA (d.add 3) w λf3 g3 i3=>Q c3 d3 e3 f3 g3 i3 (IntKind.wrap .i64 ((IntKind.wrap .i64 (1+y2))+z2)) w)))) (ok 80) ahX [] Tryz.func109
def ahY:=λa b c w Q=>bB (K3 a b c w Q) (cond ((b:Int)==0) (Q false w) (Jt a b c w λd e f g i j l w=>Al T 38 w λm w=>St (m.add 0) (ae d) w λw=>St (m.add 1) (ae e) w λw=>St (m.add 2) (ae f) w λw=>St (m.add 3) (.slice g i j) w λw=>Q (l==0) w)) (ok 15) [] [] Tryz.func75
def agi:=λa b w Q=>bB (AF a b w Q) (cond (decide (a≥0)) (DR (IntKind.wrap .i64 (8*b))<|Q (decide (a<(BH .i64 1 (IntKind.wrap .i64 (8*b))))) w) (Q false w)) (ok 14) [] [] Tryz.func77
def ahZ:=λa b c d e f w Q=>bB (K1 a b c d e f w Q) (Bx [ae a,ae b,ae c,.slice d e f] 38 w λg w=>af .i64 g w λi=>cond (i==0) (af .i64 (g.add 1) w λj=>cond (j==(-1)) (af .i64 (g.add 2) w λl=>cond (l==0) (aA (g.add 3) w λm n o=>K3 m n o w λp w=>Q p w) (Q false w)) (af .i64 (g.add 1) w λq=>wT q w λr s t u w=>Al T 137 w λv w=>St (v.add 0) (ae r) w λw=>St (v.add 1) (ae s) w λw=>St (v.add 2) (.bool t) w λw=>af .i64 (g.add 1) w λx=>AF x 1 w λy w=>cond y (cond (!u) (af .i64 (g.add 2) w λz=>cond (z==0) (aA (g.add 3) w λa1 b1 c1=>Q ((b1:Int)==0) w) (Q false w)) (Q false w)) (Q false w))) (af .i64 g w λd1=>wT d1 w λe1 f1 g1 i1 w=>Al T 137 w λj1 w=>St (j1.add 0) (ae e1) w λw=>St (j1.add 1) (ae f1) w λw=>St (j1.add 2) (.bool g1) w λw=>cond i1 (af .i64 (g.add 1) w λl1=>af .i64 j1 w λm1=>AF l1 m1 w λn1 w=>cond n1 (af .i64 (g.add 2) w λo1=>af .i64 (j1.add 1) w λp1=>AF o1 p1 w λq1 w=>cond q1 (aA (g.add 3) w λr1 s1 t1=>cond ((s1:Int)==0) (Q true w) (cD (j1.add 2) w λu1=>cond u1 (aA (g.add 3) w λv1 x1 y1=>Q (decide ((x1:Int)<=4294967295)) w) (Q false w))) (Q false w)) (Q false w)) (Q false w))) (ok 82) [] [] Tryz.func48
def RT:=λa b w Q=>bB (e_ a b w Q) (cond a.isNone (Q 0 w) (cond (decide (b<0)) (Q 0 w) (wA a λc=>aA (c.add 2) w λd e f=>cond (decide (b≥(e:Int))) (Q 0 w) (wA a λg=>aA (g.add 2) w λi j l=>aJ b j<|wA i λm=>af .u8 (m.add (b.toNat*1)) w λn=>Q (IntKind.wrap .i64 n) w)))) (ok 30) [] [] Tryz.func110
def Vu:=λa b w Q=>bB (rG a b w Q) (cond a.isNone (Q 0 w) (wA a λc=>bg c w λd=>e_ d b w λe w=>Q e w)) (ok 13) [] [] Tryz.func78
def r8 (Q:Value->WP)(a:OA)(b:Addr)(w:World):Prop:=wA a λc=>bg (c.add 1) w.drew λd=>af .i64 (b.add 1) w.drew λe=>rG d e w.drew λf w=>cond (f==0) (Q (.iface 108 (ae 7)) w) (Q (.nilIface) w)
noncomputable def D1:cv:=[(4,sp 0 6 (.op 6 (.op 7 .done))),(6,sp 0 6 (.op 6 (.op 7 .done)))]
def PN (Q):Bk 29 Tryz.f49 (Fe Q) 6 [(0,.p),(3,.a)] (r8 Q):=aU (ok 29) D1 []
def My:=λa b c d e f g w Q=>bB (wc a b c d e f g w Q) (Bx [ae b,ae c,ae d,.slice e f g] 38 w λi w=>af .i64 i w λj=>cond (j==3) (wA a λl=>bg (l.add 1) w.drew λm=>af .i64 (i.add 2) w.drew λn=>rG m n w.drew λo w=>cond (o==0) (Q (.iface 108 (ae 7)) w) (r8 Q a i w)) (cond (j==2) (r8 Q a i w) (Q (.nilIface) w))) (ok 29) D1 [aM (PN Q)] Tryz.func49
def ET:=λa w Q=>bB (gh a w Q) (cond (a==0) (Q (.nilIface) w) (Q (.iface 108 (ae a)) w)) (ok 7) [] [] Tryz.func54
def adl (P1:Value->Value->Value->Addr->WP)(Q:Bool->WP)(R18:Value->Value->Addr->L3 (Int->Int->WP))(a b:Value)(c:Addr)(d:OA)(e f:Nat)(g i:Int)(w:World):Prop:=cond (decide (i<g)) (aJ i e<|wA d λj=>bZ (j.add (i.toNat*1)) w λl=>BI l λm=>cond m (R18 a b c d e f g (IntKind.wrap .i64 (i+1)) w) (bg (c.add 0) w λn=>bg (c.add 1) w λo=>af .u64 (c.add 2) w λp=>F6 l a n o p b w λq w=>cond q (Q true w) (R18 a b c d e f g (IntKind.wrap .i64 (i+1)) w))) (Q false w)
def HK (P1:Value->Value->Value->Addr->WP)(Q:Bool->WP):Nat->Value->Value->Addr->L3 (Int->Int->WP)
 |0,_,_,_,_,_,_,_,_,_=>False
 |k+1,a,b,c,d,e,f,g,i,w=>adl P1 Q (HK P1 Q k) a b c d e f g i w
def Jw (P1:Value->Value->Value->Addr->WP)(Q:Bool->WP)(a b c:Value)(d:Addr)(w:World):Prop:=aL P (Instr.typeAssert a 74 224 true) w λe w=>dT e λf=>dH f λg i=>dV g λj=>dH i λl m=>dB l λn=>kL m<|cond n (yD (cx 62) j "Unwrap" [] w λo w=>dV o λp=>BI p λq=>cond q (Q false w) (P1 p b c d w)) (aL P (Instr.typeAssert a 74 226 true) w λr w=>dT r λs=>dH s λt u=>dV t λv=>dH u λx y=>dB x λz=>kL y<|cond z (yD (cx 62) v "Unwrap" [] w λa1 w=>dS a1 λb1 c1 d1=>∃k',HK P1 Q k' b c d b1 c1 d1 (c1:Int) 0 w) (Q false w))
def wK (Q:Bool->WP)(R1:Value->Value->Value->Addr->WP)(a b c:Value)(d:Addr)(w:World):Prop:=tE P 95 #[a] w λe w=>dV e λf=>yD (cx 62) f "AssignableTo" [c] w λg w=>dB g λi=>cond i (bg (d.add 0) w λj=>bg (d.add 1) w λl=>af .u64 (d.add 2) w λm=>tE P 138 #[.agg #[.pointer j,.pointer l,.int .u64 m]] w λn w=>dL n λo=>dH o λp q=>dP p λr=>dH q λs t=>dP s λu=>dH t λv x=>dI .u64 v λy=>kL x<|tE P 97 #[a] w λz w=>dL z λa1=>dH a1 λb1 c1=>dP b1 λd1=>dH c1 λe1 f1=>dP e1 λg1=>dH f1 λi1 j1=>dI .u64 i1 λl1=>kL j1<|tE P 139 #[.agg #[.pointer r,.pointer u,.int .u64 y],.agg #[.pointer d1,.pointer g1,.int .u64 l1]] w λm1 w=>dT m1 λn1=>kL n1<|Q true w) (aL P (Instr.typeAssert a 74 231 true) w λo1 w=>dT o1 λp1=>dH p1 λq1 r1=>dV q1 λs1=>dH r1 λt1 u1=>dB t1 λv1=>kL u1<|cond v1 (yD (cx 62) s1 "As" [b] w λx1 w=>dB x1 λy1=>cond y1 (Q true w) (Jw R1 Q a b c d w)) (Jw R1 Q a b c d w))
def jf (Q:Bool->WP):Nat->Value->Value->Value->Addr->WP
 |0,_,_,_,_,_=>False
 |k+1,a,b,c,d,w=>wK Q (jf Q k) a b c d w
def adm {P1}(Q)(H1:Bk 62 Tryz.f100 (wI Q) 1 [(0,.v),(1,.v),(3,.v),(6,.a)] P1):∀k,Bk 62 Tryz.f100 (wI Q) 18 [(1,.v),(3,.v),(6,.a),(48,.l),(49,.i .i64),(50,.i .i64)] (HK P1 Q k):=bK λk h=>aU (ok 62) [] [aM h]
def agj {P1}(Q)(H1:Bk 62 Tryz.f100 (wI Q) 1 [(0,.v),(1,.v),(3,.v),(6,.a)] P1):Bk 62 Tryz.f100 (wI Q) 7 [(0,.v),(1,.v),(3,.v),(6,.a)] (Jw P1 Q):=aU (ok 62) [] [aM H1,ct (adm Q H1)]
def agk (Q):∀k,Bk 62 Tryz.f100 (wI Q) 1 [(0,.v),(1,.v),(3,.v),(6,.a)] (jf Q k):=bK λk h=>aU (ok 62) [] [aM (agj Q h)]
def Ge:=λa b c d e f w Q=>bB (F6 a b c d e f w Q) (Bx [.pointer c,.pointer d,.int .u64 e] 161 w λg w=>∃k',jf Q k' a b f g w) (ok 62) [] [ct (agk Q)] Tryz.func100
def HL (Q:Bool->WP)(a b:Value)(c:Addr)(d:Value)(w:World):Prop:=bg (c.add 0) w λe=>bg (c.add 1) w λf=>af .u64 (c.add 2) w λg=>F6 a b e f g d w λi w=>Q i w
def Jx (Q:Bool->WP)(a b:Value)(c:Addr)(d:Value)(w:World):Prop:=False
def PO (Q):Bk 42 Tryz.f60 (Jo Q) 12 [(0,.v),(1,.v),(5,.a),(7,.v)] (HL Q):=aU (ok 42) [] []
def agl (Q):Bk 42 Tryz.f60 (Jo Q) 8 [(0,.v),(1,.v),(5,.a),(6,.v)] (Jx Q):=aU (ok 42) [] [aM (PO Q)]
def Bj:=λa b w Q=>bB (ni a b w Q) (BI a λc=>cond c (Q false w) (BI b λd=>cond d (False) (tE P 97 #[b] w λe w=>dL e λf=>dH f λg i=>dP g λj=>dH i λl m=>dP l λn=>dH m λo p=>dI .u64 o λq=>kL p<|Al T 161 w λr w=>St (r.add 0) (.pointer j) w λw=>St (r.add 1) (.pointer n) w λw=>St (r.add 2) (.int .u64 q) w λw=>bg (r.add 0) w λs=>bg (r.add 1) w λt=>af .u64 (r.add 2) w λu=>tE P 98 #[.agg #[.pointer s,.pointer t,.int .u64 u]] w λv w=>dV v λx=>yD (cx 42) x "Kind" [] w λy w=>dI .u8 y λz=>cond (z !=22) (Jx Q a b r x w) (bg (r.add 0) w λa1=>bg (r.add 1) w λb1=>af .u64 (r.add 2) w λc1=>tE P 99 #[.agg #[.pointer a1,.pointer b1,.int .u64 c1]] w λd1 w=>dB d1 λe1=>cond e1 (Jx Q a b r x w) (yD (cx 42) x "Elem" [] w λf1 w=>dV f1 λg1=>yD (cx 42) g1 "Kind" [] w λi1 w=>dI .u8 i1 λj1=>cond (j1 !=20) (bZ (aZ 1) w λl1=>yD (cx 42) g1 "Implements" [l1] w λm1 w=>dB m1 λn1=>cond (!n1) (False) (HL Q a b r g1 w)) (HL Q a b r g1 w)))))) (ok 42) [] [aM (agl Q),aM (PO Q)] Tryz.func60
def abd:=λa b w Q=>bB (lF a b w Q) (cond (decide (a≥1)) (cond (decide (a<=1024)) (cond (decide (b≥1)) (Q (decide (b<=1024)) w) (Q false w)) (Q false w)) (Q false w)) (ok 19) [] [] Tryz.func69
def Uk:=λa b w Q=>bB (k_ a b w Q) (lF a b w λc w=>cond (!c) (Q 0 0 w) (NZ 16<|NZ 16<|Q (IntKind.wrap .i64 (Int.tdiv (IntKind.wrap .i64 ((IntKind.wrap .i64 (a+16))-1)) 16)) (IntKind.wrap .i64 (Int.tdiv (IntKind.wrap .i64 ((IntKind.wrap .i64 (b+16))-1)) 16)) w)) (ok 18) [] [] Tryz.func146
def Zm:=λa b w Q=>bB (EJ a b w Q) (k_ a b w λc d w=>Q (IntKind.wrap .i64 (c*d)) w) (ok 16) [] [] Tryz.func141
noncomputable def XM:cv:=[(4,sp 0 8 (.op 8 (.op 9 (.op 10 .done))))]
def Vv:=λa b c w Q=>bB (wX a b c w Q) (k_ a b w λd e w=>cond (decide (c<0)) (Q 0 0 false w) (cond (decide (c≥(IntKind.wrap .i64 (d*e)))) (Q 0 0 false w) (NZ d<|NZ d<|Q (IntKind.wrap .i64 ((Int.tmod c d)*16)) (IntKind.wrap .i64 ((IntKind.wrap .i64 (Int.tdiv c d))*16)) true w.drew))) (ok 34) XM [] Tryz.func157
def Zn:=λa b c w Q=>bB (nW a b c w Q) (wX a b c w λd e f w=>cond (!f) (Q 0 0 w) (Q (Dr 16 (IntKind.wrap .i64 (a-d))) (Dr 16 (IntKind.wrap .i64 (b-e))) w)) (ok 29) [] [] Tryz.func142
def adn (P1:Value->Value->Bool->WP)(Q:Bool->WP)(R17:Value->Bool->L3 (Int->Int->WP))(a:Value)(b:Bool)(c:OA)(d e:Nat)(f g:Int)(w:World):Prop:=cond (decide (g<f)) (aJ g d<|wA c λi=>bZ (i.add (g.toNat*1)) w λj=>wU j a b w λl w=>cond l (Q true w) (R17 a b c d e f (IntKind.wrap .i64 (g+1)) w)) (Q false w)
def HM (P1:Value->Value->Bool->WP)(Q:Bool->WP):Nat->Value->Bool->L3 (Int->Int->WP)
 |0,_,_,_,_,_,_,_,_=>False
 |k+1,a,b,c,d,e,f,g,w=>adn P1 Q (HM P1 Q k) a b c d e f g w
def Jy (P1:Value->Value->Bool->WP)(Q:Bool->WP)(a b:Value)(c:Bool)(w:World):Prop:=aL P (Instr.typeAssert a 74 224 true) w λd w=>dT d λe=>dH e λf g=>dV f λi=>dH g λj l=>dB j λm=>kL l<|cond m (yD (cx 54) i "Unwrap" [] w λn w=>dV n λo=>BI o λp=>cond p (Q false w) (P1 o b c w)) (aL P (Instr.typeAssert a 74 226 true) w λq w=>dT q λr=>dH r λs t=>dV s λu=>dH t λv x=>dB v λy=>kL x<|cond y (yD (cx 54) u "Unwrap" [] w λz w=>dS z λa1 b1 c1=>∃k',HM P1 Q k' b c a1 b1 c1 (b1:Int) 0 w) (Q false w))
def Jz (P1:Value->Value->Bool->WP)(Q:Bool->WP)(a b:Value)(c:Bool)(w:World):Prop:=aL P (Instr.typeAssert a 74 221 true) w λd w=>dT d λe=>dH e λf g=>dV f λi=>dH g λj l=>dB j λm=>kL l<|cond m (yD (cx 54) i "Is" [b] w λn w=>dB n λo=>cond o (Q true w) (Jy P1 Q a b c w)) (Jy P1 Q a b c w)
def AI (Q:Bool->WP)(R1:Value->Value->Bool->WP)(a b:Value)(c:Bool)(w:World):Prop:=cond c (bX P .eql 74 (.tmp 16) (.tmp 17) a b w λd w=>cond d (Q true w) (Jz R1 Q a b c w)) (Jz R1 Q a b c w)
def pX (Q:Bool->WP):Nat->Value->Value->Bool->WP
 |0,_,_,_,_=>False
 |k+1,a,b,c,w=>AI Q (pX Q k) a b c w
def ado {P1}(Q)(H1:Bk 54 Tryz.f96 (pU Q) 1 [(0,.v),(1,.v),(2,.b)] P1):∀k,Bk 54 Tryz.f96 (pU Q) 17 [(1,.v),(2,.b),(43,.l),(44,.i .i64),(45,.i .i64)] (HM P1 Q k):=bK λk h=>aU (ok 54) [] [aM h]
def agm {P1}(Q)(H1:Bk 54 Tryz.f96 (pU Q) 1 [(0,.v),(1,.v),(2,.b)] P1):Bk 54 Tryz.f96 (pU Q) 6 [(0,.v),(1,.v),(2,.b)] (Jy P1 Q):=aU (ok 54) [] [aM H1,ct (ado Q H1)]
def agn {P1}(Q)(H1:Bk 54 Tryz.f96 (pU Q) 1 [(0,.v),(1,.v),(2,.b)] P1):Bk 54 Tryz.f96 (pU Q) 3 [(0,.v),(1,.v),(2,.b)] (Jz P1 Q):=aU (ok 54) [] [aM (agm Q H1)]
def ago (Q):∀k,Bk 54 Tryz.f96 (pU Q) 1 [(0,.v),(1,.v),(2,.b)] (pX Q k):=bK λk h=>aU (ok 54) [] [aM (agn Q h)]
def Nn:=λa b c w Q=>bB (wU a b c w Q) (∃k',pX Q k' a b c w) (ok 54) [] [ct (ago Q)] Tryz.func96
def Np:=λa b w Q=>bB (o7 a b w Q) (BI a λc=>cond c (bX P .eql 74 (.tmp 12) (.tmp 13) a b w λd w=>Q d w) (BI b λe=>cond e (bX P .eql 74 (.tmp 12) (.tmp 13) a b w λf w=>Q f w) (tE P 95 #[b] w λg w=>dV g λi=>yD (cx 22) i "Comparable" [] w λj w=>dB j λl=>wU a b l w λm w=>Q m w))) (ok 22) [] [] Tryz.func59
def HN:=λa b c w Q=>bB (jJ a b c w Q) (cond a.isNone (Q none 0 0 w) (Bx [] 5 w λd w=>App P #[22,22] 22 (.slice (some d) 0 0) (.slice a b c) w λe f g w=>Q e f g w)) (ok 8) [] [] Tryz.func103
noncomputable def PR:cv:=[(1,sp 0 12 .done),(2,.op 0 (.op 1 (.op 2 .done))),(4,sp 0 15 (.op 15 (.op 16 .done)))]
def Oi:=λa b w Q=>bB (nI a b w Q) (wA a λc=>aA c w.drew λd e f=>wA a λg=>af .i64 (g.add 1) w.drew λi=>cond (decide ((IntKind.wrap .i64 ((e:Int)-i))<b)) (bZ (aZ 6) w.drew.drew λj=>w.drew.drew.cell? (aZ 6)=some j/\dV j λl=>Q none 0 0 l w.drew.drew) (wA a λm=>af .i64 (m.add 1) w.drew λn=>wA a λo=>St (o.add 1) (ae (IntKind.wrap .i64 (n+b))) w.drew λw=>wA a λp=>aA p w.drew λq r s=>wA a λt=>af .i64 (t.add 1) w.drew λu=>wA a λv=>af .i64 (v.add 1) w.drew λx=>bU q r s 1 (some (IntKind.wrap .i64 (u-b))) (some x) λy z a1=>Q y z a1 (.nilIface) w.drew)) (ok 42) PR [] Tryz.func186
def kP (Q:Int->WP)(R2:L3 (Int->Int->Int->WP))(a:OA)(b c:Nat)(d e f:Int)(w:World):Prop:=cond (decide (f<e)) (aJ f b<|wA a λg=>af .u8 (g.add (f.toNat*1)) w λi=>cond (d==i) (Q f w) (R2 a b c d e (IntKind.wrap .i64 (f+1)) w)) (Q (-1) w)
def jg (Q:Int->WP):Nat->L3 (Int->Int->Int->WP)
 |0,_,_,_,_,_,_,_=>False
 |k+1,a,b,c,d,e,f,w=>kP Q (jg Q k) a b c d e f w
def JA (Q):∀k,Bk 19 Tryz.f160 (AG Q) 2 [(0,.l),(1,.i .u8),(7,.i .i64),(8,.i .i64)] (jg Q k):=bK λk h=>aU (ok 19) [] [aM h]
def HO:=λa b c d w Q=>bB (yR a b c d w Q) (∃k',jg Q k' a b c d (b:Int) 0 w) (ok 19) [] [ct (JA Q)] Tryz.func160
def FL:=λa b c d w Q=>bB (iW a b c d w Q) (yR a b c d w λe w=>Q (decide (e≥0)) w) (ok 9) [] [] Tryz.func145
def MA:=λa b w Q=>bB (qo a b w Q) (nI a b w λc d e f w=>BI f λg=>cond g (iW c d e 0 w λi w=>cond i (bZ (aZ 5) w λj=>dV j λl=>Q c d e l w) (dV f λm=>Q c d e m w)) (dV f λn=>Q c d e n w)) (ok 23) [] [] Tryz.func187
def PS:=λa b w Q=>bB (Fj a b w Q) (DR 32<|DR 32<|DR 32<|DR 32<|DR 32<|Q (IntKind.wrap .u64 ((IntKind.wrap .u64 ((IntKind.wrap .u64 ((oW .u64 a 32)*(oW .u64 b 32)))+(oW .u64 (IntKind.wrap .u64 ((IntKind.wrap .u64 ((oW .u64 a 32)*(BG .u64 b 4294967295)))+(oW .u64 (IntKind.wrap .u64 ((BG .u64 a 4294967295)*(BG .u64 b 4294967295))) 32))) 32)))+(oW .u64 (IntKind.wrap .u64 ((BG .u64 (IntKind.wrap .u64 ((IntKind.wrap .u64 ((oW .u64 a 32)*(BG .u64 b 4294967295)))+(oW .u64 (IntKind.wrap .u64 ((BG .u64 a 4294967295)*(BG .u64 b 4294967295))) 32))) 4294967295)+(IntKind.wrap .u64 ((BG .u64 a 4294967295)*(oW .u64 b 32))))) 32))) (IntKind.wrap .u64 (a*b)) w) (ok 51) [] [] Tryz.func240
def Ul:=λa b w Q=>bB (qw a b w Q) (Fj a b w λc d w=>Q c d w) (ok 30) [] [] Tryz.func218
def sY (Q:L3 WP)(R18:Int->Int->L3 (Int->WP))(a b:Int)(c:OA)(d e:Nat)(f:Int)(w:World):Prop:=cond (decide (f<a)) (bU c d e 1 (some f) none λg i j=>bU c d e 1 none (some (Dr f b)) λl m n=>cH P #[22,22] 3 (.slice g i j) (.slice l m n) w.drew λo w=>R18 a b c d e (IntKind.wrap .i64 (f+o)) w) (Q c d e w)
def s8 (Q:L3 WP):Nat->Int->Int->L3 (Int->WP)
 |0,_,_,_,_,_,_,_=>False
 |k+1,a,b,c,d,e,f,w=>sY Q (s8 Q k) a b c d e f w
def yp (Q:L3 WP)(a:OA)(b c:Nat)(d e:Int)(w:World):Prop:=tE P 219 #[ae d] w λf w=>dS f λg i j=>aL P (Instr.sliceAt 22 (.slice g i j) none (some (ae d)) (some (ae d))) w λo w=>dS o λl m n=>cH P #[22,22] 3 (.slice l m n) (.slice a b c) w λp w=>∃k',s8 Q k' d e l m n p w
def EU (Q:L3 WP)(a:OA)(b c:Nat)(d:Int)(w:World):Prop:=False
noncomputable def yq:cv:=[(20,sp 0 7 (.op 7 (.op 8 (.op 9 .done))))]
def XN (Q):∀k,Bk 77 Tryz.f188 (z7 Q) 18 [(7,.i .i64),(8,.i .i64),(9,.l),(10,.i .i64)] (s8 Q k):=bK λk h=>aU (ok 77) yq [aM h]
def JT (Q):Bk 77 Tryz.f188 (z7 Q) 16 [(0,.l),(7,.i .i64),(8,.i .i64)] (yp Q):=aU (ok 77) yq [ct (XN Q)]
def Zo (Q):Bk 77 Tryz.f188 (z7 Q) 7 [(0,.l),(6,.i .u64)] (EU Q):=aU (ok 77) yq [aM (JT Q)]
def IW:=λa b c d w Q=>bB (rH a b c d w Q) (cond (d==0) (Bx [] 5 w λe w=>Q (some e) 0 0 w) (cond (decide (d<0)) (False) (qw (IntKind.wrap .u64 (b:Int)) (IntKind.wrap .u64 d) w λf g w=>cond (decide (f>0)) (EU Q a b c g w) (cond (decide (g>9223372036854775807)) (EU Q a b c g w) (cond ((b:Int)==0) (Bx [] 5 w λi w=>Q (some i) 0 0 w) (cond (decide ((IntKind.wrap .i64 g)>8192)) (NZ (b:Int)<|cond ((IntKind.wrap .i64 ((IntKind.wrap .i64 (Int.tdiv 8192 (b:Int)))*(b:Int)))==0) (yp Q a b c (IntKind.wrap .i64 g) (b:Int) w) (yp Q a b c (IntKind.wrap .i64 g) (IntKind.wrap .i64 ((IntKind.wrap .i64 (Int.tdiv 8192 (b:Int)))*(b:Int))) w)) (yp Q a b c (IntKind.wrap .i64 g) (IntKind.wrap .i64 g) w))))))) (ok 77) yq [aM (Zo Q),aM (JT Q)] Tryz.func188
def ug (P2:OA->Int->L3 WP)(Q:L3 (Value->WP))(a:OA)(b:Int)(c:OA)(d e:Nat)(f g:Int)(w:World):Prop:=Bx [.int .u8 g] 5 w λi w=>rH (some i) 1 1 f w λj l m w=>App P #[22,22] 22 (.slice c d e) (.slice j l m) w λn o p w=>P2 a b n o p w
def pz (Q:L3 (Value->WP))(R2:OA->Int->L3 WP)(a:OA)(b:Int)(c:OA)(d e:Nat)(w:World):Prop:=cond (decide ((d:Int)<b)) (nI a 2 w λf g i j w=>BI j λl=>cond (!l) (dV j λm=>Q none 0 0 m w) (aJ 0 g<|wA f λn=>af .u8 (n.add (((0:Int).toNat)*1)) w.drew λo=>aJ 1 g<|wA f λp=>af .u8 (p.add (((1:Int).toNat)*1)) w.drew λq=>w.drew.cell? (p.add (((1:Int).toNat)*1))=some (.int .u8 q)/\cond (q==0) (bZ (aZ 5) w.drew.drew λr=>w.drew.drew.cell? (aZ 5)=some r/\dV r λs=>Q none 0 0 s w.drew.drew) (cond (decide ((IntKind.wrap .i64 ((IntKind.wrap .i64 o)+1))>(IntKind.wrap .i64 (b-(d:Int))))) (bZ (aZ 5) w.drew.drew λt=>w.drew.drew.cell? (aZ 5)=some t/\dV t λu=>Q none 0 0 u w.drew.drew) (cond (decide ((d:Int)>0)) (aJ (IntKind.wrap .i64 ((d:Int)-1)) d<|wA c λv=>af .u8 (v.add (((IntKind.wrap .i64 ((d:Int)-1))).toNat*1)) w.drew λx=>cond (x==q) (bZ (aZ 5) w.drew.drew λy=>w.drew.drew.cell? (aZ 5)=some y/\dV y λz=>Q none 0 0 z w.drew.drew) (ug R2 Q a b c d e (IntKind.wrap .i64 ((IntKind.wrap .i64 o)+1)) q w.drew)) (ug R2 Q a b c d e (IntKind.wrap .i64 ((IntKind.wrap .i64 o)+1)) q w.drew))))) (Q c d e (.nilIface) w)
def pA (Q:L3 (Value->WP)):Nat->OA->Int->L3 WP
 |0,_,_,_,_,_,_=>False
 |k+1,a,b,c,d,e,w=>pz Q (pA Q k) a b c d e w
noncomputable def y6:cv:=[(6,sp 0 8 (.op 8 (.op 9 .done))),(8,.op 0 (.op 1 (.op 2 .done)))]
def RU {P2}(Q)(H2:Bk 64 Tryz.f189 (tU Q) 2 [(0,.p),(1,.i .i64),(6,.l)] P2):Bk 64 Tryz.f189 (tU Q) 9 [(0,.p),(1,.i .i64),(6,.l),(9,.i .i64),(10,.i .u8)] (ug P2 Q):=aU (ok 64) y6 [aM H2]
def RV (Q):∀k,Bk 64 Tryz.f189 (tU Q) 2 [(0,.p),(1,.i .i64),(6,.l)] (pA Q k):=bK λk h=>aU (ok 64) y6 [aM (RU Q h)]
def Oj:=λa b w Q=>bB (xX a b w Q) (∃k',pA Q k' a b none 0 0 w) (ok 64) y6 [ct (RV Q)] Tryz.func189
noncomputable def PT:cv:=[(12,.op 0 (.op 1 (.op 2 .done)))]
def Ol:=λa b w Q=>bB (xV a b w Q) (nI a 1 w λc d e f w=>BI f λg=>cond (!g) (dV f λi=>Q none 0 0 i w) (aJ 0 d<|wA c λj=>af .u8 (j.add (((0:Int).toNat)*1)) w λl=>cond (l==0) (qo a 1 w λm n o p w=>rH m n o b w λq r s w=>dV p λt=>Q q r s t w) (cond (l==1) (qo a b w λu v x y w=>dV y λz=>Q u v x z w) (cond (l==2) (xX a b w λa1 b1 c1 d1 w=>dV d1 λe1=>Q a1 b1 c1 e1 w) (bZ (aZ 5) w.drew λf1=>w.drew.cell? (aZ 5)=some f1/\dV f1 λg1=>Q none 0 0 g1 w.drew))))) (ok 47) PT [] Tryz.func167
def Zp:=λa w Q=>bB (Aa a w Q) (cond (decide (a≥1)) (Q (decide (a<=16)) w) (Q false w)) (ok 9) [] [] Tryz.func220
def adp:=λa b c d e w Q=>bB (uJ a b c d e w Q) (Bx [ae a,ae b,.slice c d e] 84 w λf w=>af .i64 f w λg=>Aa g w λi w=>cond i (af .i64 (f.add 1) w λj=>Aa j w λl w=>cond l (aA (f.add 2) w λm n o=>af .i64 f w λp=>af .i64 (f.add 1) w λq=>cond ((n:Int)==(IntKind.wrap .i64 (p*q))) (aA (f.add 2) w λr s t=>iW r s t 0 w λu w=>Q (!u) w) (Q false w)) (Q false w)) (Q false w)) (ok 28) [] [] Tryz.func190
def jk (Q:Int->WP)(R2:L3 (Value->Int->Int->WP))(a:OA)(b c:Nat)(d:Value)(e f:Int)(w:World):Prop:=cond (decide (f<e)) (aJ f b<|wA a λg=>af .u8 (g.add (f.toNat*1)) w λi=>h_ (cx 19) d [.int .u8 i] w λj w=>dB j λl=>cond l (Q f w) (R2 a b c d e (IntKind.wrap .i64 (f+1)) w)) (Q (-1) w)
def jl (Q:Int->WP):Nat->L3 (Value->Int->Int->WP)
 |0,_,_,_,_,_,_,_=>False
 |k+1,a,b,c,d,e,f,w=>jk Q (jl Q k) a b c d e f w
def Gf (Q):∀k,Bk 19 Tryz.f264 (xd Q) 2 [(0,.l),(1,.v),(7,.i .i64),(8,.i .i64)] (jl Q k):=bK λk h=>aU (ok 19) [] [aM h]
def EV:=λa b c d w Q=>bB (uV a b c d w Q) (∃k',jl Q k' a b c d (b:Int) 0 w) (ok 19) [] [ct (Gf Q)] Tryz.func264
def CN:=λa b c d w Q=>bB (mL a b c d w Q) (uV a b c d w λe w=>Q (decide (e≥0)) w) (ok 9) [] [] Tryz.func241
def Zq:=λa b w Q=>bB (Lb a b w Q) (wA b λc=>aA (c.add 2) w λd e f=>aJ 0 e<|wA d λg=>af .u8 (g.add (((0:Int).toNat)*1)) w λi=>Q (a !=i) w) (ok 10) [] [] Tryz.func242
def En (uW:Addr->L3 (Int->WP))(Q:L3 WP)(a:Addr)(b:OA)(c d:Nat)(e f:Int)(w:World):Prop:=aA (a.add 2) w λg i j=>aJ e i<|wA g λl=>af .u8 (l.add (e.toNat*1)) w λm=>Bx [.int .u8 (IntKind.wrap .u8 (IntKind.wrap .i64 (f-1))),.int .u8 m] 5 w λn w=>App P #[22,22] 22 (.slice b c d) (.slice (some n) 2 2) w λo p q w=>uW a o p q (IntKind.wrap .i64 (e+f)) w
def JB (uW:Addr->L3 (Int->WP))(Q:L3 WP)(R12:Addr->L3 (Int->Int->WP))(a:Addr)(b:OA)(c d:Nat)(e f:Int)(w:World):Prop:=aA (a.add 2) w.drew λg i j=>cond (decide ((IntKind.wrap .i64 (e+f))<(i:Int))) (aA (a.add 2) w.drew λl m n=>aJ (IntKind.wrap .i64 (e+f)) m<|wA l λo=>af .u8 (o.add (((IntKind.wrap .i64 (e+f))).toNat*1)) w.drew λp=>aA (a.add 2) w.drew λq r s=>aJ e r<|wA q λt=>af .u8 (t.add (e.toNat*1)) w.drew λu=>cond (p==u) (R12 a b c d e (IntKind.wrap .i64 (f+1)) w.drew) (En uW Q a b c d e f w.drew)) (En uW Q a b c d e f w.drew)
def wL (uW:Addr->L3 (Int->WP))(Q:L3 WP):Nat->Addr->L3 (Int->Int->WP)
 |0,_,_,_,_,_,_,_=>False
 |k+1,a,b,c,d,e,f,w=>JB uW Q (wL uW Q k) a b c d e f w
def JC (Q:L3 WP)(Yu:Addr->L3 (Int->WP))(a:Addr)(b:OA)(c d:Nat)(e:Int)(w:World):Prop:=aA (a.add 2) w λf g i=>cond (decide (e<(g:Int))) (∃k',wL Yu Q k' a b c d e 1 w) (Q b c d w)
def wM (Q:L3 WP):Nat->Addr->L3 (Int->WP)
 |0,_,_,_,_,_,_=>False
 |k+1,a,b,c,d,e,w=>JC Q (wM Q k) a b c d e w
noncomputable def Eo:cv:=[(12,sp 0 22 .done)]
def agp {uW}(Q)(H10:Bk 75 Tryz.f221 (yW Q) 10 [(2,.a),(5,.l),(6,.i .i64)] uW):Bk 75 Tryz.f221 (yW Q) 14 [(2,.a),(5,.l),(6,.i .i64),(7,.i .i64)] (En uW Q):=aU (ok 75) Eo [aM H10]
def agq {uW}(Q)(H10:Bk 75 Tryz.f221 (yW Q) 10 [(2,.a),(5,.l),(6,.i .i64)] uW):∀k,Bk 75 Tryz.f221 (yW Q) 12 [(2,.a),(5,.l),(6,.i .i64),(7,.i .i64)] (wL uW Q k):=bK λk h=>aU (ok 75) Eo [aM h,aM (agp Q H10)]
def agr (Q):∀k,Bk 75 Tryz.f221 (yW Q) 10 [(2,.a),(5,.l),(6,.i .i64)] (wM Q k):=bK λk h=>aU (ok 75) Eo [ct (agq Q h)]
def adq:=λa b c d e f w Q=>bB (HH a b c d e f w Q) (Bx [ae a,ae b,.slice c d e] 84 w λg w=>Bx [.int .u8 (IntKind.wrap .u8 f)] 5 w λi w=>cond (f==0) (aA (g.add 2) w λj l m=>mL j l m (.func (.func 242) #[] #[.pointer (some g)]) w λn w=>cond n (Q none 0 0 w) (aA (g.add 2) w λo p q=>aJ 0 p<|wA o λr=>af .u8 (r.add (((0:Int).toNat)*1)) w λs=>Bx [.int .u8 s] 5 w λt w=>App P #[22,22] 22 (.slice (some i) 1 1) (.slice (some t) 1 1) w λu v x w=>Q u v x w)) (cond (f==1) (aA (g.add 2) w λy z a1=>App P #[22,22] 22 (.slice (some i) 1 1) (.slice y z a1) w λb1 c1 d1 w=>Q b1 c1 d1 w) (∃k',wM Q k' g (some i) 1 1 0 w))) (ok 75) Eo [ct (agr Q)] Tryz.func221
def y7 (P3:Addr->Int->L3 (Int->WP))(Q:Int->L3 WP)(a:Addr)(b:Int)(c:OA)(d e:Nat)(f:Int)(w:World):Prop:=P3 a b c d e (IntKind.wrap .i64 (f+1)) w
def jN (Q:Int->L3 WP)(R3:Addr->Int->L3 (Int->WP))(a:Addr)(b:Int)(c:OA)(d e:Nat)(f:Int)(w:World):Prop:=cond (decide (f<3)) (af .i64 (a.add 0) w λg=>af .i64 (a.add 1) w λi=>aA (a.add 2) w λj l m=>HH g i j l m f w λn o p w=>cond (!n.isNone) (cond c.isNone (y7 R3 Q a f n o p f w) (cond (decide ((o:Int)<(d:Int))) (y7 R3 Q a f n o p f w) (R3 a b c d e (IntKind.wrap .i64 (f+1)) w))) (R3 a b c d e (IntKind.wrap .i64 (f+1)) w)) (Q b c d e w)
def oh (Q:Int->L3 WP):Nat->Addr->Int->L3 (Int->WP)
 |0,_,_,_,_,_,_,_=>False
 |k+1,a,b,c,d,e,f,w=>jN Q (oh Q k) a b c d e f w
def adr {P3}(Q)(H3:Bk 32 Tryz.f191 (CI Q) 3 [(1,.a),(4,.i .i64),(5,.l),(8,.i .i64)] P3):Bk 32 Tryz.f191 (CI Q) 7 [(1,.a),(6,.i .i64),(7,.l),(8,.i .i64)] (y7 P3 Q):=aU (ok 32) [] [aM H3]
def ads (Q):∀k,Bk 32 Tryz.f191 (CI Q) 3 [(1,.a),(4,.i .i64),(5,.l),(8,.i .i64)] (oh Q k):=bK λk h=>aU (ok 32) [] [aM h,aM (adr Q h)]
def Zr:=λa b c d e w Q=>bB (EO a b c d e w Q) (Bx [ae a,ae b,.slice c d e] 84 w λf w=>∃k',oh Q k' f (-1) none 0 0 0 w) (ok 32) [] [ct (ads Q)] Tryz.func191
def adt:=λa b c d e w Q=>bB (HG a b c d e w Q) (Bx [ae a,ae b,.slice c d e] 84 w λf w=>af .i64 (f.add 0) w λg=>af .i64 (f.add 1) w λi=>aA (f.add 2) w λj l m=>uJ g i j l m w λn w=>cond (!n) (Q none 0 0 1 w) (af .i64 (f.add 0) w λo=>af .i64 (f.add 1) w λp=>aA (f.add 2) w λq r s=>EO o p q r s w λt u v x w=>Q u v x 0 w)) (ok 15) [] [] Tryz.func168
def XO:=λa b c d e f w Q=>bB (Dw a b c d e f w Q) (aL P (convert 22 9 (.slice a b c)) w λg w=>YU g λi=>aL P (convert 22 9 (.slice d e f)) w λj w=>YU j λl=>Q (i.toList==l.toList) w) (ok 10) [] [] Tryz.func169
def y8 (Q:Int->Int->L3 (Value->WP))(a b:Addr)(w:World):Prop:=St (a.add 0) (ae 0) w λw=>St (a.add 1) (ae 0) w λw=>St (a.add 2) (.slice none 0 0) w λw=>af .i64 (a.add 0) w λc=>af .i64 (a.add 1) w λd=>aA (a.add 2) w λe f g=>Q c d e f g (.iface 268 (.pointer (some b))) w
def mO (Q:Int->Int->L3 (Value->WP))(a:OA)(b:Addr)(c:Value)(d:Addr)(w:World):Prop:=BI c λe=>cond e (af .i64 (d.add 0) w λf=>af .i64 (d.add 1) w λg=>aA (d.add 2) w λi j l=>St (b.add 0) (ae f) w λw=>St (b.add 1) (ae g) w λw=>St (b.add 2) (.slice i j l) w λw=>af .i64 (b.add 0) w λm=>af .i64 (b.add 1) w λn=>aA (b.add 2) w λo p q=>Q m n o p q (.nilIface) w) (wA a λr=>af .i64 (r.add 1) w λs=>dV c λt=>Bx [ae s,ae 3,t] 271 w λu w=>bZ (aZ 6) w λv=>o7 c v w λx w=>cond x (St (u.add 1) (ae 2) w λw=>y8 Q b u w) (y8 Q b u w))
noncomputable def y9:cv:=[(5,sp 0 10 (.op 10 (.op 11 .done)))]
def PU (Q):Bk 66 Tryz.f158 (zZ Q) 12 [(6,.a),(13,.a)] (y8 Q):=aU (ok 66) y9 []
def RW (Q):Bk 66 Tryz.f158 (zZ Q) 7 [(0,.p),(6,.a),(9,.v),(10,.a)] (mO Q):=aU (ok 66) y9 [aM (PU Q)]
def Om:=λa b c w Q=>bB (xU a b c w Q) (Al T 84 w λd w=>xV a (IntKind.wrap .i64 (b*c)) w λe f g i w=>jJ e f g w λj l m w=>Al T 84 w λn w=>St (n.add 0) (ae b) w λw=>St (n.add 1) (ae c) w λw=>St (n.add 2) (.slice j l m) w λw=>BI i λo=>cond o (af .i64 (n.add 0) w λp=>af .i64 (n.add 1) w λq=>aA (n.add 2) w λr s t=>HG p q r s t w λu v x y w=>wA a λz=>aA z w.drew λa1 b1 c1=>wA a λd1=>af .i64 (d1.add 1) w.drew λe1=>bU a1 b1 c1 1 none (some e1) λf1 g1 i1=>Dw u v x f1 g1 i1 w.drew λj1 w=>cond (!j1) (bZ (aZ 5) w λl1=>mO Q a d l1 n w) (mO Q a d i n w)) (mO Q a d i n w)) (ok 66) y9 [aM (RW Q)] Tryz.func158
def B5 (Q:Int->Int->L3 (Int->Int->WP))(a:Addr)(w:World):Prop:=St (a.add 0) (ae 0) w λw=>St (a.add 1) (ae 0) w λw=>St (a.add 2) (.slice none 0 0) w λw=>af .i64 (a.add 0) w λb=>af .i64 (a.add 1) w λc=>aA (a.add 2) w λd e f=>Q b c d e f 0 1 w
noncomputable def Ts:cv:=[(7,sp 0 5 (.op 5 (.op 6 (.op 7 .done)))),(8,sp 0 5 (.op 5 (.op 6 (.op 7 .done))))]
def ah1 (Q):Bk 50 Tryz.f143 (Vi Q) 2 [(6,.a)] (B5 Q):=aU (ok 50) Ts []
def adu:=λa b c d e w Q=>bB (HF a b c d e w Q) (Al T 84 w λf w=>cond (decide (d<1)) (B5 Q f w) (cond (decide (d>16)) (B5 Q f w) (cond (decide (e<1)) (B5 Q f w) (cond (decide (e>16)) (B5 Q f w) (Bx [.slice a b c,ae 0] 265 w λg w=>xU (some g) d e w λi j l m n o w=>St (f.add 0) (ae i) w λw=>St (f.add 1) (ae j) w λw=>St (f.add 2) (.slice l m n) w λw=>Al T 268 w λp w=>St p (.pointer none) w λw=>ni o (.iface 269 (.pointer (some p))) w λq w=>cond q (bg p w.drew λr=>wA r λs=>af .i64 (s.add 1) w.drew λt=>St (f.add 0) (ae 0) w.drew λw=>St (f.add 1) (ae 0) w λw=>St (f.add 2) (.slice none 0 0) w λw=>w.cell? (s.add 1)=some (ae t)/\w.cell? p=some (.pointer r)/\w.cell? (s.add 1)=some (ae t)/\w.cell? p=some (.pointer r)/\af .i64 (f.add 0) w λu=>af .i64 (f.add 1) w λv=>aA (f.add 2) w λx y z=>Q u v x y z 0 t w) (af .i64 (f.add 0) w.drew λa1=>af .i64 (f.add 1) w.drew λb1=>aA (f.add 2) w.drew λc1 d1 e1=>af .i64 (g.add 1) w.drew λf1=>St (f.add 0) (ae a1) w.drew λw=>St (f.add 1) (ae b1) w λw=>St (f.add 2) (.slice c1 d1 e1) w λw=>w.cell? (g.add 1)=some (ae f1)/\af .i64 (f.add 0) w λg1=>af .i64 (f.add 1) w λi1=>aA (f.add 2) w λj1 l1 m1=>Q g1 i1 j1 l1 m1 f1 0 w)))))) (ok 50) Ts [aM (ah1 Q)] Tryz.func143
def Zs:=λa b c d w Q=>bB (zX a b c d w Q) (lF a b w λe w=>cond (!e) (Q (-1) w) (cond (decide (c<0)) (Q (-1) w) (cond (decide (c≥a)) (Q (-1) w) (cond (decide (d<0)) (Q (-1) w) (cond (decide (d≥b)) (Q (-1) w) (Q (IntKind.wrap .i64 ((IntKind.wrap .i64 (d*a))+c)) w)))))) (ok 36) [] [] Tryz.func42
noncomputable def XP:cv:=[(5,sp 0 12 (.op 12 (.op 13 .done)))]
def Vw:=λa b c d w Q=>bB (n8 a b c d w Q) (wX a b c w λe f g w=>nW a b c w λi j w=>cond (!g) (Q (-1) w) (cond (decide (d<0)) (Q (-1) w) (cond (decide (d≥(IntKind.wrap .i64 (i*j)))) (Q (-1) w) (NZ i<|NZ i<|zX a b (IntKind.wrap .i64 (e+(Int.tmod d i))) (IntKind.wrap .i64 (f+(IntKind.wrap .i64 (Int.tdiv d i)))) w.drew λl w=>Q l w)))) (ok 55) XP [] Tryz.func159
def AJ (Q:WP)(R3:Addr->Addr->Int->Int->Int->WP)(a b:Addr)(c d e:Int)(w:World):Prop:=cond (decide (e<d)) (aA (a.add 2) w.drew λf g i=>af .i64 a w.drew λj=>bU f g i 1 (some (IntKind.wrap .i64 (c+(IntKind.wrap .i64 (e*j))))) none λl m n=>aA (b.add 2) w.drew λo p q=>af .i64 b w.drew λr=>af .i64 b w.drew λs=>bU o p q 1 (some (IntKind.wrap .i64 (e*r))) (some (IntKind.wrap .i64 ((IntKind.wrap .i64 (e+1))*s))) λt u v=>cH P #[22,22] 3 (.slice l m n) (.slice t u v) w.drew λx w=>R3 a b c d (IntKind.wrap .i64 (e+1)) w) (Q w)
def Ep (Q:WP):Nat->Addr->Addr->Int->Int->Int->WP
 |0,_,_,_,_,_,_=>False
 |k+1,a,b,c,d,e,w=>AJ Q (Ep Q k) a b c d e w
noncomputable def PV:cv:=[(5,sp 0 21 (.op 21 .done))]
def ags (Q):∀k,Bk 42 Tryz.f144 (Tq Q) 3 [(3,.a),(5,.a),(6,.i .i64),(15,.i .i64),(16,.i .i64)] (Ep Q k):=bK λk h=>aU (ok 42) PV [aM h]
def abe:=λa b c d e f g i j l m w Q=>bB (F_ a b c d e f g i j l m w Q) (Bx [ae a,ae b,.slice c d e] 25 w λn w=>Bx [ae g,ae i,.slice j l m] 84 w λo w=>af .i64 n w λp=>af .i64 (n.add 1) w λq=>n8 p q f 0 w λr w=>af .i64 (o.add 1) w λs=>∃k',Ep Q k' n o r s 0 w) (ok 42) PV [ct (ags Q)] Tryz.func144
def y_ (Q:Int->Int->L3 (Value->WP))(R9:L3 (Addr->Addr->Int->Int->WP))(a:OA)(b c:Nat)(d e:Addr)(f g:Int)(w:World):Prop:=cond (decide (g<f)) (af .i64 e w λi=>af .i64 (e.add 1) w λj=>nW i j g w λl m w=>HF a b c l m w λn o p q r s t w=>Al T 84 w λu w=>St (u.add 0) (ae n) w λw=>St (u.add 1) (ae o) w λw=>St (u.add 2) (.slice p q r) w λw=>cond (t !=0) (Bx [ae g,.iface 187 (ae t)] 242 w λv w=>St (d.add 0) (ae 0) w λw=>St (d.add 1) (ae 0) w λw=>St (d.add 2) (.slice none 0 0) w λw=>af .i64 (d.add 0) w λx=>af .i64 (d.add 1) w λy=>aA (d.add 2) w λz a1 b1=>Q x y z a1 b1 (.iface 240 (.pointer (some v))) w) (af .i64 (e.add 0) w λc1=>af .i64 (e.add 1) w λd1=>aA (e.add 2) w λe1 f1 g1=>af .i64 (u.add 0) w λi1=>af .i64 (u.add 1) w λj1=>aA (u.add 2) w λl1 m1 n1=>F_ c1 d1 e1 f1 g1 g i1 j1 l1 m1 n1 w λw=>bU a b c 1 (some s) none λo1 p1 q1=>R9 o1 p1 q1 d e f (IntKind.wrap .i64 (g+1)) w)) (cond (decide ((b:Int)>0)) (St (d.add 0) (ae 0) w λw=>St (d.add 1) (ae 0) w λw=>St (d.add 2) (.slice none 0 0) w λw=>af .i64 (d.add 0) w λr1=>af .i64 (d.add 1) w λs1=>aA (d.add 2) w λt1 u1 v1=>Q r1 s1 t1 u1 v1 (.iface 187 (ae 3)) w) (af .i64 (e.add 0) w λx1=>af .i64 (e.add 1) w λy1=>aA (e.add 2) w λz1 a2 b2=>St (d.add 0) (ae x1) w λw=>St (d.add 1) (ae y1) w λw=>St (d.add 2) (.slice z1 a2 b2) w λw=>af .i64 (d.add 0) w λc2=>af .i64 (d.add 1) w λd2=>aA (d.add 2) w λe2 f2 g2=>Q c2 d2 e2 f2 g2 (.nilIface) w))
def CO (Q:Int->Int->L3 (Value->WP)):Nat->L3 (Addr->Addr->Int->Int->WP)
 |0,_,_,_,_,_,_,_,_=>False
 |k+1,a,b,c,d,e,f,g,w=>y_ Q (CO Q k) a b c d e f g w
noncomputable def Nq:cv:=[(3,sp 0 21 (.op 21 (.op 22 .done)))]
def adv (Q):∀k,Bk 102 Tryz.f111 (Pz Q) 9 [(0,.l),(2,.a),(4,.a),(58,.i .i64),(59,.i .i64)] (CO Q k):=bK λk h=>aU (ok 102) Nq [aM h]
def Zt:=λa b c w Q=>bB (EH a b c w Q) (Al T 25 w λd w=>cond (decide ((b:Int)<4)) (St (d.add 0) (ae 0) w λw=>St (d.add 1) (ae 0) w λw=>St (d.add 2) (.slice none 0 0) w λw=>af .i64 (d.add 0) w λe=>af .i64 (d.add 1) w λf=>aA (d.add 2) w λg i j=>Q e f g i j (.iface 187 (ae 2)) w) (aJ 0 b<|wA a λl=>af .u8 (l.add (((0:Int).toNat)*1)) w.drew λm=>aJ 1 b<|wA a λn=>af .u8 (n.add (((1:Int).toNat)*1)) w.drew λo=>DR 8<|aJ 2 b<|wA a λp=>af .u8 (p.add (((2:Int).toNat)*1)) w.drew λq=>aJ 3 b<|wA a λr=>af .u8 (r.add (((3:Int).toNat)*1)) w.drew λs=>DR 8<|Al T 25 w.drew λt w=>w.cell? (r.add (((3:Int).toNat)*1))=some (.int .u8 s)/\w.cell? (p.add (((2:Int).toNat)*1))=some (.int .u8 q)/\w.cell? (n.add (((1:Int).toNat)*1))=some (.int .u8 o)/\w.cell? (l.add (((0:Int).toNat)*1))=some (.int .u8 m)/\St (t.add 0) (ae (ior .i64 (IntKind.wrap .i64 m) (BH .i64 (IntKind.wrap .i64 o) 8))) w λw=>St (t.add 1) (ae (ior .i64 (IntKind.wrap .i64 q) (BH .i64 (IntKind.wrap .i64 s) 8))) w λw=>St (t.add 2) (.slice none 0 0) w λw=>af .i64 t w λu=>af .i64 (t.add 1) w λv=>lF u v w λx w=>cond (!x) (St (d.add 0) (ae 0) w λw=>St (d.add 1) (ae 0) w λw=>St (d.add 2) (.slice none 0 0) w λw=>af .i64 (d.add 0) w λy=>af .i64 (d.add 1) w λz=>aA (d.add 2) w λa1 b1 c1=>Q y z a1 b1 c1 (.iface 187 (ae 3)) w) (bU a b c 1 (some 4) none λd1 e1 f1=>af .i64 t w λg1=>af .i64 (t.add 1) w λi1=>cA P 22 (ae (IntKind.wrap .i64 (g1*i1))) (ae (IntKind.wrap .i64 (g1*i1))) w λj1 l1 m1 w=>St (t.add 2) (.slice j1 l1 m1) w λw=>af .i64 t w λn1=>af .i64 (t.add 1) w λo1=>EJ n1 o1 w λp1 w=>∃k',CO Q k' d1 e1 f1 d t p1 0 w))) (ok 102) Nq [ct (adv Q)] Tryz.func111
noncomputable def adw:cv:=[(4,sp 0 2 (.op 2 (.op 3 .done)))]
def abf:=λa b c w Q=>bB (F4 a b c w Q) (Al T 25 w λd w=>EH a b c w λe f g i j l w=>Al T 25 w λm w=>St (m.add 0) (ae e) w λw=>St (m.add 1) (ae f) w λw=>St (m.add 2) (.slice g i j) w λw=>Al T 187 w λn w=>St n (ae 0) w λw=>ni l (.iface 188 (.pointer (some n))) w λo w=>cond o (af .i64 n w.drew λp=>St (d.add 0) (ae 0) w.drew λw=>St (d.add 1) (ae 0) w λw=>St (d.add 2) (.slice none 0 0) w λw=>w.cell? n=some (ae p)/\af .i64 (d.add 0) w λq=>af .i64 (d.add 1) w λr=>aA (d.add 2) w λs t u=>Q q r s t u p w) (af .i64 (m.add 0) w λv=>af .i64 (m.add 1) w λx=>aA (m.add 2) w λy z a1=>St (d.add 0) (ae v) w λw=>St (d.add 1) (ae x) w λw=>St (d.add 2) (.slice y z a1) w λw=>af .i64 (d.add 0) w λb1=>af .i64 (d.add 1) w λc1=>aA (d.add 2) w λd1 e1 f1=>Q b1 c1 d1 e1 f1 0 w)) (ok 18) adw [] Tryz.func79
def MB:=λa w Q=>bB (qk a w Q) (cond (!a.isNone) (wA a λb=>bg b w λc=>vz c w λw=>wA a λd=>St (d.add 1) (.slice none 0 0) w λw=>Q w) (Q w)) (ok 12) [] [] Tryz.func82
def abg:=λa b c d e w Q=>bB (Bg a b c d e w Q) (Bx [ae a,ae b,.slice c d e] 25 w λf w=>af .i64 f w λg=>af .i64 (f.add 1) w λi=>lF g i w λj w=>cond j (aA (f.add 2) w λl m n=>af .i64 f w λo=>af .i64 (f.add 1) w λp=>cond ((m:Int)==(IntKind.wrap .i64 (o*p))) (aA (f.add 2) w λq r s=>iW q r s 0 w λt w=>Q (!t) w) (Q false w)) (Q false w)) (ok 25) [] [] Tryz.func112
def B6 (Q:OA->WP)(R7:Addr->Int->Int->WP)(a:Addr)(b c:Int)(w:World):Prop:=cond (decide (c<b)) (aA (a.add 4) w.drew λd e f=>af .i64 (a.add 3) w.drew λg=>aJ c e<|wA d λi=>St (i.add (c.toNat*1)) (ae g) w.drew λw=>R7 a b (IntKind.wrap .i64 (c+1)) w) (Q (some a) w)
def za (Q:OA->WP):Nat->Addr->Int->Int->WP
 |0,_,_,_,_=>False
 |k+1,a,b,c,w=>B6 Q (za Q k) a b c w
noncomputable def Tt:cv:=[(5,sp 0 6 (.op 6 (.op 7 (.op 8 (.op 9 .done))))),(9,sp 0 10 (.op 10 .done))]
def ah2 (Q):∀k,Bk 61 Tryz.f113 (Vg Q) 7 [(7,.a),(45,.i .i64),(46,.i .i64)] (za Q k):=bK λk h=>aU (ok 61) Tt [aM h]
def adx:=λa b c d e f w Q=>bB (HC a b c d e f w Q) (Bx [ae a,ae b,.slice c d e] 25 w λg w=>af .i64 (g.add 0) w λi=>af .i64 (g.add 1) w λj=>aA (g.add 2) w λl m n=>Bg i j l m n w λo w=>cond (!o) (Q none w) (cond (decide (f<0)) (Q none w) (cond (decide (f>4611686018427387904)) (Q none w) (aA (g.add 2) w λp q r=>jJ p q r w λs t u w=>St (g.add 2) (.slice s t u) w λw=>af .i64 g w λv=>af .i64 (g.add 1) w λx=>k_ v x w λy z w=>af .i64 (g.add 0) w.drew λa1=>af .i64 (g.add 1) w.drew λb1=>aA (g.add 2) w.drew λc1 d1 e1=>cA P 172 (ae (IntKind.wrap .i64 (y*z))) (ae (IntKind.wrap .i64 (y*z))) w.drew λf1 g1 i1 w=>w.cell? (g.add 0)=some (ae a1)/\w.cell? (g.add 1)=some (ae b1)/\w.cell? (g.add 2)=some (.slice c1 d1 e1)/\Bx [ae a1,ae b1,.slice c1 d1 e1,ae (IntKind.wrap .i64 (f+1)),.slice f1 g1 i1] 174 w λj1 w=>aA (j1.add 4) w λl1 m1 n1=>∃k',za Q k' j1 (m1:Int) 0 w)))) (ok 61) Tt [ct (ah2 Q)] Tryz.func113
def Fq:=λa w Q=>bB (fZ a w Q) (cond a.isNone (Q 0 w) (wA a λb=>af .i64 (b.add 3) w λc=>Q c w)) (ok 9) [] [] Tryz.func114
noncomputable def Um:cv:=[(3,sp 0 10 (.op 10 (.op 11 .done)))]
def RX:=λa w Q=>bB (eM a w Q) (cond a.isNone (Q 0 0 w) (wA a λb=>af .i64 b w.drew λc=>wA a λd=>af .i64 (d.add 1) w.drew λe=>w.drew.cell? (d.add 1)=some (ae e)/\Q c e w.drew)) (ok 16) Um [] Tryz.func147
def ady:=λa w Q=>bB (HD a w Q) (cond a.isNone (Q none w) (eM a w λb c w=>k_ b c w λd e w=>cA P 234 (ae (IntKind.wrap .i64 (d*e))) (ae (IntKind.wrap .i64 (d*e))) w λf g i w=>Bx [.pointer a,.slice f g i,ae 0,.int .u64 0] 236 w λj w=>Q (some j) w)) (ok 22) [] [] Tryz.func115
def abh:=λa b w Q=>bB (F7 a b w Q) (cond a.isNone (Q none w) (cond b.isNone (Q none w) (Bx [.pointer a,.pointer b,.pointer none,.int .u64 0] 197 w λc w=>Q (some c) w))) (ok 15) [] [] Tryz.func116
noncomputable def XQ:cv:=[(5,sp 0 6 (.op 6 (.op 7 (sp 8 2 (.op 10 .done))))),(6,sp 0 6 (.op 6 (.op 7 (sp 8 2 (.op 10 .done))))),(8,sp 0 9 (.op 9 (sp 10 2 (.op 12 .done))))]
def Vx:=λa b c d e f w Q=>bB (BS a b c d e f w Q) (Bx [ae b,ae c,.slice d e f] 25 w λg w=>cond a.isNone (Q 4 w) (af .i64 (g.add 0) w λi=>af .i64 (g.add 1) w λj=>aA (g.add 2) w λl m n=>Bg i j l m n w λo w=>cond (!o) (Q 6 w) (wA a λp=>af .u64 ((p.add 4).add 0) w.drew λq=>af .u64 ((p.add 4).add 1) w.drew λr=>af .u64 ((p.add 4).add 2) w.drew λs=>af .u64 ((p.add 4).add 3) w.drew λt=>af .u64 ((p.add 4).add 4) w.drew λu=>af .u64 ((p.add 4).add 5) w.drew λv=>tP a w.drew λx y z a1 b1 c1 w=>w.cell? ((p.add 4).add 0)=some (.int .u64 q)/\w.cell? ((p.add 4).add 1)=some (.int .u64 r)/\w.cell? ((p.add 4).add 2)=some (.int .u64 s)/\w.cell? ((p.add 4).add 3)=some (.int .u64 t)/\w.cell? ((p.add 4).add 4)=some (.int .u64 u)/\w.cell? ((p.add 4).add 5)=some (.int .u64 v)/\wS q r s t u v x y z a1 b1 c1 w λd1 e1 f1 g1 i1 j1 w=>wA a λl1=>St ((l1.add 4).add 0) (.int .u64 d1) w λw=>St ((l1.add 4).add 1) (.int .u64 e1) w λw=>St ((l1.add 4).add 2) (.int .u64 f1) w λw=>St ((l1.add 4).add 3) (.int .u64 g1) w λw=>St ((l1.add 4).add 4) (.int .u64 i1) w λw=>St ((l1.add 4).add 5) (.int .u64 j1) w λw=>af .i64 (g.add 0) w.drew λm1=>af .i64 (g.add 1) w.drew λn1=>aA (g.add 2) w.drew λo1 p1 q1=>wA a λr1=>bg r1 w.drew λs1=>fZ s1 w.drew λt1 w=>w.cell? (g.add 0)=some (ae m1)/\w.cell? (g.add 1)=some (ae n1)/\w.cell? (g.add 2)=some (.slice o1 p1 q1)/\HC m1 n1 o1 p1 q1 t1 w λu1 w=>wA a λv1=>St v1 (.pointer u1) w λw=>wA a λx1=>bg x1 w λy1=>HD y1 w λz1 w=>wA a λa2=>St (a2.add 1) (.pointer z1) w λw=>wA a λb2=>bg (b2.add 1) w.drew λc2=>wA a λd2=>bg d2 w.drew λe2=>F7 c2 e2 w.drew λf2 w=>wA a λg2=>St (g2.add 2) (.pointer f2) w λw=>wA a λi2=>bg (i2.add 3) w λj2=>qk j2 w λw=>Q 0 w))) (ok 57) XQ [] Tryz.func80
def abi:=λa w Q=>bB (F8 a w Q) (cond (decide (a<1)) (Q none w) (cond (decide (a>65536)) (Q none w) (cz P 169 none w λb w=>Bx [ae a,ae 0,.map b,.slice none 0 0] 171 w λc w=>Q (some c) w))) (ok 13) [] [] Tryz.func117
def abj:=λa w Q=>bB (F9 a w Q) (cond (decide (a<1)) (Q none w) (cond (decide (a>1048576)) (Q none w) (cA P 245 (ae a) (ae a) w λb c d w=>Bx [.slice b c d,ae 0] 247 w λe w=>Q (some e) w))) (ok 13) [] [] Tryz.func118
def abk:=λa b c w Q=>bB (F5 a b c w Q) (lF a b w λd w=>cond (!d) (Q none w) (cond (decide (c<1)) (Q none w) (cond (decide (c>65536)) (Q none w) (F8 c w λe w=>F9 (IntKind.wrap .i64 (a*b)) w λf w=>Bx [ae a,ae b,ae c,.pointer e,.pointer f] 125 w λg w=>Q (some g) w)))) (ok 30) [] [] Tryz.func81
noncomputable def PW:cv:=[(4,sp 0 5 (.op 5 (.op 6 .done))),(6,sp 0 9 (.op 9 (sp 10 2 (.op 12 .done))))]
def On:=λa b c d w Q=>bB (xL a b c d w Q) (F4 b c d w λe f g i j l w=>Al T 25 w λm w=>St (m.add 0) (ae e) w λw=>St (m.add 1) (ae f) w λw=>St (m.add 2) (.slice g i j) w λw=>cond (l !=0) (Q (.iface 108 (ae 6)) w) (wA a λn=>bg (n.add 1) w.drew λo=>af .i64 (m.add 0) w.drew λp=>af .i64 (m.add 1) w.drew λq=>aA (m.add 2) w.drew λr s t=>BS o p q r s t w.drew λu w=>cond (u==0) (af .i64 m w.drew λv=>af .i64 (m.add 1) w.drew λx=>wA a λy=>af .i64 y w.drew λz=>F5 v x z w.drew λa1 w=>wA a λb1=>St (b1.add 2) (.pointer a1) w λw=>gh u w λc1 w=>dV c1 λd1=>Q d1 w) (gh u w λe1 w=>dV e1 λf1=>Q f1 w))) (ok 37) PW [] Tryz.func50
def Dh:=λa w Q=>bB (ql a w Q) (cond (!a.isNone) (wA a λb=>St (b.add 2) (.pointer none) w λw=>Q w) (Q w)) (ok 7) [] [] Tryz.func83
def Hf:=λa w Q=>bB (vw a w Q) (cond (!a.isNone) (wA a λb=>bg (b.add 3) w λc=>qk c w λw=>wA a λd=>bg (d.add 2) w λe=>ql e w λw=>Q w) (Q w)) (ok 14) [] [] Tryz.func51
def RY:=λa b w Q=>bB (tR a b w Q) (cond (!a.isNone) (cond (decide (b≥0)) (wA a λc=>aA c w λd e f=>Q (decide (b<(e:Int))) w) (Q false w)) (Q false w)) (ok 20) [] [] Tryz.func148
def PX:=λa b w Q=>bB (lT a b w Q) (tR a b w λc w=>cond (!c) (Q (-1) w) (wA a λd=>aA d w λe f g=>aJ b f<|wA e λi=>af .u32 (i.add (b.toNat*1)) w λj=>Q (IntKind.wrap .i64 ((IntKind.wrap .i64 j)-1)) w)) (ok 18) [] [] Tryz.func119
def PY:=λa b w Q=>bB (yL a b w Q) (cond a.isNone (Q (-1) w) (wA a λc=>bg (c.add 4) w λd=>lT d b w λe w=>Q e w)) (ok 13) [] [] Tryz.func84
def adz:=λa b c w Q=>bB (yK a b c w Q) (lF a b w λd w=>cond d (cond (decide (c≥0)) (Q (decide (c<(IntKind.wrap .i64 (a*b)))) w) (Q false w)) (Q false w)) (ok 21) [] [] Tryz.func68
noncomputable def Zu:cv:=[(3,sp 0 6 (.op 6 (.op 7 .done)))]
def XR:=λa b c w Q=>bB (sV a b c w Q) (yK a b c w λd w=>cond (!d) (Q (-1) (-1) w) (NZ a<|NZ a<|Q (Int.tmod c a) (IntKind.wrap .i64 (Int.tdiv c a)) w.drew)) (ok 19) Zu [] Tryz.func41
def Vy:=λa b c w Q=>bB (dY a b c w Q) (sV a b c w λd e w=>cond (decide (d<0)) (Q (-1) w) (k_ a b w λf g w=>NZ 16<|NZ 16<|Q (IntKind.wrap .i64 ((IntKind.wrap .i64 ((IntKind.wrap .i64 (Int.tdiv e 16))*f))+(IntKind.wrap .i64 (Int.tdiv d 16)))) w)) (ok 33) [] [] Tryz.func123
noncomputable def Un:cv:=[(9,sp 0 15 (sp 16 4 (.op 15 (.op 20 (.op 21 .done)))))]
def RZ:=λa b c w Q=>bB (zY a b c w Q) (cond a.isNone (Q 4 w) (cond (decide (b<0)) (Q 7 w) (wA a λd=>aA (d.add 2) w λe f g=>cond (decide (b≥(f:Int))) (Q 7 w) (cond (decide (c<1)) (Q 8 w) (cond (decide (c>255)) (Q 8 w) (wA a λi=>aA (i.add 2) w λj l m=>aJ b l<|wA j λn=>St (n.add (b.toNat*1)) (.int .u8 (IntKind.wrap .u8 c)) w λw=>wA a λo=>af .i64 (o.add 3) w λp=>wA a λq=>St (q.add 3) (ae (IntKind.wrap .i64 (p+1))) w λw=>wA a λr=>aA (r.add 4) w.drew λs t u=>wA a λv=>af .i64 v w.drew λx=>wA a λy=>af .i64 (y.add 1) w.drew λz=>wA a λa1=>af .i64 (a1.add 3) w.drew λb1=>dY x z b w.drew λc1 w=>w.cell? (a1.add 3)=some (ae b1)/\w.cell? (r.add 4)=some (.slice s t u)/\(aJ c1 t<|wA s λd1=>St (d1.add (c1.toNat*1)) (ae b1) w λw=>Q 0 w))))))) (ok 67) Un [] Tryz.func120
def Vz:=λa b c w Q=>bB (BT a b c w Q) (cond a.isNone (Q 4 w) (wA a λd=>bg d w λe=>zY e b c w λf w=>Q f w)) (ok 16) [] [] Tryz.func85
def uh (Q:Value->WP)(a:OA)(b c:Int)(w:World):Prop:=wA a λd=>bg (d.add 1) w λe=>BT e b c w λf w=>gh f w λg w=>dV g λi=>Q i w
def R0 (Q):Bk 36 Tryz.f52 (F3 Q) 5 [(0,.p),(1,.i .i64),(2,.i .i64)] (uh Q):=aU (ok 36) [] []
def Oo:=λa b c w Q=>bB (xM a b c w Q) (cond (decide (c<1)) (Q (.iface 108 (ae 8)) w) (cond (decide (c>255)) (Q (.iface 108 (ae 8)) w) (cond (c==255) (wA a λd=>bg (d.add 2) w λe=>yL e b w λf w=>cond (decide (f≥0)) (Q (.iface 108 (ae 10)) w) (uh Q a b c w)) (uh Q a b c w)))) (ok 36) [] [aM (R0 Q)] Tryz.func52
noncomputable def Uo:cv:=[(1,sp 0 9 (.op 9 (.op 10 (.op 11 .done))))]
def R_:=λa b w Q=>bB (o8 a b w Q) (wA a λc=>af .i64 c w.drew λd=>wA a λe=>af .i64 (e.add 1) w.drew λf=>dY d f b w.drew λg w=>Q (decide (g≥0)) w) (ok 16) Uo [] Tryz.func88
def PZ:=λa w Q=>bB (yO a w Q) (cond a.isNone (Q 0 w) (wA a λb=>cu (b.add 2) w λc=>aL P (Builtin.len_ #[169] 3 [.map c].toArray) w λd w=>dI .i64 d λe=>Q e w)) (ok 10) [] [] Tryz.func124
def nL (Q:Int->WP)(a b:Int)(w:World):Prop:=cond (a==b) (Q 13 w) (Q 0 w)
def xY (Q:Int->WP)(a:OA)(b c:Int)(w:World):Prop:=wA a λd=>bg (d.add 3) w.drew λe=>wA a λf=>af .i64 (f.add 2) w.drew λg=>yO e w.drew λi w=>w.cell? (f.add 2)=some (ae g)/\cond (decide (i≥g)) (Q 11 w) (nL Q b c w)
def ze (Q:Int->WP)(a:OA)(b c:Int)(w:World):Prop:=wA a λd=>bg (d.add 4) w λe=>lT e b w λf w=>cond (f !=(-1)) (Q 10 w) (xY Q a b c w)
noncomputable def rj:cv:=[(10,sp 0 4 (sp 5 4 (.op 4 (.op 9 .done))))]
def D2 (Q):Bk 48 Tryz.f89 (rV Q) 12 [(2,.i .i64),(3,.i .i64)] (nL Q):=aU (ok 48) rj []
def D3 (Q):Bk 48 Tryz.f89 (rV Q) 10 [(0,.p),(2,.i .i64),(3,.i .i64)] (xY Q):=aU (ok 48) rj [aM (D2 Q)]
def P0 (Q):Bk 48 Tryz.f89 (rV Q) 8 [(0,.p),(2,.i .i64),(3,.i .i64)] (ze Q):=aU (ok 48) rj [aM (D3 Q)]
def Di:=λa b c d w Q=>bB (mW a b c d w Q) (cond (b==0) (o8 a c w λe w=>cond (!e) (Q 7 w) (o8 a d w λf w=>cond (!f) (Q 7 w) (ze Q a c d w))) (cond (b==1) (ze Q a c d w) (cond (b==2) (xY Q a c d w) (cond (b==3) (nL Q c d w) (Q 0 w))))) (ok 48) rj [aM (P0 Q),aM (D3 Q),aM (D2 Q)] Tryz.func89
noncomputable def Sa:cv:=[(1,sp 0 7 (sp 8 4 (.op 7 (sp 12 2 .done))))]
def P9:=λa b c w Q=>bB (yN a b c w Q) (cond a.isNone (Q 0 false w.drew) (wA a λd=>cu (d.add 2) w.drew λe=>wA a λf=>af .i64 f w.drew λg=>aL P (Builtin.len_ #[169] 3 [.map e].toArray) w.drew λi w=>dI .i64 i λj=>w.cell? f=some (ae g)/\cond (decide (j≥g)) (Q 0 false w) (wA a λl=>af .i64 (l.add 1) w λm=>wA a λn=>af .i64 (n.add 1) w λo=>wA a λp=>St (p.add 1) (ae (IntKind.wrap .i64 (o+1))) w λw=>wA a λq=>cu (q.add 2) w λr=>bD P (Instr.mapUpdate 169 (.map r) (ae m) (.agg #[ae m,ae b,ae c])) w λw=>wA a λs=>aA (s.add 3) w λt u v=>Bx [ae m] 3 w λx w=>App P #[29,29] 29 (.slice t u v) (.slice (some x) 1 1) w λy z a1 w=>wA a λb1=>St (b1.add 3) (.slice y z a1) w λw=>Q m true w))) (ok 54) Sa [] Tryz.func121
def Oq:=λa b w Q=>bB (rf a b w Q) (tR a b w λc w=>cond c (wA a λd=>aA d w λe f g=>aJ b f<|wA e λi=>af .u32 (i.add (b.toNat*1)) w λj=>Q (j==0) w) (Q false w)) (ok 18) [] [] Tryz.func149
def P_:=λa b c w Q=>bB (rY a b c w Q) (rf a b w λd w=>cond (!d) (Q false w) (cond (decide (c<0)) (Q false w) (cond (decide (c≥4294967295)) (Q false w) (wA a λe=>aA e w λf g i=>aJ b g<|wA f λj=>St (j.add (b.toNat*1)) (.int .u32 (IntKind.wrap .u32 (IntKind.wrap .i64 (c+1)))) w λw=>wA a λl=>af .i64 (l.add 1) w λm=>wA a λn=>St (n.add 1) (ae (IntKind.wrap .i64 (m+1))) w λw=>Q true w)))) (ok 35) [] [] Tryz.func122
def MC:=λa b c w Q=>bB (wm a b c w Q) (cond a.isNone (Q (-1) 1 w) (mW a 0 b c w λd w=>cond (d !=0) (Q (-1) d w) (wA a λe=>bg (e.add 3) w λf=>yN f b c w λg i w=>wA a λj=>bg (j.add 4) w λl=>rY l b g w λm w=>Q g 0 w))) (ok 35) [] [] Tryz.func86
def MD:=λa b c w Q=>bB (we a b c w Q) (wA a λd=>bg (d.add 1) w λe=>rG e b w λf w=>cond (f==255) (Q (-1) (.iface 108 (ae 9)) w) (wA a λg=>bg (g.add 2) w λi=>wm i b c w λj l w=>gh l w λm w=>dV m λn=>Q j n w)) (ok 31) [] [] Tryz.func53
def Qa:=λa b w Q=>bB (iR a b w Q) (Al T 43 w λc w=>cond a.isNone (St (c.add 0) (ae 0) w λw=>St (c.add 1) (ae 0) w λw=>St (c.add 2) (ae 0) w λw=>af .i64 (c.add 0) w λd=>af .i64 (c.add 1) w λe=>af .i64 (c.add 2) w λf=>Q d e f false w) (wA a λg=>cu (g.add 2) w λi=>aL P (Instr.lookup 169 (.map i) (ae b) true) w λj w=>dT j λl=>dH l λm n=>dL m λo=>dH o λp q=>dI .i64 p λr=>dH q λs t=>dI .i64 s λu=>dH t λv x=>dI .i64 v λy=>kL x<|dH n λz a1=>dB z λb1=>kL a1<|Al T 43 w λc1 w=>St (c1.add 0) (ae r) w λw=>St (c1.add 1) (ae u) w λw=>St (c1.add 2) (ae y) w λw=>af .i64 (c1.add 0) w λd1=>af .i64 (c1.add 1) w λe1=>af .i64 (c1.add 2) w λf1=>St (c.add 0) (ae d1) w λw=>St (c.add 1) (ae e1) w λw=>St (c.add 2) (ae f1) w λw=>af .i64 (c.add 0) w λg1=>af .i64 (c.add 1) w λi1=>af .i64 (c.add 2) w λj1=>Q g1 i1 j1 b1 w)) (ok 22) [] [] Tryz.func87
def om (Q:L3 WP)(R3:OA->L3 (L3 (Int->Int->WP)))(a b:OA)(c d:Nat)(e:OA)(f g:Nat)(i j:Int)(w:World):Prop:=cond (decide (j<i)) (aJ j f<|wA e λl=>af .i64 (l.add (j.toNat*1)) w λm=>wA a λn=>cu (n.add 2) w λo=>aL P (Instr.lookup 169 (.map o) (ae m) true) w λp w=>dT p λq=>dH q λr s=>dL r λt=>dH t λu v=>dI .i64 u λx=>dH v λy z=>dI .i64 y λa1=>dH z λb1 c1=>dI .i64 b1 λd1=>kL c1<|dH s λe1 f1=>dB e1 λg1=>kL f1<|Al T 43 w λi1 w=>St (i1.add 0) (ae x) w λw=>St (i1.add 1) (ae a1) w λw=>St (i1.add 2) (ae d1) w λw=>cond g1 (Bx [ae m] 3 w λj1 w=>App P #[29,29] 29 (.slice b c d) (.slice (some j1) 1 1) w λl1 m1 n1 w=>R3 a l1 m1 n1 e f g i (IntKind.wrap .i64 (j+1)) w) (R3 a b c d e f g i (IntKind.wrap .i64 (j+1)) w)) (Q b c d w)
def lU (Q:L3 WP):Nat->OA->L3 (L3 (Int->Int->WP))
 |0,_,_,_,_,_,_,_,_,_,_=>False
 |k+1,a,b,c,d,e,f,g,i,j,w=>om Q (lU Q k) a b c d e f g i j w
def Qb (Q):∀k,Bk 33 Tryz.f102 (Fg Q) 3 [(0,.p),(3,.l),(11,.l),(12,.i .i64),(13,.i .i64)] (lU Q k):=bK λk h=>aU (ok 33) [] [aM h]
def ME:=λa w Q=>bB (qm a w Q) (wA a λb=>aA (b.add 3) w λc d e=>∃k',lU Q k' a none 0 0 c d e (d:Int) 0 w) (ok 33) [] [ct (Qb Q)] Tryz.func102
noncomputable def Qc:cv:=[(5,sp 0 9 (.op 9 (sp 10 2 .done)))]
def Ot:=λa b w Q=>bB (xQ a b w Q) (iR a b w λc d e f w=>Al T 43 w λg w=>St (g.add 0) (ae c) w λw=>St (g.add 1) (ae d) w λw=>St (g.add 2) (ae e) w λw=>cond (!f) (Q false w) (wA a λi=>cu (i.add 2) w λj=>aL P (Builtin.delete_ #[169,3] 0 [.map j,ae b].toArray) w λl w=>wA a λm=>aA (m.add 3) w.drew λn o p=>wA a λq=>cu (q.add 2) w.drew λr=>aL P (Builtin.len_ #[169] 3 [.map r].toArray) w.drew λs w=>dI .i64 s λt=>w.cell? (m.add 3)=some (.slice n o p)/\cond (decide ((o:Int)>(IntKind.wrap .i64 (2*t)))) (qm a w λu v x w=>wA a λy=>St (y.add 3) (.slice u v x) w λw=>Q true w) (Q true w))) (ok 37) Qc [] Tryz.func125
def Ou:=λa b w Q=>bB (q_ a b w Q) (lT a b w λc w=>cond (c !=(-1)) (wA a λd=>aA d w λe f g=>aJ b f<|wA e λi=>St (i.add (b.toNat*1)) (.int .u32 0) w λw=>wA a λj=>af .i64 (j.add 1) w λl=>wA a λm=>St (m.add 1) (ae (IntKind.wrap .i64 (l-1))) w λw=>Q c w) (Q c w)) (ok 25) [] [] Tryz.func126
noncomputable def Qd:cv:=[(1,sp 0 6 (.op 6 .done)),(2,sp 0 6 (.op 6 .done))]
def Ov:=λa b c d w Q=>bB (nG a b c d w Q) (Bx [ae b,ae c,ae d] 43 w λe w=>wA a λf=>bg (f.add 3) w.drew λg=>af .i64 e w.drew λi=>xQ g i w.drew λj w=>wA a λl=>bg (l.add 4) w.drew λm=>af .i64 (e.add 1) w.drew λn=>q_ m n w.drew λo w=>Q w) (ok 18) Qd [] Tryz.func90
noncomputable def Sb:cv:=[(4,sp 0 6 (.op 6 .done))]
def Qe:=λa b c w Q=>bB (rZ a b c w Q) (iR a b w λd e f g w=>Al T 43 w λi w=>St (i.add 0) (ae d) w λw=>St (i.add 1) (ae e) w λw=>St (i.add 2) (ae f) w λw=>cond g (h_ (cx 25) c [.pointer (some i)] w λj w=>dT j λl=>kL l<|wA a λm=>cu (m.add 2) w.drew λn=>af .i64 (i.add 0) w.drew λo=>af .i64 (i.add 1) w.drew λp=>af .i64 (i.add 2) w.drew λq=>bD P (Instr.mapUpdate 169 (.map n) (ae b) (.agg #[ae o,ae p,ae q])) w.drew λw=>Q g w) (Q g w)) (ok 25) Sb [] Tryz.func127
def MF:=λa b w Q=>bB (De a b w Q) (wA b λc=>af .i64 c w λd=>wA a λe=>St (e.add 2) (ae d) w λw=>Q w) (ok 7) [] [] Tryz.func128
def Qf:=λa b c w Q=>bB (yM a b c w Q) (Bx [ae c] 3 w λd w=>rZ a b (.func (.func 128) #[] #[.pointer (some d)]) w λe w=>Q e w) (ok 11) [] [] Tryz.func91
def JD:=λa b c w Q=>bB (sK a b c w Q) (cond a.isNone (Q 1 w) (wA a λd=>bg (d.add 3) w λe=>iR e b w λf g i j w=>Al T 43 w λl w=>St (l.add 0) (ae f) w λw=>St (l.add 1) (ae g) w λw=>St (l.add 2) (ae i) w λw=>cond (!j) (Q 12 w) (o8 a c w λm w=>cond (!m) (Q 7 w) (af .i64 (l.add 1) w λn=>mW a 3 n c w λo w=>cond (o !=0) (af .i64 (l.add 0) w λp=>af .i64 (l.add 1) w λq=>af .i64 (l.add 2) w λr=>nG a p q r w λw=>Q o w) (wA a λs=>bg (s.add 3) w λt=>yM t b c w λu w=>Q 0 w))))) (ok 47) [] [] Tryz.func55
def Kc:=λa b w Q=>bB (tN a b w Q) (cond a.isNone (Q 1 w) (wA a λc=>bg (c.add 3) w λd=>iR d b w λe f g i w=>Al T 43 w λj w=>St (j.add 0) (ae e) w λw=>St (j.add 1) (ae f) w λw=>St (j.add 2) (ae g) w λw=>cond (!i) (Q 12 w) (af .i64 (j.add 0) w λl=>af .i64 (j.add 1) w λm=>af .i64 (j.add 2) w λn=>nG a l m n w λw=>Q 0 w))) (ok 23) [] [] Tryz.func56
def VA:=λa w Q=>bB (wV a w Q) (cond a.isNone (Q 0 0 w) (wA a λb=>bg b w λc=>eM c w λd e w=>Q d e w)) (ok 13) [] [] Tryz.func131
def XS:=λa b c w Q=>bB (nf a b c w Q) (sV a b c w λd e w=>cond (decide (d<0)) (Q (-1) w) (dY a b c w λf w=>nW a b f w λg i w=>NZ 16<|NZ 16<|Q (IntKind.wrap .i64 ((IntKind.wrap .i64 ((Int.tmod e 16)*g))+(Int.tmod d 16))) w)) (ok 37) [] [] Tryz.func132
def rJ (Q:Int->Int->L3 (Bool->WP))(R7:OA->Int->Addr->Int->Int->Int->Addr->Int->Int->WP)(a:OA)(b:Int)(c:Addr)(d e f:Int)(g:Addr)(i j:Int)(w:World):Prop:=cond (decide (j<i)) (n8 d e b (IntKind.wrap .i64 (j*f)) w λl w=>aA (g.add 2) w.drew λm n o=>wA a λp=>aA (p.add 2) w.drew λq r s=>bU q r s 1 (some l) (some (IntKind.wrap .i64 (l+f))) λt u v=>App P #[22,22] 22 (.slice m n o) (.slice t u v) w.drew λx y z w=>St (g.add 2) (.slice x y z) w λw=>R7 a b c d e f g i (IntKind.wrap .i64 (j+1)) w) (af .i64 (g.add 0) w λa1=>af .i64 (g.add 1) w λb1=>aA (g.add 2) w λc1 d1 e1=>St (c.add 0) (ae a1) w λw=>St (c.add 1) (ae b1) w λw=>St (c.add 2) (.slice c1 d1 e1) w λw=>af .i64 (c.add 0) w λf1=>af .i64 (c.add 1) w λg1=>aA (c.add 2) w λi1 j1 l1=>Q f1 g1 i1 j1 l1 true w)
def oo (Q:Int->Int->L3 (Bool->WP)):Nat->OA->Int->Addr->Int->Int->Int->Addr->Int->Int->WP
 |0,_,_,_,_,_,_,_,_,_,_=>False
 |k+1,a,b,c,d,e,f,g,i,j,w=>rJ Q (oo Q k) a b c d e f g i j w
noncomputable def Hg:cv:=[(10,sp 0 12 (.op 12 (.op 13 (.op 14 .done))))]
def VB (Q):∀k,Bk 58 Tryz.f161 (IS Q) 7 [(0,.p),(1,.i .i64),(4,.a),(6,.i .i64),(7,.i .i64),(8,.i .i64),(10,.a),(31,.i .i64),(32,.i .i64)] (oo Q k):=bK λk h=>aU (ok 58) Hg [aM h]
def Sc:=λa b w Q=>bB (tS a b w Q) (Al T 84 w λc w=>eM a w λd e w=>nW d e b w λf g w=>cond (f==0) (St (c.add 0) (ae 0) w λw=>St (c.add 1) (ae 0) w λw=>St (c.add 2) (.slice none 0 0) w λw=>af .i64 (c.add 0) w λi=>af .i64 (c.add 1) w λj=>aA (c.add 2) w λl m n=>Q i j l m n false w) (Al T 84 w λo w=>St (o.add 0) (ae f) w λw=>St (o.add 1) (ae g) w λw=>St (o.add 2) (.slice none 0 0) w λw=>∃k',oo Q k' a b c d e f o g 0 w)) (ok 58) Hg [ct (VB Q)] Tryz.func161
def MG:=λa w Q=>bB (wu a w Q) (cond a.isNone (Q 0 w) (wA a λb=>af .i64 (b.add 1) w λc=>Q c w)) (ok 9) [] [] Tryz.func170
def VC:=λw Q=>bB (wZ w Q) (Al T 314 w λa w=>St (a.add 0) (ae 0) w λw=>St (a.add 1) (ae 1) w λw=>St (a.add 2) (ae 2) w λw=>St (a.add 3) (ae 3) w λw=>af .i64 (a.add 0) w λb=>af .i64 (a.add 1) w λc=>af .i64 (a.add 2) w λd=>af .i64 (a.add 3) w λe=>Q b c d e w) (ok 2) [] [] Tryz.func194
def nj (Q:Int->WP)(a b c d:Int)(w:World):Prop:=zX a b c d w λe w=>Q e w
def xg (Q:Int->WP)(a b c d e:Int)(w:World):Prop:=nj Q a b c (IntKind.wrap .i64 (d+e)) w
def xh (Q:Int->WP)(a b c d e:Int)(w:World):Prop:=nj Q a b (IntKind.wrap .i64 (c+e)) d w
def Gg (Q):Bk 43 Tryz.f21 (CF Q) 16 [(0,.i .i64),(1,.i .i64),(9,.i .i64),(10,.i .i64)] (nj Q):=aU (ok 43) [] []
def abl (Q):Bk 43 Tryz.f21 (CF Q) 12 [(0,.i .i64),(1,.i .i64),(9,.i .i64),(10,.i .i64),(11,.i .i64)] (xg Q):=aU (ok 43) [] [aM (Gg Q)]
def abm (Q):Bk 43 Tryz.f21 (CF Q) 14 [(0,.i .i64),(1,.i .i64),(9,.i .i64),(10,.i .i64),(11,.i .i64)] (xh Q):=aU (ok 43) [] [aM (Gg Q)]
def Zv:=λa b c d w Q=>bB (l6 a b c d w Q) (sV a b c w λe f w=>cond (decide (e<0)) (Q (-1) w) (cond (d==0) (xg Q a b e f (-1) w) (cond (d==2) (xg Q a b e f 1 w) (cond (d==3) (xh Q a b e f (-1) w) (cond (d==1) (xh Q a b e f 1 w) (cond (d==4) (nj Q a b e f w) (Q (-1) w))))))) (ok 43) [] [aM (abl Q),aM (abm Q),aM (Gg Q)] Tryz.func21
def XT:=λa b c d w Q=>bB (yo a b c d w Q) (l6 a b c d w λe w=>cond (decide (e<0)) (Q (-1) w) (dY a b e w λf w=>dY a b c w λg w=>cond (f==g) (Q (-1) w) (Q e w))) (ok 29) [] [] Tryz.func195
def s9 (Q:L3 WP)(Yu:L3 (Int->Int->Int->WP))(a:OA)(b c:Nat)(d e f:Int)(w:World):Prop:=cond (decide (f<e)) (Bx [ae (IntKind.wrap .i64 (d+f))] 3 w λg w=>App P #[29,29] 29 (.slice a b c) (.slice (some g) 1 1) w λi j l w=>Yu i j l d e (IntKind.wrap .i64 (f+1)) w) (Q a b c w)
def ng (Q:L3 WP):Nat->L3 (Int->Int->Int->WP)
 |0,_,_,_,_,_,_,_=>False
 |k+1,a,b,c,d,e,f,w=>s9 Q (ng Q k) a b c d e f w
def s_ (Q:L3 WP)(R16:Int->L3 (Int->Int->Int->WP))(a:Int)(b:OA)(c d:Nat)(e f g:Int)(w:World):Prop:=cond (decide (g<f)) (Bx [ae (IntKind.wrap .i64 (e+(IntKind.wrap .i64 (g*a))))] 3 w λi w=>App P #[29,29] 29 (.slice b c d) (.slice (some i) 1 1) w λj l m w=>R16 a j l m e f (IntKind.wrap .i64 (g+1)) w) (Q b c d w)
def nh (Q:L3 WP):Nat->Int->L3 (Int->Int->Int->WP)
 |0,_,_,_,_,_,_,_,_=>False
 |k+1,a,b,c,d,e,f,g,w=>s_ Q (nh Q k) a b c d e f g w
def XU (Q):∀k,Bk 51 Tryz.f222 (EP Q) 10 [(7,.l),(8,.i .i64),(24,.i .i64),(25,.i .i64)] (ng Q k):=bK λk h=>aU (ok 51) [] [aM h]
def XV (Q):∀k,Bk 51 Tryz.f222 (EP Q) 16 [(0,.i .i64),(7,.l),(8,.i .i64),(37,.i .i64),(38,.i .i64)] (nh Q k):=bK λk h=>aU (ok 51) [] [aM h]
def VD:=λa b c w Q=>bB (B2 a b c w Q) (cond (c==2) (∃k',ng Q k' none 0 0 (IntKind.wrap .i64 ((IntKind.wrap .i64 (b-1))*a)) a 0 w) (cond (c==0) (∃k',ng Q k' none 0 0 0 a 0 w) (cond (c==1) (∃k',nh Q k' a none 0 0 (IntKind.wrap .i64 (a-1)) b 0 w) (cond (c==3) (∃k',nh Q k' a none 0 0 0 b 0 w) (Q none 0 0 w))))) (ok 51) [] [ct (XU Q),ct (XV Q)] Tryz.func222
def uX (P4:Int->Int->Int->Int->Int->L3 (Int->Int->Int->Int->Int->WP))(Q:L3 WP)(R9:Int->Int->Int->Int->Int->L3 (Int->Int->Int->Int->Int->L3 (Int->Int->WP)))(a b c d e:Int)(f:OA)(g i:Nat)(j l m n o:Int)(p:OA)(q r:Nat)(s t:Int)(w:World):Prop:=cond (decide (t<s)) (aJ t q<|wA p λu=>af .i64 (u.add (t.toNat*1)) w λv=>aJ v g<|wA f λx=>St (x.add (v.toNat*1)) (.bool true) w λw=>R9 a b c d e f g i j l m n o p q r s (IntKind.wrap .i64 (t+1)) w) (P4 a b c d e f g i j l m n (IntKind.wrap .i64 (o+1)) w)
def qL (P4:Int->Int->Int->Int->Int->L3 (Int->Int->Int->Int->Int->WP))(Q:L3 WP):Nat->Int->Int->Int->Int->Int->L3 (Int->Int->Int->Int->Int->L3 (Int->Int->WP))
 |0,_,_,_,_,_,_,_,_,_,_,_,_,_,_,_,_,_,_,_=>False
 |k+1,a,b,c,d,e,f,g,i,j,l,m,n,o,p,q,r,s,t,w=>uX P4 Q (qL P4 Q k) a b c d e f g i j l m n o p q r s t w
def tf (Q:L3 WP)(R16:Int->Int->Int->L3 (L3 (Int->Int->WP)))(a b c:Int)(d:OA)(e f:Nat)(g:OA)(i j:Nat)(l m:Int)(w:World):Prop:=cond (decide (m<l)) (aJ m i<|wA g λn=>cD (n.add (m.toNat*1)) w λo=>cond o (n8 a b c m w λp w=>Bx [ae p] 3 w λq w=>App P #[29,29] 29 (.slice d e f) (.slice (some q) 1 1) w λr s t w=>R16 a b c r s t g i j l (IntKind.wrap .i64 (m+1)) w) (R16 a b c d e f g i j l (IntKind.wrap .i64 (m+1)) w)) (Q d e f w)
def pQ (Q:L3 WP):Nat->Int->Int->Int->L3 (L3 (Int->Int->WP))
 |0,_,_,_,_,_,_,_,_,_,_,_,_=>False
 |k+1,a,b,c,d,e,f,g,i,j,l,m,w=>tf Q (pQ Q k) a b c d e f g i j l m w
def uY (Q:L3 WP)(R4:Int->Int->Int->Int->Int->L3 (Int->Int->Int->Int->Int->WP))(a b c d e:Int)(f:OA)(g i:Nat)(j l m n o:Int)(w:World):Prop:=cond (decide (o<4)) (aJ o 4<|IxV [ae j,ae l,ae m,ae n] o.toNat λp=>dI .i64 p λq=>B2 d e q w λr s t w=>cond ((s:Int)==0) (R4 a b c d e f g i j l m n (IntKind.wrap .i64 (o+1)) w) (aJ 0 s<|wA r λu=>af .i64 (u.add (((0:Int).toNat)*1)) w λv=>n8 a b c v w λx w=>yo a b x q w λy w=>cond (decide (y<0)) (R4 a b c d e f g i j l m n (IntKind.wrap .i64 (o+1)) w) (∃k',qL R4 Q k' a b c d e f g i j l m n o r s t (s:Int) 0 w))) (∃k',pQ Q k' a b c none 0 0 f g i (g:Int) 0 w)
def qM (Q:L3 WP):Nat->Int->Int->Int->Int->Int->L3 (Int->Int->Int->Int->Int->WP)
 |0,_,_,_,_,_,_,_,_,_,_,_,_,_,_=>False
 |k+1,a,b,c,d,e,f,g,i,j,l,m,n,o,w=>uY Q (qM Q k) a b c d e f g i j l m n o w
def Zw {P4}(Q)(H4:Bk 83 Tryz.f192 (uU Q) 4 [(0,.i .i64),(1,.i .i64),(2,.i .i64),(7,.i .i64),(8,.i .i64),(9,.l),(29,.g [.i64,.i64,.i64,.i64]),(30,.i .i64)] P4):∀k,Bk 83 Tryz.f192 (uU Q) 9 [(0,.i .i64),(1,.i .i64),(2,.i .i64),(7,.i .i64),(8,.i .i64),(9,.l),(29,.g [.i64,.i64,.i64,.i64]),(30,.i .i64),(54,.l),(55,.i .i64),(56,.i .i64)] (qL P4 Q k):=bK λk h=>aU (ok 83) [] [aM H4,aM h]
def XW (Q):∀k,Bk 83 Tryz.f192 (uU Q) 16 [(0,.i .i64),(1,.i .i64),(2,.i .i64),(15,.l),(65,.l),(66,.i .i64),(67,.i .i64)] (pQ Q k):=bK λk h=>aU (ok 83) [] [aM h]
def Zx (Q):∀k,Bk 83 Tryz.f192 (uU Q) 4 [(0,.i .i64),(1,.i .i64),(2,.i .i64),(7,.i .i64),(8,.i .i64),(9,.l),(29,.g [.i64,.i64,.i64,.i64]),(30,.i .i64)] (qM Q k):=bK λk h=>aU (ok 83) [] [aM h,ct (Zw Q h),ct (XW Q)]
def VE:=λa b c w Q=>bB (BZ a b c w Q) (nW a b c w λd e w=>cA P 49 (ae (IntKind.wrap .i64 (d*e))) (ae (IntKind.wrap .i64 (d*e))) w λf g i w=>wZ w λj l m n w=>∃k',qM Q k' a b c d e f g i j l m n 0 w) (ok 83) [] [ct (Zx Q)] Tryz.func192
def XX:=λa b w Q=>bB (sW a b w Q) (e_ a b w λc w=>cond (decide (c>0)) (Q (decide (c<255)) w) (Q false w)) (ok 15) [] [] Tryz.func193
def uZ (Q:L3 WP)(R4:OA->L3 (L3 (Int->Int->WP)))(a b:OA)(c d:Nat)(e:OA)(f g:Nat)(i j:Int)(w:World):Prop:=cond (decide (j<i)) (aJ j f<|wA e λl=>af .i64 (l.add (j.toNat*1)) w λm=>sW a m w λn w=>cond n (Bx [ae m] 3 w λo w=>App P #[29,29] 29 (.slice b c d) (.slice (some o) 1 1) w λp q r w=>R4 a p q r e f g i (IntKind.wrap .i64 (j+1)) w) (R4 a b c d e f g i (IntKind.wrap .i64 (j+1)) w)) (Q b c d w)
def qN (Q:L3 WP):Nat->OA->L3 (L3 (Int->Int->WP))
 |0,_,_,_,_,_,_,_,_,_,_=>False
 |k+1,a,b,c,d,e,f,g,i,j,w=>uZ Q (qN Q k) a b c d e f g i j w
def Zy (Q):∀k,Bk 33 Tryz.f171 (K6 Q) 4 [(0,.p),(7,.l),(18,.l),(19,.i .i64),(20,.i .i64)] (qN Q k):=bK λk h=>aU (ok 33) [] [aM h]
def VF:=λa b w Q=>bB (n_ a b w Q) (eM a w λc d w=>BZ c d b w λe f g w=>∃k',qN Q k' a none 0 0 e f g (f:Int) 0 w) (ok 33) [] [ct (Zy Q)] Tryz.func171
def u6 (Q:L3 WP)(R6:OA->Int->Int->Int->L3 (Int->Int->Int->Int->Int->WP))(a:OA)(b c d:Int)(e:OA)(f g:Nat)(i j l m n:Int)(w:World):Prop:=cond (decide (n<4)) (aJ n 4<|IxV [ae i,ae j,ae l,ae m] n.toNat λo=>dI .i64 o λp=>yo c d b p w λq w=>cond (decide (q≥0)) (sW a q w λr w=>cond r (e_ a q w λs w=>Bx [ae q,ae s] 292 w λt w=>App P #[289,289] 289 (.slice e f g) (.slice (some t) 1 1) w λu v x w=>R6 a b c d u v x i j l m (IntKind.wrap .i64 (n+1)) w) (R6 a b c d e f g i j l m (IntKind.wrap .i64 (n+1)) w)) (R6 a b c d e f g i j l m (IntKind.wrap .i64 (n+1)) w)) (Q e f g w)
def nX (Q:L3 WP):Nat->OA->Int->Int->Int->L3 (Int->Int->Int->Int->Int->WP)
 |0,_,_,_,_,_,_,_,_,_,_,_,_,_=>False
 |k+1,a,b,c,d,e,f,g,i,j,l,m,n,w=>u6 Q (nX Q k) a b c d e f g i j l m n w
def Zz (Q):∀k,Bk 46 Tryz.f172 (K7 Q) 6 [(0,.p),(1,.i .i64),(5,.i .i64),(6,.i .i64),(7,.l),(20,.g [.i64,.i64,.i64,.i64]),(21,.i .i64)] (nX Q k):=bK λk h=>aU (ok 46) [] [aM h]
def VG:=λa b w Q=>bB (BY a b w Q) (eM a w λc d w=>sW a b w λe w=>cond (!e) (Q none 0 0 w) (wZ w λf g i j w=>∃k',nX Q k' a b c d none 0 0 f g i j 0 w)) (ok 46) [] [ct (Zz Q)] Tryz.func172
def Sd:=λa b w Q=>bB (z6 a b w Q) (cond a.isNone (Q 1099511627776 w) (cond (decide (b<0)) (Q 1099511627776 w) (wA a λc=>aA (c.add 2) w λd e f=>cond (decide (b≥(e:Int))) (Q 1099511627776 w) (wA a λg=>aA (g.add 2) w λi j l=>aJ b j<|wA i λm=>af .i32 (m.add (b.toNat*1)) w λn=>cond (n==2147483647) (Q 1099511627776 w) (wA a λo=>aA (o.add 2) w λp q r=>aJ b q<|wA p λs=>af .i32 (s.add (b.toNat*1)) w λt=>Q (IntKind.wrap .i64 t) w))))) (ok 38) [] [] Tryz.func173
def iC (Q:Int->WP)(R4:Int->Int->Int->Int->Int->WP)(a b c d e:Int)(w:World):Prop:=cond (decide (e<=4)) (l6 a b c e w λf w=>cond (f==d) (Q e w) (R4 a b c d (IntKind.wrap .i64 (e+1)) w)) (Q 5 w)
def mP (Q:Int->WP):Nat->Int->Int->Int->Int->Int->WP
 |0,_,_,_,_,_,_=>False
 |k+1,a,b,c,d,e,w=>iC Q (mP Q k) a b c d e w
def adA (Q):∀k,Bk 34 Tryz.f174 (PF Q) 4 [(0,.i .i64),(1,.i .i64),(2,.i .i64),(3,.i .i64),(9,.i .i64)] (mP Q k):=bK λk h=>aU (ok 34) [] [aM h]
def ZA:=λa b c d w Q=>bB (EL a b c d w Q) (yK a b c w λe w=>cond (!e) (Q 5 w) (yK a b d w λf w=>cond (!f) (Q 5 w) (∃k',mP Q k' a b c d 0 w))) (ok 34) [] [ct (adA Q)] Tryz.func174
def Ox:=λa w Q=>bB (xW a w Q) (cond a.isNone (Q (-1) w) (wA a λb=>af .i64 b w λc=>Q c w)) (ok 9) [] [] Tryz.func175
def B7:=λa b c w Q=>bB (ji a b c w Q) (cond a.isNone (Q none 0 0 w) (Bx [] 294 w λd w=>App P #[278,278] 278 (.slice (some d) 0 0) (.slice a b c) w λe f g w=>Q e f g w)) (ok 8) [] [] Tryz.func185
def fL (P1:L3 (Int->Int->Value->Int->WP))(Q:WP)(R4:L3 (Int->Int->Value->Int->Int->WP))(a:OA)(b c:Nat)(d e:Int)(f:Value)(g i:Int)(w:World):Prop:=cond (decide (i>d)) (aJ i b<|wA a λj=>af .i64 ((j.add (i.toNat*3)).add 0) w.drew λl=>af .i64 ((j.add (i.toNat*3)).add 1) w.drew λm=>af .i64 ((j.add (i.toNat*3)).add 2) w.drew λn=>aJ (IntKind.wrap .i64 (i-1)) b<|wA a λo=>af .i64 ((o.add (((IntKind.wrap .i64 (i-1))).toNat*3)).add 0) w.drew λp=>af .i64 ((o.add (((IntKind.wrap .i64 (i-1))).toNat*3)).add 1) w.drew λq=>af .i64 ((o.add (((IntKind.wrap .i64 (i-1))).toNat*3)).add 2) w.drew λr=>h_ (cx 53) f [.agg #[ae l,ae m,ae n],.agg #[ae p,ae q,ae r]] w.drew λs w=>dI .i64 s λt=>cond (decide (t<0)) (aJ (IntKind.wrap .i64 (i-1)) b<|wA a λu=>af .i64 ((u.add (((IntKind.wrap .i64 (i-1))).toNat*3)).add 0) w.drew λv=>af .i64 ((u.add (((IntKind.wrap .i64 (i-1))).toNat*3)).add 1) w.drew λx=>af .i64 ((u.add (((IntKind.wrap .i64 (i-1))).toNat*3)).add 2) w.drew λy=>aJ i b<|wA a λz=>af .i64 ((z.add (i.toNat*3)).add 0) w.drew λa1=>af .i64 ((z.add (i.toNat*3)).add 1) w.drew λb1=>af .i64 ((z.add (i.toNat*3)).add 2) w.drew λc1=>aJ i b<|wA a λd1=>St ((d1.add (i.toNat*3)).add 0) (ae v) w.drew λw=>St ((d1.add (i.toNat*3)).add 1) (ae x) w λw=>St ((d1.add (i.toNat*3)).add 2) (ae y) w λw=>aJ (IntKind.wrap .i64 (i-1)) b<|wA a λe1=>St ((e1.add (((IntKind.wrap .i64 (i-1))).toNat*3)).add 0) (ae a1) w λw=>St ((e1.add (((IntKind.wrap .i64 (i-1))).toNat*3)).add 1) (ae b1) w λw=>St ((e1.add (((IntKind.wrap .i64 (i-1))).toNat*3)).add 2) (ae c1) w λw=>R4 a b c d e f g (IntKind.wrap .i64 (i-1)) w) (P1 a b c d e f (IntKind.wrap .i64 (g+1)) w)) (P1 a b c d e f (IntKind.wrap .i64 (g+1)) w.drew)
def eN (P1:L3 (Int->Int->Value->Int->WP))(Q:WP):Nat->L3 (Int->Int->Value->Int->Int->WP)
 |0,_,_,_,_,_,_,_,_,_=>False
 |k+1,a,b,c,d,e,f,g,i,w=>fL P1 Q (eN P1 Q k) a b c d e f g i w
def fN (Q:WP)(R1:L3 (Int->Int->Value->Int->WP))(a:OA)(b c:Nat)(d e:Int)(f:Value)(g:Int)(w:World):Prop:=cond (decide (g<e)) (∃k',eN R1 Q k' a b c d e f g g w) (Q w)
def eO (Q:WP):Nat->L3 (Int->Int->Value->Int->WP)
 |0,_,_,_,_,_,_,_,_=>False
 |k+1,a,b,c,d,e,f,g,w=>fN Q (eO Q k) a b c d e f g w
noncomputable def j6:cv:=[(4,sp 0 14 (.op 14 (sp 15 2 .done))),(6,sp 0 15 (.op 15 (.op 16 (.op 17 .done))))]
def Ae {P1}(Q)(H1:Bk 53 Tryz.f243 (ik Q) 1 [(0,.l),(1,.i .i64),(2,.i .i64),(3,.v),(8,.i .i64)] P1):∀k,Bk 53 Tryz.f243 (ik Q) 4 [(0,.l),(1,.i .i64),(2,.i .i64),(3,.v),(8,.i .i64),(9,.i .i64)] (eN P1 Q k):=bK λk h=>aU (ok 53) j6 [aM H1,aM h]
def Af (Q):∀k,Bk 53 Tryz.f243 (ik Q) 1 [(0,.l),(1,.i .i64),(2,.i .i64),(3,.v),(8,.i .i64)] (eO Q k):=bK λk h=>aU (ok 53) j6 [ct (Ae Q h)]
def zf:=λa b c d e f w Q=>bB (jK a b c d e f w Q) (∃k',eO Q k' a b c d e f (IntKind.wrap .i64 (d+1)) w) (ok 53) j6 [ct (Af Q)] Tryz.func243
def fF (P1:L3 (Int->Int->Value->Int->WP))(Q:WP)(a:OA)(b c:Nat)(d e:Int)(f:Value)(g i:Int)(w:World):Prop:=aJ (IntKind.wrap .i64 (e+g)) b<|wA a λj=>af .i64 ((j.add (((IntKind.wrap .i64 (e+g))).toNat*3)).add 0) w.drew λl=>af .i64 ((j.add (((IntKind.wrap .i64 (e+g))).toNat*3)).add 1) w.drew λm=>af .i64 ((j.add (((IntKind.wrap .i64 (e+g))).toNat*3)).add 2) w.drew λn=>aJ (IntKind.wrap .i64 (e+i)) b<|wA a λo=>af .i64 ((o.add (((IntKind.wrap .i64 (e+i))).toNat*3)).add 0) w.drew λp=>af .i64 ((o.add (((IntKind.wrap .i64 (e+i))).toNat*3)).add 1) w.drew λq=>af .i64 ((o.add (((IntKind.wrap .i64 (e+i))).toNat*3)).add 2) w.drew λr=>h_ (cx 82) f [.agg #[ae l,ae m,ae n],.agg #[ae p,ae q,ae r]] w.drew λs w=>dI .i64 s λt=>cond (!(decide (t<0))) (Q w) (aJ (IntKind.wrap .i64 (e+i)) b<|wA a λu=>af .i64 ((u.add (((IntKind.wrap .i64 (e+i))).toNat*3)).add 0) w.drew λv=>af .i64 ((u.add (((IntKind.wrap .i64 (e+i))).toNat*3)).add 1) w.drew λx=>af .i64 ((u.add (((IntKind.wrap .i64 (e+i))).toNat*3)).add 2) w.drew λy=>aJ (IntKind.wrap .i64 (e+g)) b<|wA a λz=>af .i64 ((z.add (((IntKind.wrap .i64 (e+g))).toNat*3)).add 0) w.drew λa1=>af .i64 ((z.add (((IntKind.wrap .i64 (e+g))).toNat*3)).add 1) w.drew λb1=>af .i64 ((z.add (((IntKind.wrap .i64 (e+g))).toNat*3)).add 2) w.drew λc1=>aJ (IntKind.wrap .i64 (e+g)) b<|wA a λd1=>St ((d1.add (((IntKind.wrap .i64 (e+g))).toNat*3)).add 0) (ae v) w.drew λw=>St ((d1.add (((IntKind.wrap .i64 (e+g))).toNat*3)).add 1) (ae x) w λw=>St ((d1.add (((IntKind.wrap .i64 (e+g))).toNat*3)).add 2) (ae y) w λw=>aJ (IntKind.wrap .i64 (e+i)) b<|wA a λe1=>St ((e1.add (((IntKind.wrap .i64 (e+i))).toNat*3)).add 0) (ae a1) w λw=>St ((e1.add (((IntKind.wrap .i64 (e+i))).toNat*3)).add 1) (ae b1) w λw=>St ((e1.add (((IntKind.wrap .i64 (e+i))).toNat*3)).add 2) (ae c1) w λw=>P1 a b c d e f i w)
def gO (Q:WP)(R1:L3 (Int->Int->Value->Int->WP))(a:OA)(b c:Nat)(d e:Int)(f:Value)(g:Int)(w:World):Prop:=cond (decide ((IntKind.wrap .i64 ((IntKind.wrap .i64 (2*g))+1))≥d)) (Q w) (cond (decide ((IntKind.wrap .i64 ((IntKind.wrap .i64 ((IntKind.wrap .i64 (2*g))+1))+1))<d)) (aJ (IntKind.wrap .i64 (e+(IntKind.wrap .i64 ((IntKind.wrap .i64 (2*g))+1)))) b<|wA a λi=>af .i64 ((i.add (((IntKind.wrap .i64 (e+(IntKind.wrap .i64 ((IntKind.wrap .i64 (2*g))+1))))).toNat*3)).add 0) w.drew λj=>af .i64 ((i.add (((IntKind.wrap .i64 (e+(IntKind.wrap .i64 ((IntKind.wrap .i64 (2*g))+1))))).toNat*3)).add 1) w.drew λl=>af .i64 ((i.add (((IntKind.wrap .i64 (e+(IntKind.wrap .i64 ((IntKind.wrap .i64 (2*g))+1))))).toNat*3)).add 2) w.drew λm=>aJ (IntKind.wrap .i64 ((IntKind.wrap .i64 (e+(IntKind.wrap .i64 ((IntKind.wrap .i64 (2*g))+1))))+1)) b<|wA a λn=>af .i64 ((n.add (((IntKind.wrap .i64 ((IntKind.wrap .i64 (e+(IntKind.wrap .i64 ((IntKind.wrap .i64 (2*g))+1))))+1))).toNat*3)).add 0) w.drew λo=>af .i64 ((n.add (((IntKind.wrap .i64 ((IntKind.wrap .i64 (e+(IntKind.wrap .i64 ((IntKind.wrap .i64 (2*g))+1))))+1))).toNat*3)).add 1) w.drew λp=>af .i64 ((n.add (((IntKind.wrap .i64 ((IntKind.wrap .i64 (e+(IntKind.wrap .i64 ((IntKind.wrap .i64 (2*g))+1))))+1))).toNat*3)).add 2) w.drew λq=>h_ (cx 82) f [.agg #[ae j,ae l,ae m],.agg #[ae o,ae p,ae q]] w.drew λr w=>dI .i64 r λs=>cond (decide (s<0)) (fF R1 Q a b c d e f g (IntKind.wrap .i64 ((IntKind.wrap .i64 ((IntKind.wrap .i64 (2*g))+1))+1)) w) (fF R1 Q a b c d e f g (IntKind.wrap .i64 ((IntKind.wrap .i64 (2*g))+1)) w)) (fF R1 Q a b c d e f g (IntKind.wrap .i64 ((IntKind.wrap .i64 (2*g))+1)) w.drew))
def eS (Q:WP):Nat->L3 (Int->Int->Value->Int->WP)
 |0,_,_,_,_,_,_,_,_=>False
 |k+1,a,b,c,d,e,f,g,w=>gO Q (eS Q k) a b c d e f g w
noncomputable def l7:cv:=[(3,sp 0 19 (.op 19 (sp 20 2 .done))),(5,sp 0 13 (.op 13 (sp 14 2 .done))),(6,sp 0 21 (.op 21 (.op 22 (.op 23 .done))))]
def CP {P1}(Q)(H1:Bk 82 Tryz.f265 (jw Q) 1 [(0,.l),(2,.i .i64),(3,.i .i64),(4,.v),(10,.i .i64)] P1):Bk 82 Tryz.f265 (jw Q) 5 [(0,.l),(2,.i .i64),(3,.i .i64),(4,.v),(10,.i .i64),(11,.i .i64)] (fF P1 Q):=aU (ok 82) l7 [aM H1]
def CQ (Q):∀k,Bk 82 Tryz.f265 (jw Q) 1 [(0,.l),(2,.i .i64),(3,.i .i64),(4,.v),(10,.i .i64)] (eS Q k):=bK λk h=>aU (ok 82) l7 [aM (CP Q h)]
def BB:=λa b c d e f g w Q=>bB (iZ a b c d e f g w Q) (∃k',eS Q k' a b c e f g d w) (ok 82) l7 [ct (CQ Q)] Tryz.func265
def gP (Q:WP)(R8:L3 (Value->Int->Int->Int->WP))(a:OA)(b c:Nat)(d:Value)(e f g:Int)(w:World):Prop:=cond (decide (g≥0)) (aJ (IntKind.wrap .i64 (e+g)) b<|wA a λi=>af .i64 ((i.add (((IntKind.wrap .i64 (e+g))).toNat*3)).add 0) w.drew λj=>af .i64 ((i.add (((IntKind.wrap .i64 (e+g))).toNat*3)).add 1) w.drew λl=>af .i64 ((i.add (((IntKind.wrap .i64 (e+g))).toNat*3)).add 2) w.drew λm=>aJ e b<|wA a λn=>af .i64 ((n.add (e.toNat*3)).add 0) w.drew λo=>af .i64 ((n.add (e.toNat*3)).add 1) w.drew λp=>af .i64 ((n.add (e.toNat*3)).add 2) w.drew λq=>aJ e b<|wA a λr=>St ((r.add (e.toNat*3)).add 0) (ae j) w.drew λw=>St ((r.add (e.toNat*3)).add 1) (ae l) w λw=>St ((r.add (e.toNat*3)).add 2) (ae m) w λw=>aJ (IntKind.wrap .i64 (e+g)) b<|wA a λs=>St ((s.add (((IntKind.wrap .i64 (e+g))).toNat*3)).add 0) (ae o) w λw=>St ((s.add (((IntKind.wrap .i64 (e+g))).toNat*3)).add 1) (ae p) w λw=>St ((s.add (((IntKind.wrap .i64 (e+g))).toNat*3)).add 2) (ae q) w λw=>iZ a b c f g e d w λw=>R8 a b c d e f (IntKind.wrap .i64 (g-1)) w) (Q w)
def fG (Q:WP):Nat->L3 (Value->Int->Int->Int->WP)
 |0,_,_,_,_,_,_,_,_=>False
 |k+1,a,b,c,d,e,f,g,w=>gP Q (fG Q k) a b c d e f g w
def gQ (Q:WP)(R4:L3 (Value->Int->Int->Int->Int->WP))(a:OA)(b c:Nat)(d:Value)(e f g i:Int)(w:World):Prop:=cond (decide (i≥0)) (iZ a b c i g e d w λw=>R4 a b c d e f g (IntKind.wrap .i64 (i-1)) w) (∃k',fG Q k' a b c d e f (IntKind.wrap .i64 (g-1)) w)
def fH (Q:WP):Nat->L3 (Value->Int->Int->Int->Int->WP)
 |0,_,_,_,_,_,_,_,_,_=>False
 |k+1,a,b,c,d,e,f,g,i,w=>gQ Q (fH Q k) a b c d e f g i w
noncomputable def l8:cv:=[(10,sp 0 17 (.op 17 (.op 18 (.op 19 .done))))]
def CR (Q):∀k,Bk 60 Tryz.f244 (mM Q) 8 [(0,.l),(3,.v),(8,.i .i64),(9,.i .i64),(12,.i .i64)] (fG Q k):=bK λk h=>aU (ok 60) l8 [aM h]
def CS (Q):∀k,Bk 60 Tryz.f244 (mM Q) 4 [(0,.l),(3,.v),(8,.i .i64),(9,.i .i64),(10,.i .i64),(11,.i .i64)] (fH Q k):=bK λk h=>aU (ok 60) l8 [aM h,ct (CR Q)]
def BC:=λa b c d e f w Q=>bB (lN a b c d e f w Q) (NZ 2<|∃k',fH Q k' a b c f d 0 (IntKind.wrap .i64 (e-d)) (IntKind.wrap .i64 (Int.tdiv (IntKind.wrap .i64 ((IntKind.wrap .i64 (e-d))-1)) 2)) w) (ok 60) l8 [ct (CS Q)] Tryz.func244
def uj (Q:Int->WP)(a b:Int)(w:World):Prop:=aJ (IntKind.wrap .u8 a) (ByteArray.mk ((#[0,1,2,2,3,3,3,3,4,4,4,4,4,4,4,4,5,5,5,5,5,5,5,5,5,5,5,5,5,5,5,5,6,6,6,6,6,6,6,6,6,6,6,6,6,6,6,6,6,6,6,6,6,6,6,6,6,6,6,6,6,6,6,6]++#[7,7,7,7,7,7,7,7,7,7,7,7,7,7,7,7,7,7,7,7,7,7,7,7,7,7,7,7,7,7,7,7,7,7,7,7,7,7,7,7,7,7,7,7,7,7,7,7,7,7,7,7,7,7,7,7,7,7,7,7,7,7,7,7])++(#[8,8,8,8,8,8,8,8,8,8,8,8,8,8,8,8,8,8,8,8,8,8,8,8,8,8,8,8,8,8,8,8,8,8,8,8,8,8,8,8,8,8,8,8,8,8,8,8,8,8,8,8,8,8,8,8,8,8,8,8,8,8,8,8]++#[8,8,8,8,8,8,8,8,8,8,8,8,8,8,8,8,8,8,8,8,8,8,8,8,8,8,8,8,8,8,8,8,8,8,8,8,8,8,8,8,8,8,8,8,8,8,8,8,8,8,8,8,8,8,8,8,8,8,8,8,8,8,8,8]))).size<|Q (IntKind.wrap .i64 (b+(IntKind.wrap .i64 (sb (ByteArray.mk ((#[0,1,2,2,3,3,3,3,4,4,4,4,4,4,4,4,5,5,5,5,5,5,5,5,5,5,5,5,5,5,5,5,6,6,6,6,6,6,6,6,6,6,6,6,6,6,6,6,6,6,6,6,6,6,6,6,6,6,6,6,6,6,6,6]++#[7,7,7,7,7,7,7,7,7,7,7,7,7,7,7,7,7,7,7,7,7,7,7,7,7,7,7,7,7,7,7,7,7,7,7,7,7,7,7,7,7,7,7,7,7,7,7,7,7,7,7,7,7,7,7,7,7,7,7,7,7,7,7,7])++(#[8,8,8,8,8,8,8,8,8,8,8,8,8,8,8,8,8,8,8,8,8,8,8,8,8,8,8,8,8,8,8,8,8,8,8,8,8,8,8,8,8,8,8,8,8,8,8,8,8,8,8,8,8,8,8,8,8,8,8,8,8,8,8,8]++#[8,8,8,8,8,8,8,8,8,8,8,8,8,8,8,8,8,8,8,8,8,8,8,8,8,8,8,8,8,8,8,8,8,8,8,8,8,8,8,8,8,8,8,8,8,8,8,8,8,8,8,8,8,8,8,8,8,8,8,8,8,8,8,8]))) (((IntKind.wrap .u8 a)).toNat))))) w
def vH (Q:Int->WP)(a b:Int)(w:World):Prop:=cond (decide (a≥256)) (DR 8<|uj Q (oW .u64 a 8) (IntKind.wrap .i64 (b+8)) w) (uj Q a b w)
def vJ (Q:Int->WP)(a b:Int)(w:World):Prop:=cond (decide (a≥65536)) (DR 16<|vH Q (oW .u64 a 16) (IntKind.wrap .i64 (b+16)) w) (vH Q a b w)
def Se (Q):Bk 25 Tryz.f252 (vD Q) 10 [(0,.i .u64),(2,.i .i64)] (uj Q):=aU (ok 25) [] []
def Up (Q):Bk 25 Tryz.f252 (vD Q) 7 [(0,.i .u64),(2,.i .i64)] (vH Q):=aU (ok 25) [] [aM (Se Q)]
def Uq (Q):Bk 25 Tryz.f252 (vD Q) 4 [(0,.i .u64),(2,.i .i64)] (vJ Q):=aU (ok 25) [] [aM (Up Q)]
def Qg:=λa w Q=>bB (Fk a w Q) (cond (decide (a≥4294967296)) (DR 32<|vJ Q (oW .u64 a 32) 32 w) (vJ Q a 0 w)) (ok 25) [] [aM (Uq Q)] Tryz.func252
def Ur:=λa w Q=>bB (vC a w Q) (Fk a w λb w=>Q b w) (ok 8) [] [] Tryz.func224
def IY:=λa w Q=>bB (zN a w Q) (vC (IntKind.wrap .u64 a) w λb w=>DR b<|Q (BH .u64 1 b) w) (ok 7) [] [] Tryz.func266
noncomputable def Kf:cv:=[(1,sp 0 9 (.op 9 .done)),(2,sp 0 9 (.op 9 .done)),(3,sp 0 9 (.op 9 .done))]
def JE:=λa w Q=>bB (sO a w Q) (wA a λb=>af .u64 b w.drew λc=>wA a λd=>af .u64 d w.drew λe=>DR 13<|wA a λf=>St f (.int .u64 (ag3 .u64 c (BH .u64 e 13))) w.drew λw=>wA a λg=>af .u64 g w.drew λi=>wA a λj=>af .u64 j w.drew λl=>DR 7<|wA a λm=>St m (.int .u64 (ag3 .u64 i (oW .u64 l 7))) w.drew λw=>wA a λn=>af .u64 n w.drew λo=>wA a λp=>af .u64 p w.drew λq=>DR 17<|wA a λr=>St r (.int .u64 (ag3 .u64 o (BH .u64 q 17))) w.drew λw=>wA a λs=>af .u64 s w λt=>Q t w) (ok 33) Kf [] Tryz.func267
def fB (P5:L3 (Int->Int->Addr->Int->Int->WP))(Q:WP)(a:OA)(b c:Nat)(d e:Int)(f:Addr)(g i j:Int)(w:World):Prop:=aJ (IntKind.wrap .i64 (d+j)) b<|wA a λl=>af .i64 ((l.add (((IntKind.wrap .i64 (d+j))).toNat*3)).add 0) w.drew λm=>af .i64 ((l.add (((IntKind.wrap .i64 (d+j))).toNat*3)).add 1) w.drew λn=>af .i64 ((l.add (((IntKind.wrap .i64 (d+j))).toNat*3)).add 2) w.drew λo=>aJ i b<|wA a λp=>af .i64 ((p.add (i.toNat*3)).add 0) w.drew λq=>af .i64 ((p.add (i.toNat*3)).add 1) w.drew λr=>af .i64 ((p.add (i.toNat*3)).add 2) w.drew λs=>aJ i b<|wA a λt=>St ((t.add (i.toNat*3)).add 0) (ae m) w.drew λw=>St ((t.add (i.toNat*3)).add 1) (ae n) w λw=>St ((t.add (i.toNat*3)).add 2) (ae o) w λw=>aJ (IntKind.wrap .i64 (d+j)) b<|wA a λu=>St ((u.add (((IntKind.wrap .i64 (d+j))).toNat*3)).add 0) (ae q) w λw=>St ((u.add (((IntKind.wrap .i64 (d+j))).toNat*3)).add 1) (ae r) w λw=>St ((u.add (((IntKind.wrap .i64 (d+j))).toNat*3)).add 2) (ae s) w λw=>P5 a b c d e f g (IntKind.wrap .i64 (i+1)) w
def kG (Q:WP)(R5:L3 (Int->Int->Addr->Int->Int->WP))(a:OA)(b c:Nat)(d e:Int)(f:Addr)(g i:Int)(w:World):Prop:=NZ 4<|cond (decide (i<=(IntKind.wrap .i64 ((IntKind.wrap .i64 (d+(IntKind.wrap .i64 ((IntKind.wrap .i64 (Int.tdiv e 4))*2))))+1)))) (sO (some f) w λj w=>cond (decide ((IntKind.wrap .i64 (BG .u64 j (IntKind.wrap .u64 (g-1))))≥e)) (fB R5 Q a b c d e f g i (IntKind.wrap .i64 ((IntKind.wrap .i64 (BG .u64 j (IntKind.wrap .u64 (g-1))))-e)) w) (fB R5 Q a b c d e f g i (IntKind.wrap .i64 (BG .u64 j (IntKind.wrap .u64 (g-1)))) w)) (Q w)
def dJ (Q:WP):Nat->L3 (Int->Int->Addr->Int->Int->WP)
 |0,_,_,_,_,_,_,_,_,_=>False
 |k+1,a,b,c,d,e,f,g,i,w=>kG Q (dJ Q k) a b c d e f g i w
noncomputable def j7:cv:=[(10,sp 0 17 (.op 17 (.op 18 (.op 19 .done))))]
def zH {P5}(Q)(H5:Bk 67 Tryz.f245 (iq Q) 5 [(0,.l),(1,.i .i64),(8,.i .i64),(9,.a),(10,.i .u64),(11,.i .i64)] P5):Bk 67 Tryz.f245 (iq Q) 10 [(0,.l),(1,.i .i64),(8,.i .i64),(9,.a),(10,.i .u64),(11,.i .i64),(12,.i .i64)] (fB P5 Q):=aU (ok 67) j7 [aM H5]
def Ag (Q):∀k,Bk 67 Tryz.f245 (iq Q) 5 [(0,.l),(1,.i .i64),(8,.i .i64),(9,.a),(10,.i .u64),(11,.i .i64)] (dJ Q k):=bK λk h=>aU (ok 67) j7 [aM (zH Q h)]
def zg:=λa b c d e f w Q=>bB (jL a b c d e f w Q) (cond (decide ((IntKind.wrap .i64 (e-d))≥8)) (Al T 390 w λg w=>St g (.int .u64 (IntKind.wrap .u64 (IntKind.wrap .i64 (e-d)))) w λw=>zN (IntKind.wrap .i64 (e-d)) w λi w=>NZ 4<|∃k',dJ Q k' a b c d (IntKind.wrap .i64 (e-d)) g i (IntKind.wrap .i64 ((IntKind.wrap .i64 (d+(IntKind.wrap .i64 ((IntKind.wrap .i64 (Int.tdiv (IntKind.wrap .i64 (e-d)) 4))*2))))-1)) w) (Q w)) (ok 67) j7 [ct (Ag Q)] Tryz.func245
noncomputable def DD:cv:=[(1,sp 0 9 (.op 9 (.op 10 .done)))]
def CT:=λa b c d e f g w Q=>bB (gN a b c d e f g w Q) (aJ e b<|wA a λi=>af .i64 ((i.add (e.toNat*3)).add 0) w.drew λj=>af .i64 ((i.add (e.toNat*3)).add 1) w.drew λl=>af .i64 ((i.add (e.toNat*3)).add 2) w.drew λm=>aJ d b<|wA a λn=>af .i64 ((n.add (d.toNat*3)).add 0) w.drew λo=>af .i64 ((n.add (d.toNat*3)).add 1) w.drew λp=>af .i64 ((n.add (d.toNat*3)).add 2) w.drew λq=>h_ (cx 32) g [.agg #[ae j,ae l,ae m],.agg #[ae o,ae p,ae q]] w.drew λr w=>dI .i64 r λs=>cond (decide (s<0)) (wA f λt=>af .i64 t w λu=>wA f λv=>St v (ae (IntKind.wrap .i64 (u+1))) w λw=>Q e d w) (Q d e w)) (ok 32) DD [] Tryz.func278
def CU:=λa b c d e f g i w Q=>bB (jx a b c d e f g i w Q) (gN a b c d e g i w λj l w=>gN a b c l f g i w λm n w=>gN a b c j m g i w λo p w=>Q p w) (ok 41) [] [] Tryz.func269
def yg:=λa b c d e f w Q=>bB (fg a b c d e f w Q) (jx a b c (IntKind.wrap .i64 (d-1)) d (IntKind.wrap .i64 (d+1)) e f w λg w=>Q g w) (ok 18) [] [] Tryz.func268
def iD (Q:Int->Int->WP)(a:Addr)(b:Int)(w:World):Prop:=af .i64 a w λc=>cond (c==0) (Q b 1 w) (cond (c==12) (Q b 2 w) (Q b 0 w))
def iE (Q:Int->Int->WP)(a:OA)(b c:Nat)(d:Value)(e:Addr)(f g i:Int)(w:World):Prop:=jx a b c f g i (some e) d w λj w=>iD Q e j w
def pY (Q):Bk 63 Tryz.f246 (lj Q) 12 [(11,.a),(13,.i .i64)] (iD Q):=aU (ok 63) [] []
def AK (Q):Bk 63 Tryz.f246 (lj Q) 11 [(0,.l),(3,.v),(11,.a),(12,.i .i64),(13,.i .i64),(14,.i .i64)] (iE Q):=aU (ok 63) [] [aM (pY Q)]
def Ah:=λa b c d e f w Q=>bB (kF a b c d e f w Q) (Al T 3 w λg w=>NZ 4<|NZ 4<|NZ 4<|cond (decide ((IntKind.wrap .i64 (e-d))≥8)) (cond (decide ((IntKind.wrap .i64 (e-d))≥50)) (fg a b c (IntKind.wrap .i64 (d+(IntKind.wrap .i64 ((IntKind.wrap .i64 (Int.tdiv (IntKind.wrap .i64 (e-d)) 4))*1)))) (some g) f w λi w=>fg a b c (IntKind.wrap .i64 (d+(IntKind.wrap .i64 ((IntKind.wrap .i64 (Int.tdiv (IntKind.wrap .i64 (e-d)) 4))*2)))) (some g) f w λj w=>fg a b c (IntKind.wrap .i64 (d+(IntKind.wrap .i64 ((IntKind.wrap .i64 (Int.tdiv (IntKind.wrap .i64 (e-d)) 4))*3)))) (some g) f w λl w=>iE Q a b c f g i j l w) (iE Q a b c f g (IntKind.wrap .i64 (d+(IntKind.wrap .i64 ((IntKind.wrap .i64 (Int.tdiv (IntKind.wrap .i64 (e-d)) 4))*1)))) (IntKind.wrap .i64 (d+(IntKind.wrap .i64 ((IntKind.wrap .i64 (Int.tdiv (IntKind.wrap .i64 (e-d)) 4))*2)))) (IntKind.wrap .i64 (d+(IntKind.wrap .i64 ((IntKind.wrap .i64 (Int.tdiv (IntKind.wrap .i64 (e-d)) 4))*3)))) w)) (iD Q g (IntKind.wrap .i64 (d+(IntKind.wrap .i64 ((IntKind.wrap .i64 (Int.tdiv (IntKind.wrap .i64 (e-d)) 4))*2)))) w)) (ok 63) [] [aM (AK Q),aM (pY Q)] Tryz.func246
def fT (Q:WP)(R2:L3 (Int->Int->WP))(a:OA)(b c:Nat)(d e:Int)(w:World):Prop:=cond (decide (d<e)) (aJ e b<|wA a λf=>af .i64 ((f.add (e.toNat*3)).add 0) w.drew λg=>af .i64 ((f.add (e.toNat*3)).add 1) w.drew λi=>af .i64 ((f.add (e.toNat*3)).add 2) w.drew λj=>aJ d b<|wA a λl=>af .i64 ((l.add (d.toNat*3)).add 0) w.drew λm=>af .i64 ((l.add (d.toNat*3)).add 1) w.drew λn=>af .i64 ((l.add (d.toNat*3)).add 2) w.drew λo=>aJ d b<|wA a λp=>St ((p.add (d.toNat*3)).add 0) (ae g) w.drew λw=>St ((p.add (d.toNat*3)).add 1) (ae i) w λw=>St ((p.add (d.toNat*3)).add 2) (ae j) w λw=>aJ e b<|wA a λq=>St ((q.add (e.toNat*3)).add 0) (ae m) w λw=>St ((q.add (e.toNat*3)).add 1) (ae n) w λw=>St ((q.add (e.toNat*3)).add 2) (ae o) w λw=>R2 a b c (IntKind.wrap .i64 (d+1)) (IntKind.wrap .i64 (e-1)) w) (Q w)
def eV (Q:WP):Nat->L3 (Int->Int->WP)
 |0,_,_,_,_,_,_=>False
 |k+1,a,b,c,d,e,w=>fT Q (eV Q k) a b c d e w
noncomputable def pB:cv:=[(3,sp 0 13 (.op 13 (.op 14 (.op 15 .done))))]
def AL (Q):∀k,Bk 34 Tryz.f247 (pV Q) 2 [(0,.l),(8,.i .i64),(9,.i .i64)] (eV Q k):=bK λk h=>aU (ok 34) pB [aM h]
def zI:=λa b c d e f w Q=>bB (jZ a b c d e f w Q) (∃k',eV Q k' a b c d (IntKind.wrap .i64 (e-1)) w) (ok 34) pB [ct (AL Q)] Tryz.func247
def eB (P3:L3 (Int->Int->Value->Int->Int->WP))(Q:Bool->WP)(R20:L3 (Int->Int->Value->Int->Int->Int->WP))(a:OA)(b c:Nat)(d e:Int)(f:Value)(g i j:Int)(w:World):Prop:=cond (decide (j<e)) (aJ j b<|wA a λl=>af .i64 ((l.add (j.toNat*3)).add 0) w.drew λm=>af .i64 ((l.add (j.toNat*3)).add 1) w.drew λn=>af .i64 ((l.add (j.toNat*3)).add 2) w.drew λo=>aJ (IntKind.wrap .i64 (j-1)) b<|wA a λp=>af .i64 ((p.add (((IntKind.wrap .i64 (j-1))).toNat*3)).add 0) w.drew λq=>af .i64 ((p.add (((IntKind.wrap .i64 (j-1))).toNat*3)).add 1) w.drew λr=>af .i64 ((p.add (((IntKind.wrap .i64 (j-1))).toNat*3)).add 2) w.drew λs=>h_ (cx 141) f [.agg #[ae m,ae n,ae o],.agg #[ae q,ae r,ae s]] w.drew λt w=>dI .i64 t λu=>cond (!(decide (u<0))) (P3 a b c d e f g (IntKind.wrap .i64 (i+1)) w) (aJ (IntKind.wrap .i64 (j-1)) b<|wA a λv=>af .i64 ((v.add (((IntKind.wrap .i64 (j-1))).toNat*3)).add 0) w.drew λx=>af .i64 ((v.add (((IntKind.wrap .i64 (j-1))).toNat*3)).add 1) w.drew λy=>af .i64 ((v.add (((IntKind.wrap .i64 (j-1))).toNat*3)).add 2) w.drew λz=>aJ j b<|wA a λa1=>af .i64 ((a1.add (j.toNat*3)).add 0) w.drew λb1=>af .i64 ((a1.add (j.toNat*3)).add 1) w.drew λc1=>af .i64 ((a1.add (j.toNat*3)).add 2) w.drew λd1=>aJ j b<|wA a λe1=>St ((e1.add (j.toNat*3)).add 0) (ae x) w.drew λw=>St ((e1.add (j.toNat*3)).add 1) (ae y) w λw=>St ((e1.add (j.toNat*3)).add 2) (ae z) w λw=>aJ (IntKind.wrap .i64 (j-1)) b<|wA a λf1=>St ((f1.add (((IntKind.wrap .i64 (j-1))).toNat*3)).add 0) (ae b1) w λw=>St ((f1.add (((IntKind.wrap .i64 (j-1))).toNat*3)).add 1) (ae c1) w λw=>St ((f1.add (((IntKind.wrap .i64 (j-1))).toNat*3)).add 2) (ae d1) w λw=>R20 a b c d e f g i (IntKind.wrap .i64 (j+1)) w)) (P3 a b c d e f g (IntKind.wrap .i64 (i+1)) w)
def cZ (P3:L3 (Int->Int->Value->Int->Int->WP))(Q:Bool->WP):Nat->L3 (Int->Int->Value->Int->Int->Int->WP)
 |0,_,_,_,_,_,_,_,_,_,_=>False
 |k+1,a,b,c,d,e,f,g,i,j,w=>eB P3 Q (cZ P3 Q k) a b c d e f g i j w
def c7 (P3:L3 (Int->Int->Value->Int->Int->WP))(Q:Bool->WP)(a:OA)(b c:Nat)(d e:Int)(f:Value)(g i:Int)(w:World):Prop:=cond (decide ((IntKind.wrap .i64 (e-g))≥2)) (∃k',cZ P3 Q k' a b c d e f g i (IntKind.wrap .i64 (g+1)) w) (P3 a b c d e f g (IntKind.wrap .i64 (i+1)) w)
def eC (P3:L3 (Int->Int->Value->Int->Int->WP))(Q:Bool->WP)(Yv:L3 (Int->Int->Value->Int->Int->Int->WP))(a:OA)(b c:Nat)(d e:Int)(f:Value)(g i j:Int)(w:World):Prop:=cond (decide (j≥1)) (aJ j b<|wA a λl=>af .i64 ((l.add (j.toNat*3)).add 0) w.drew λm=>af .i64 ((l.add (j.toNat*3)).add 1) w.drew λn=>af .i64 ((l.add (j.toNat*3)).add 2) w.drew λo=>aJ (IntKind.wrap .i64 (j-1)) b<|wA a λp=>af .i64 ((p.add (((IntKind.wrap .i64 (j-1))).toNat*3)).add 0) w.drew λq=>af .i64 ((p.add (((IntKind.wrap .i64 (j-1))).toNat*3)).add 1) w.drew λr=>af .i64 ((p.add (((IntKind.wrap .i64 (j-1))).toNat*3)).add 2) w.drew λs=>h_ (cx 141) f [.agg #[ae m,ae n,ae o],.agg #[ae q,ae r,ae s]] w.drew λt w=>dI .i64 t λu=>cond (!(decide (u<0))) (c7 P3 Q a b c d e f g i w) (aJ (IntKind.wrap .i64 (j-1)) b<|wA a λv=>af .i64 ((v.add (((IntKind.wrap .i64 (j-1))).toNat*3)).add 0) w.drew λx=>af .i64 ((v.add (((IntKind.wrap .i64 (j-1))).toNat*3)).add 1) w.drew λy=>af .i64 ((v.add (((IntKind.wrap .i64 (j-1))).toNat*3)).add 2) w.drew λz=>aJ j b<|wA a λa1=>af .i64 ((a1.add (j.toNat*3)).add 0) w.drew λb1=>af .i64 ((a1.add (j.toNat*3)).add 1) w.drew λc1=>af .i64 ((a1.add (j.toNat*3)).add 2) w.drew λd1=>aJ j b<|wA a λe1=>St ((e1.add (j.toNat*3)).add 0) (ae x) w.drew λw=>St ((e1.add (j.toNat*3)).add 1) (ae y) w λw=>St ((e1.add (j.toNat*3)).add 2) (ae z) w λw=>aJ (IntKind.wrap .i64 (j-1)) b<|wA a λf1=>St ((f1.add (((IntKind.wrap .i64 (j-1))).toNat*3)).add 0) (ae b1) w λw=>St ((f1.add (((IntKind.wrap .i64 (j-1))).toNat*3)).add 1) (ae c1) w λw=>St ((f1.add (((IntKind.wrap .i64 (j-1))).toNat*3)).add 2) (ae d1) w λw=>Yv a b c d e f g i (IntKind.wrap .i64 (j-1)) w)) (c7 P3 Q a b c d e f g i w)
def c8 (P3:L3 (Int->Int->Value->Int->Int->WP))(Q:Bool->WP):Nat->L3 (Int->Int->Value->Int->Int->Int->WP)
 |0,_,_,_,_,_,_,_,_,_,_=>False
 |k+1,a,b,c,d,e,f,g,i,j,w=>eC P3 Q (c8 P3 Q k) a b c d e f g i j w
def eJ (P3:L3 (Int->Int->Value->Int->Int->WP))(Q:Bool->WP)(a:OA)(b c:Nat)(d e:Int)(f:Value)(g i:Int)(w:World):Prop:=cond (g==e) (Q true w) (cond (decide ((IntKind.wrap .i64 (e-d))<50)) (Q false w) (aJ (IntKind.wrap .i64 (g-1)) b<|wA a λj=>af .i64 ((j.add (((IntKind.wrap .i64 (g-1))).toNat*3)).add 0) w.drew λl=>af .i64 ((j.add (((IntKind.wrap .i64 (g-1))).toNat*3)).add 1) w.drew λm=>af .i64 ((j.add (((IntKind.wrap .i64 (g-1))).toNat*3)).add 2) w.drew λn=>aJ g b<|wA a λo=>af .i64 ((o.add (g.toNat*3)).add 0) w.drew λp=>af .i64 ((o.add (g.toNat*3)).add 1) w.drew λq=>af .i64 ((o.add (g.toNat*3)).add 2) w.drew λr=>aJ g b<|wA a λs=>St ((s.add (g.toNat*3)).add 0) (ae l) w.drew λw=>St ((s.add (g.toNat*3)).add 1) (ae m) w λw=>St ((s.add (g.toNat*3)).add 2) (ae n) w λw=>aJ (IntKind.wrap .i64 (g-1)) b<|wA a λt=>St ((t.add (((IntKind.wrap .i64 (g-1))).toNat*3)).add 0) (ae p) w λw=>St ((t.add (((IntKind.wrap .i64 (g-1))).toNat*3)).add 1) (ae q) w λw=>St ((t.add (((IntKind.wrap .i64 (g-1))).toNat*3)).add 2) (ae r) w λw=>cond (decide ((IntKind.wrap .i64 (g-d))≥2)) (∃k',c8 P3 Q k' a b c d e f g i (IntKind.wrap .i64 (g-1)) w) (c7 P3 Q a b c d e f g i w)))
def eK (P3:L3 (Int->Int->Value->Int->Int->WP))(Q:Bool->WP)(R5:L3 (Int->Int->Value->Int->Int->WP))(a:OA)(b c:Nat)(d e:Int)(f:Value)(g i:Int)(w:World):Prop:=cond (decide (g<e)) (aJ g b<|wA a λj=>af .i64 ((j.add (g.toNat*3)).add 0) w.drew λl=>af .i64 ((j.add (g.toNat*3)).add 1) w.drew λm=>af .i64 ((j.add (g.toNat*3)).add 2) w.drew λn=>aJ (IntKind.wrap .i64 (g-1)) b<|wA a λo=>af .i64 ((o.add (((IntKind.wrap .i64 (g-1))).toNat*3)).add 0) w.drew λp=>af .i64 ((o.add (((IntKind.wrap .i64 (g-1))).toNat*3)).add 1) w.drew λq=>af .i64 ((o.add (((IntKind.wrap .i64 (g-1))).toNat*3)).add 2) w.drew λr=>h_ (cx 141) f [.agg #[ae l,ae m,ae n],.agg #[ae p,ae q,ae r]] w.drew λs w=>dI .i64 s λt=>cond (!(decide (t<0))) (R5 a b c d e f (IntKind.wrap .i64 (g+1)) i w) (eJ P3 Q a b c d e f g i w)) (eJ P3 Q a b c d e f g i w.drew)
def dw (P3:L3 (Int->Int->Value->Int->Int->WP))(Q:Bool->WP):Nat->L3 (Int->Int->Value->Int->Int->WP)
 |0,_,_,_,_,_,_,_,_,_=>False
 |k+1,a,b,c,d,e,f,g,i,w=>eK P3 Q (dw P3 Q k) a b c d e f g i w
def eL (Q:Bool->WP)(R3:L3 (Int->Int->Value->Int->Int->WP))(a:OA)(b c:Nat)(d e:Int)(f:Value)(g i:Int)(w:World):Prop:=cond (decide (i<5)) (∃k',dw R3 Q k' a b c d e f g i w) (Q false w)
def bu (Q:Bool->WP):Nat->L3 (Int->Int->Value->Int->Int->WP)
 |0,_,_,_,_,_,_,_,_,_=>False
 |k+1,a,b,c,d,e,f,g,i,w=>eL Q (bu Q k) a b c d e f g i w
noncomputable def cB:cv:=[(5,sp 0 14 (.op 14 (sp 15 3 .done))),(11,sp 0 15 (.op 15 (.op 16 (.op 17 .done)))),(16,sp 0 10 (.op 10 (sp 11 2 .done))),(17,sp 0 15 (.op 15 (.op 16 (.op 17 .done)))),(22,sp 0 10 (.op 10 (sp 11 2 .done))),(23,sp 0 15 (.op 15 (.op 16 (.op 17 .done))))]
def u7 {P3}(Q)(H3:Bk 141 Tryz.f248 (bt Q) 3 [(0,.l),(1,.i .i64),(2,.i .i64),(3,.v),(9,.i .i64),(10,.i .i64)] P3):∀k,Bk 141 Tryz.f248 (bt Q) 20 [(0,.l),(1,.i .i64),(2,.i .i64),(3,.v),(9,.i .i64),(10,.i .i64),(12,.i .i64)] (cZ P3 Q k):=bK λk h=>aU (ok 141) cB [aM H3,aM h]
def l9 {P3}(Q)(H3:Bk 141 Tryz.f248 (bt Q) 3 [(0,.l),(1,.i .i64),(2,.i .i64),(3,.v),(9,.i .i64),(10,.i .i64)] P3):Bk 141 Tryz.f248 (bt Q) 18 [(0,.l),(1,.i .i64),(2,.i .i64),(3,.v),(9,.i .i64),(10,.i .i64)] (c7 P3 Q):=aU (ok 141) cB [aM H3,ct (u7 Q H3)]
def u9 {P3}(Q)(H3:Bk 141 Tryz.f248 (bt Q) 3 [(0,.l),(1,.i .i64),(2,.i .i64),(3,.v),(9,.i .i64),(10,.i .i64)] P3):∀k,Bk 141 Tryz.f248 (bt Q) 14 [(0,.l),(1,.i .i64),(2,.i .i64),(3,.v),(9,.i .i64),(10,.i .i64),(11,.i .i64)] (c8 P3 Q k):=bK λk h=>aU (ok 141) cB [aM h,aM (l9 Q H3)]
def vS {P3}(Q)(H3:Bk 141 Tryz.f248 (bt Q) 3 [(0,.l),(1,.i .i64),(2,.i .i64),(3,.v),(9,.i .i64),(10,.i .i64)] P3):Bk 141 Tryz.f248 (bt Q) 7 [(0,.l),(1,.i .i64),(2,.i .i64),(3,.v),(9,.i .i64),(10,.i .i64)] (eJ P3 Q):=aU (ok 141) cB [ct (u9 Q H3),aM (l9 Q H3)]
def vT {P3}(Q)(H3:Bk 141 Tryz.f248 (bt Q) 3 [(0,.l),(1,.i .i64),(2,.i .i64),(3,.v),(9,.i .i64),(10,.i .i64)] P3):∀k,Bk 141 Tryz.f248 (bt Q) 5 [(0,.l),(1,.i .i64),(2,.i .i64),(3,.v),(9,.i .i64),(10,.i .i64)] (dw P3 Q k):=bK λk h=>aU (ok 141) cB [aM h,aM (vS Q H3)]
def vU (Q):∀k,Bk 141 Tryz.f248 (bt Q) 3 [(0,.l),(1,.i .i64),(2,.i .i64),(3,.v),(9,.i .i64),(10,.i .i64)] (bu Q k):=bK λk h=>aU (ok 141) cB [ct (vT Q h)]
def uL:=λa b c d e f w Q=>bB (iB a b c d e f w Q) (∃k',bu Q k' a b c d e f (IntKind.wrap .i64 (d+1)) 0 w) (ok 141) cB [ct (vU Q)] Tryz.func248
def eF (P3:L3 (Int->Value->Int->Int->WP))(Q:Int->WP)(a:OA)(b c:Nat)(d:Int)(e:Value)(f g:Int)(w:World):Prop:=cond (decide (f>g)) (Q f w) (aJ g b<|wA a λi=>af .i64 ((i.add (g.toNat*3)).add 0) w.drew λj=>af .i64 ((i.add (g.toNat*3)).add 1) w.drew λl=>af .i64 ((i.add (g.toNat*3)).add 2) w.drew λm=>aJ f b<|wA a λn=>af .i64 ((n.add (f.toNat*3)).add 0) w.drew λo=>af .i64 ((n.add (f.toNat*3)).add 1) w.drew λp=>af .i64 ((n.add (f.toNat*3)).add 2) w.drew λq=>aJ f b<|wA a λr=>St ((r.add (f.toNat*3)).add 0) (ae j) w.drew λw=>St ((r.add (f.toNat*3)).add 1) (ae l) w λw=>St ((r.add (f.toNat*3)).add 2) (ae m) w λw=>aJ g b<|wA a λs=>St ((s.add (g.toNat*3)).add 0) (ae o) w λw=>St ((s.add (g.toNat*3)).add 1) (ae p) w λw=>St ((s.add (g.toNat*3)).add 2) (ae q) w λw=>P3 a b c d e (IntKind.wrap .i64 (f+1)) (IntKind.wrap .i64 (g-1)) w)
def dz (P3:L3 (Int->Value->Int->Int->WP))(Q:Int->WP)(R5:L3 (Int->Value->Int->Int->WP))(a:OA)(b c:Nat)(d:Int)(e:Value)(f g:Int)(w:World):Prop:=cond (decide (f<=g)) (aJ d b<|wA a λi=>af .i64 ((i.add (d.toNat*3)).add 0) w.drew λj=>af .i64 ((i.add (d.toNat*3)).add 1) w.drew λl=>af .i64 ((i.add (d.toNat*3)).add 2) w.drew λm=>aJ g b<|wA a λn=>af .i64 ((n.add (g.toNat*3)).add 0) w.drew λo=>af .i64 ((n.add (g.toNat*3)).add 1) w.drew λp=>af .i64 ((n.add (g.toNat*3)).add 2) w.drew λq=>h_ (cx 90) e [.agg #[ae j,ae l,ae m],.agg #[ae o,ae p,ae q]] w.drew λr w=>dI .i64 r λs=>cond (decide (s<0)) (R5 a b c d e f (IntKind.wrap .i64 (g-1)) w) (eF P3 Q a b c d e f g w)) (eF P3 Q a b c d e f g w.drew)
def cN (P3:L3 (Int->Value->Int->Int->WP))(Q:Int->WP):Nat->L3 (Int->Value->Int->Int->WP)
 |0,_,_,_,_,_,_,_,_=>False
 |k+1,a,b,c,d,e,f,g,w=>dz P3 Q (cN P3 Q k) a b c d e f g w
def fE (Q:Int->WP)(R3:L3 (Int->Value->Int->Int->WP))(a:OA)(b c:Nat)(d:Int)(e:Value)(f g:Int)(w:World):Prop:=cond (decide (f<=g)) (aJ d b<|wA a λi=>af .i64 ((i.add (d.toNat*3)).add 0) w.drew λj=>af .i64 ((i.add (d.toNat*3)).add 1) w.drew λl=>af .i64 ((i.add (d.toNat*3)).add 2) w.drew λm=>aJ f b<|wA a λn=>af .i64 ((n.add (f.toNat*3)).add 0) w.drew λo=>af .i64 ((n.add (f.toNat*3)).add 1) w.drew λp=>af .i64 ((n.add (f.toNat*3)).add 2) w.drew λq=>h_ (cx 90) e [.agg #[ae j,ae l,ae m],.agg #[ae o,ae p,ae q]] w.drew λr w=>dI .i64 r λs=>cond (!(decide (s<0))) (R3 a b c d e (IntKind.wrap .i64 (f+1)) g w) (∃k',cN R3 Q k' a b c d e f g w)) (∃k',cN R3 Q k' a b c d e f g w.drew)
def cO (Q:Int->WP):Nat->L3 (Int->Value->Int->Int->WP)
 |0,_,_,_,_,_,_,_,_=>False
 |k+1,a,b,c,d,e,f,g,w=>fE Q (cO Q k) a b c d e f g w
noncomputable def gR:cv:=[(1,sp 0 13 (.op 13 (.op 14 (.op 15 .done)))),(3,sp 0 13 (.op 13 (sp 14 3 .done))),(5,sp 0 13 (.op 13 (sp 14 2 .done))),(8,sp 0 13 (.op 13 (.op 14 (.op 15 .done))))]
def zJ {P3}(Q)(H3:Bk 90 Tryz.f249 (eE Q) 3 [(0,.l),(1,.i .i64),(4,.v),(11,.i .i64),(12,.i .i64)] P3):Bk 90 Tryz.f249 (eE Q) 7 [(0,.l),(1,.i .i64),(4,.v),(11,.i .i64),(12,.i .i64)] (eF P3 Q):=aU (ok 90) gR [aM H3]
def zK {P3}(Q)(H3:Bk 90 Tryz.f249 (eE Q) 3 [(0,.l),(1,.i .i64),(4,.v),(11,.i .i64),(12,.i .i64)] P3):∀k,Bk 90 Tryz.f249 (eE Q) 5 [(0,.l),(1,.i .i64),(4,.v),(11,.i .i64),(12,.i .i64)] (cN P3 Q k):=bK λk h=>aU (ok 90) gR [aM h,aM (zJ Q H3)]
def zL (Q):∀k,Bk 90 Tryz.f249 (eE Q) 3 [(0,.l),(1,.i .i64),(4,.v),(11,.i .i64),(12,.i .i64)] (cO Q k):=bK λk h=>aU (ok 90) gR [aM h,ct (zK Q h)]
def yh:=λa b c d e f g w Q=>bB (jD a b c d e f g w Q) (aJ f b<|wA a λi=>af .i64 ((i.add (f.toNat*3)).add 0) w.drew λj=>af .i64 ((i.add (f.toNat*3)).add 1) w.drew λl=>af .i64 ((i.add (f.toNat*3)).add 2) w.drew λm=>aJ d b<|wA a λn=>af .i64 ((n.add (d.toNat*3)).add 0) w.drew λo=>af .i64 ((n.add (d.toNat*3)).add 1) w.drew λp=>af .i64 ((n.add (d.toNat*3)).add 2) w.drew λq=>aJ d b<|wA a λr=>St ((r.add (d.toNat*3)).add 0) (ae j) w.drew λw=>St ((r.add (d.toNat*3)).add 1) (ae l) w λw=>St ((r.add (d.toNat*3)).add 2) (ae m) w λw=>aJ f b<|wA a λs=>St ((s.add (f.toNat*3)).add 0) (ae o) w λw=>St ((s.add (f.toNat*3)).add 1) (ae p) w λw=>St ((s.add (f.toNat*3)).add 2) (ae q) w λw=>∃k',cO Q k' a b c d g (IntKind.wrap .i64 (d+1)) (IntKind.wrap .i64 (e-1)) w) (ok 90) gR [ct (zL Q)] Tryz.func249
def fe (tg:L3 (Int->Value->Int->Int->WP))(Q:Int->Bool->WP)(a:OA)(b c:Nat)(d:Int)(e:Value)(f g:Int)(w:World):Prop:=cond (decide (f>g)) (aJ d b<|wA a λi=>af .i64 ((i.add (d.toNat*3)).add 0) w.drew λj=>af .i64 ((i.add (d.toNat*3)).add 1) w.drew λl=>af .i64 ((i.add (d.toNat*3)).add 2) w.drew λm=>aJ g b<|wA a λn=>af .i64 ((n.add (g.toNat*3)).add 0) w.drew λo=>af .i64 ((n.add (g.toNat*3)).add 1) w.drew λp=>af .i64 ((n.add (g.toNat*3)).add 2) w.drew λq=>aJ g b<|wA a λr=>St ((r.add (g.toNat*3)).add 0) (ae j) w.drew λw=>St ((r.add (g.toNat*3)).add 1) (ae l) w λw=>St ((r.add (g.toNat*3)).add 2) (ae m) w λw=>aJ d b<|wA a λs=>St ((s.add (d.toNat*3)).add 0) (ae o) w λw=>St ((s.add (d.toNat*3)).add 1) (ae p) w λw=>St ((s.add (d.toNat*3)).add 2) (ae q) w λw=>Q g false w) (aJ g b<|wA a λt=>af .i64 ((t.add (g.toNat*3)).add 0) w.drew λu=>af .i64 ((t.add (g.toNat*3)).add 1) w.drew λv=>af .i64 ((t.add (g.toNat*3)).add 2) w.drew λx=>aJ f b<|wA a λy=>af .i64 ((y.add (f.toNat*3)).add 0) w.drew λz=>af .i64 ((y.add (f.toNat*3)).add 1) w.drew λa1=>af .i64 ((y.add (f.toNat*3)).add 2) w.drew λb1=>aJ f b<|wA a λc1=>St ((c1.add (f.toNat*3)).add 0) (ae u) w.drew λw=>St ((c1.add (f.toNat*3)).add 1) (ae v) w λw=>St ((c1.add (f.toNat*3)).add 2) (ae x) w λw=>aJ g b<|wA a λd1=>St ((d1.add (g.toNat*3)).add 0) (ae z) w λw=>St ((d1.add (g.toNat*3)).add 1) (ae a1) w λw=>St ((d1.add (g.toNat*3)).add 2) (ae b1) w λw=>tg a b c d e (IntKind.wrap .i64 (f+1)) (IntKind.wrap .i64 (g-1)) w)
def eo (tg:L3 (Int->Value->Int->Int->WP))(Q:Int->Bool->WP)(R15:L3 (Int->Value->Int->Int->WP))(a:OA)(b c:Nat)(d:Int)(e:Value)(f g:Int)(w:World):Prop:=cond (decide (f<=g)) (aJ g b<|wA a λi=>af .i64 ((i.add (g.toNat*3)).add 0) w.drew λj=>af .i64 ((i.add (g.toNat*3)).add 1) w.drew λl=>af .i64 ((i.add (g.toNat*3)).add 2) w.drew λm=>aJ d b<|wA a λn=>af .i64 ((n.add (d.toNat*3)).add 0) w.drew λo=>af .i64 ((n.add (d.toNat*3)).add 1) w.drew λp=>af .i64 ((n.add (d.toNat*3)).add 2) w.drew λq=>h_ (cx 178) e [.agg #[ae j,ae l,ae m],.agg #[ae o,ae p,ae q]] w.drew λr w=>dI .i64 r λs=>cond (!(decide (s<0))) (R15 a b c d e f (IntKind.wrap .i64 (g-1)) w) (fe tg Q a b c d e f g w)) (fe tg Q a b c d e f g w.drew)
def c_ (tg:L3 (Int->Value->Int->Int->WP))(Q:Int->Bool->WP):Nat->L3 (Int->Value->Int->Int->WP)
 |0,_,_,_,_,_,_,_,_=>False
 |k+1,a,b,c,d,e,f,g,w=>eo tg Q (c_ tg Q k) a b c d e f g w
def gw (Q:Int->Bool->WP)(R13:L3 (Int->Value->Int->Int->WP))(a:OA)(b c:Nat)(d:Int)(e:Value)(f g:Int)(w:World):Prop:=cond (decide (f<=g)) (aJ f b<|wA a λi=>af .i64 ((i.add (f.toNat*3)).add 0) w.drew λj=>af .i64 ((i.add (f.toNat*3)).add 1) w.drew λl=>af .i64 ((i.add (f.toNat*3)).add 2) w.drew λm=>aJ d b<|wA a λn=>af .i64 ((n.add (d.toNat*3)).add 0) w.drew λo=>af .i64 ((n.add (d.toNat*3)).add 1) w.drew λp=>af .i64 ((n.add (d.toNat*3)).add 2) w.drew λq=>h_ (cx 178) e [.agg #[ae j,ae l,ae m],.agg #[ae o,ae p,ae q]] w.drew λr w=>dI .i64 r λs=>cond (decide (s<0)) (R13 a b c d e (IntKind.wrap .i64 (f+1)) g w) (∃k',c_ R13 Q k' a b c d e f g w)) (∃k',c_ R13 Q k' a b c d e f g w.drew)
def dg (Q:Int->Bool->WP):Nat->L3 (Int->Value->Int->Int->WP)
 |0,_,_,_,_,_,_,_,_=>False
 |k+1,a,b,c,d,e,f,g,w=>gw Q (dg Q k) a b c d e f g w
def gD (Q:Int->Bool->WP)(a:OA)(b c:Nat)(d:Int)(e:Value)(f g:Int)(w:World):Prop:=cond (decide (f>g)) (aJ d b<|wA a λi=>af .i64 ((i.add (d.toNat*3)).add 0) w.drew λj=>af .i64 ((i.add (d.toNat*3)).add 1) w.drew λl=>af .i64 ((i.add (d.toNat*3)).add 2) w.drew λm=>aJ g b<|wA a λn=>af .i64 ((n.add (g.toNat*3)).add 0) w.drew λo=>af .i64 ((n.add (g.toNat*3)).add 1) w.drew λp=>af .i64 ((n.add (g.toNat*3)).add 2) w.drew λq=>aJ g b<|wA a λr=>St ((r.add (g.toNat*3)).add 0) (ae j) w.drew λw=>St ((r.add (g.toNat*3)).add 1) (ae l) w λw=>St ((r.add (g.toNat*3)).add 2) (ae m) w λw=>aJ d b<|wA a λs=>St ((s.add (d.toNat*3)).add 0) (ae o) w λw=>St ((s.add (d.toNat*3)).add 1) (ae p) w λw=>St ((s.add (d.toNat*3)).add 2) (ae q) w λw=>Q g true w) (aJ g b<|wA a λt=>af .i64 ((t.add (g.toNat*3)).add 0) w.drew λu=>af .i64 ((t.add (g.toNat*3)).add 1) w.drew λv=>af .i64 ((t.add (g.toNat*3)).add 2) w.drew λx=>aJ f b<|wA a λy=>af .i64 ((y.add (f.toNat*3)).add 0) w.drew λz=>af .i64 ((y.add (f.toNat*3)).add 1) w.drew λa1=>af .i64 ((y.add (f.toNat*3)).add 2) w.drew λb1=>aJ f b<|wA a λc1=>St ((c1.add (f.toNat*3)).add 0) (ae u) w.drew λw=>St ((c1.add (f.toNat*3)).add 1) (ae v) w λw=>St ((c1.add (f.toNat*3)).add 2) (ae x) w λw=>aJ g b<|wA a λd1=>St ((d1.add (g.toNat*3)).add 0) (ae z) w λw=>St ((d1.add (g.toNat*3)).add 1) (ae a1) w λw=>St ((d1.add (g.toNat*3)).add 2) (ae b1) w λw=>∃k',dg Q k' a b c d e (IntKind.wrap .i64 (f+1)) (IntKind.wrap .i64 (g-1)) w)
def gE (Q:Int->Bool->WP)(R5:L3 (Int->Value->Int->Int->WP))(a:OA)(b c:Nat)(d:Int)(e:Value)(f g:Int)(w:World):Prop:=cond (decide (f<=g)) (aJ g b<|wA a λi=>af .i64 ((i.add (g.toNat*3)).add 0) w.drew λj=>af .i64 ((i.add (g.toNat*3)).add 1) w.drew λl=>af .i64 ((i.add (g.toNat*3)).add 2) w.drew λm=>aJ d b<|wA a λn=>af .i64 ((n.add (d.toNat*3)).add 0) w.drew λo=>af .i64 ((n.add (d.toNat*3)).add 1) w.drew λp=>af .i64 ((n.add (d.toNat*3)).add 2) w.drew λq=>h_ (cx 178) e [.agg #[ae j,ae l,ae m],.agg #[ae o,ae p,ae q]] w.drew λr w=>dI .i64 r λs=>cond (!(decide (s<0))) (R5 a b c d e f (IntKind.wrap .i64 (g-1)) w) (gD Q a b c d e f g w)) (gD Q a b c d e f g w.drew)
def dG (Q:Int->Bool->WP):Nat->L3 (Int->Value->Int->Int->WP)
 |0,_,_,_,_,_,_,_,_=>False
 |k+1,a,b,c,d,e,f,g,w=>gE Q (dG Q k) a b c d e f g w
def gF (Q:Int->Bool->WP)(R3:L3 (Int->Value->Int->Int->WP))(a:OA)(b c:Nat)(d:Int)(e:Value)(f g:Int)(w:World):Prop:=cond (decide (f<=g)) (aJ f b<|wA a λi=>af .i64 ((i.add (f.toNat*3)).add 0) w.drew λj=>af .i64 ((i.add (f.toNat*3)).add 1) w.drew λl=>af .i64 ((i.add (f.toNat*3)).add 2) w.drew λm=>aJ d b<|wA a λn=>af .i64 ((n.add (d.toNat*3)).add 0) w.drew λo=>af .i64 ((n.add (d.toNat*3)).add 1) w.drew λp=>af .i64 ((n.add (d.toNat*3)).add 2) w.drew λq=>h_ (cx 178) e [.agg #[ae j,ae l,ae m],.agg #[ae o,ae p,ae q]] w.drew λr w=>dI .i64 r λs=>cond (decide (s<0)) (R3 a b c d e (IntKind.wrap .i64 (f+1)) g w) (∃k',dG Q k' a b c d e f g w)) (∃k',dG Q k' a b c d e f g w.drew)
def fm (Q:Int->Bool->WP):Nat->L3 (Int->Value->Int->Int->WP)
 |0,_,_,_,_,_,_,_,_=>False
 |k+1,a,b,c,d,e,f,g,w=>gF Q (fm Q k) a b c d e f g w
noncomputable def eA:cv:=[(1,sp 0 13 (.op 13 (.op 14 (.op 15 .done)))),(3,sp 0 13 (.op 13 (sp 14 2 .done))),(5,sp 0 13 (.op 13 (sp 14 3 .done))),(8,sp 0 13 (.op 13 (.op 14 (.op 15 .done)))),(10,sp 0 13 (.op 13 (.op 14 (.op 15 .done)))),(13,sp 0 13 (.op 13 (sp 14 2 .done))),(15,sp 0 13 (.op 13 (sp 14 3 .done))),(18,sp 0 13 (.op 13 (.op 14 (.op 15 .done)))),(21,sp 0 13 (.op 13 (.op 14 (.op 15 .done))))]
def BD {tg}(Q)(H13:Bk 178 Tryz.f250 (cT Q) 13 [(0,.l),(1,.i .i64),(4,.v),(12,.i .i64),(13,.i .i64)] tg):Bk 178 Tryz.f250 (cT Q) 17 [(0,.l),(1,.i .i64),(4,.v),(12,.i .i64),(13,.i .i64)] (fe tg Q):=aU (ok 178) eA [aM H13]
def BE {tg}(Q)(H13:Bk 178 Tryz.f250 (cT Q) 13 [(0,.l),(1,.i .i64),(4,.v),(12,.i .i64),(13,.i .i64)] tg):∀k,Bk 178 Tryz.f250 (cT Q) 15 [(0,.l),(1,.i .i64),(4,.v),(12,.i .i64),(13,.i .i64)] (c_ tg Q k):=bK λk h=>aU (ok 178) eA [aM h,aM (BD Q H13)]
def BF (Q):∀k,Bk 178 Tryz.f250 (cT Q) 13 [(0,.l),(1,.i .i64),(4,.v),(12,.i .i64),(13,.i .i64)] (dg Q k):=bK λk h=>aU (ok 178) eA [aM h,ct (BE Q h)]
def B8 (Q):Bk 178 Tryz.f250 (cT Q) 7 [(0,.l),(1,.i .i64),(4,.v),(12,.i .i64),(13,.i .i64)] (gD Q):=aU (ok 178) eA [ct (BF Q)]
def B9 (Q):∀k,Bk 178 Tryz.f250 (cT Q) 5 [(0,.l),(1,.i .i64),(4,.v),(12,.i .i64),(13,.i .i64)] (dG Q k):=bK λk h=>aU (ok 178) eA [aM h,aM (B8 Q)]
def B_ (Q):∀k,Bk 178 Tryz.f250 (cT Q) 3 [(0,.l),(1,.i .i64),(4,.v),(12,.i .i64),(13,.i .i64)] (fm Q k):=bK λk h=>aU (ok 178) eA [aM h,ct (B9 Q)]
def A5:=λa b c d e f g w Q=>bB (lq a b c d e f g w Q) (aJ f b<|wA a λi=>af .i64 ((i.add (f.toNat*3)).add 0) w.drew λj=>af .i64 ((i.add (f.toNat*3)).add 1) w.drew λl=>af .i64 ((i.add (f.toNat*3)).add 2) w.drew λm=>aJ d b<|wA a λn=>af .i64 ((n.add (d.toNat*3)).add 0) w.drew λo=>af .i64 ((n.add (d.toNat*3)).add 1) w.drew λp=>af .i64 ((n.add (d.toNat*3)).add 2) w.drew λq=>aJ d b<|wA a λr=>St ((r.add (d.toNat*3)).add 0) (ae j) w.drew λw=>St ((r.add (d.toNat*3)).add 1) (ae l) w λw=>St ((r.add (d.toNat*3)).add 2) (ae m) w λw=>aJ f b<|wA a λs=>St ((s.add (f.toNat*3)).add 0) (ae o) w λw=>St ((s.add (f.toNat*3)).add 1) (ae p) w λw=>St ((s.add (f.toNat*3)).add 2) (ae q) w λw=>∃k',fm Q k' a b c d g (IntKind.wrap .i64 (d+1)) (IntKind.wrap .i64 (e-1)) w) (ok 178) eA [ct (B_ Q)] Tryz.func250
def jy (P2:L3 (Int->Int->Int->Value->Bool->Bool->WP))(Q:WP)(a:OA)(b c:Nat)(d e f:Int)(g:Value)(i j:Int)(w:World):Prop:=lq a b c d e j g w λl m w=>NZ 8<|cond (decide ((IntKind.wrap .i64 (l-d))<(IntKind.wrap .i64 (e-l)))) (fk a b c d l f g w λw=>P2 a b c (IntKind.wrap .i64 (l+1)) e f g (decide ((IntKind.wrap .i64 (l-d))≥(IntKind.wrap .i64 (Int.tdiv i 8)))) m w) (fk a b c (IntKind.wrap .i64 (l+1)) e f g w λw=>P2 a b c d l f g (decide ((IntKind.wrap .i64 (e-l))≥(IntKind.wrap .i64 (Int.tdiv i 8)))) m w)
def eU (P2:L3 (Int->Int->Int->Value->Bool->Bool->WP))(Q:WP)(a:OA)(b c:Nat)(d e f:Int)(g:Value)(i j:Bool)(l m:Int)(w:World):Prop:=cond (decide (d>0)) (aJ (IntKind.wrap .i64 (d-1)) b<|wA a λn=>af .i64 ((n.add (((IntKind.wrap .i64 (d-1))).toNat*3)).add 0) w.drew λo=>af .i64 ((n.add (((IntKind.wrap .i64 (d-1))).toNat*3)).add 1) w.drew λp=>af .i64 ((n.add (((IntKind.wrap .i64 (d-1))).toNat*3)).add 2) w.drew λq=>aJ m b<|wA a λr=>af .i64 ((r.add (m.toNat*3)).add 0) w.drew λs=>af .i64 ((r.add (m.toNat*3)).add 1) w.drew λt=>af .i64 ((r.add (m.toNat*3)).add 2) w.drew λu=>h_ (cx 148) g [.agg #[ae o,ae p,ae q],.agg #[ae s,ae t,ae u]] w.drew λv w=>dI .i64 v λx=>cond (!(decide (x<0))) (jD a b c d e m g w λy w=>P2 a b c y e f g i j w) (jy P2 Q a b c d e f g l m w)) (jy P2 Q a b c d e f g l m w.drew)
def gS (P2:L3 (Int->Int->Int->Value->Bool->Bool->WP))(Q:WP)(a:OA)(b c:Nat)(d e f:Int)(g:Value)(i j:Bool)(l m n:Int)(w:World):Prop:=cond i (cond j (cond (n==1) (iB a b c d e g w λo w=>cond o (Q w) (eU P2 Q a b c d e f g i j l m w)) (eU P2 Q a b c d e f g i j l m w)) (eU P2 Q a b c d e f g i j l m w)) (eU P2 Q a b c d e f g i j l m w)
def jz (P2:L3 (Int->Int->Int->Value->Bool->Bool->WP))(Q:WP)(a:OA)(b c:Nat)(d e f:Int)(g:Value)(i j:Bool)(l:Int)(w:World):Prop:=kF a b c d e g w λm n w=>cond (n==2) (jZ a b c d e g w λw=>gS P2 Q a b c d e f g i j l (IntKind.wrap .i64 ((IntKind.wrap .i64 (e-1))-(IntKind.wrap .i64 (m-d)))) 1 w) (gS P2 Q a b c d e f g i j l m n w)
def gZ (Q:WP)(R2:L3 (Int->Int->Int->Value->Bool->Bool->WP))(a:OA)(b c:Nat)(d e f:Int)(g:Value)(i j:Bool)(w:World):Prop:=cond (decide ((IntKind.wrap .i64 (e-d))<=12)) (jK a b c d e g w λw=>Q w) (cond (f==0) (lN a b c d e g w λw=>Q w) (cond (!i) (jL a b c d e g w λw=>jz R2 Q a b c d e (IntKind.wrap .i64 (f-1)) g i j (IntKind.wrap .i64 (e-d)) w) (jz R2 Q a b c d e f g i j (IntKind.wrap .i64 (e-d)) w)))
def cJ (Q:WP):Nat->L3 (Int->Int->Int->Value->Bool->Bool->WP)
 |0,_,_,_,_,_,_,_,_,_,_=>False
 |k+1,a,b,c,d,e,f,g,i,j,w=>gZ Q (cJ Q k) a b c d e f g i j w
noncomputable def fI:cv:=[(17,sp 0 13 (.op 13 (sp 14 3 .done)))]
def CV {P2}(Q)(H2:Bk 148 Tryz.f223 (cI Q) 2 [(0,.l),(1,.i .i64),(2,.i .i64),(3,.i .i64),(4,.v),(10,.b),(11,.b)] P2):Bk 148 Tryz.f223 (cI Q) 20 [(0,.l),(1,.i .i64),(2,.i .i64),(3,.i .i64),(4,.v),(12,.i .i64),(13,.i .i64)] (jy P2 Q):=aU (ok 148) fI [aM H2]
def CW {P2}(Q)(H2:Bk 148 Tryz.f223 (cI Q) 2 [(0,.l),(1,.i .i64),(2,.i .i64),(3,.i .i64),(4,.v),(10,.b),(11,.b)] P2):Bk 148 Tryz.f223 (cI Q) 17 [(0,.l),(1,.i .i64),(2,.i .i64),(3,.i .i64),(4,.v),(10,.b),(11,.b),(12,.i .i64),(13,.i .i64)] (eU P2 Q):=aU (ok 148) fI [aM H2,aM (CV Q H2)]
def CX {P2}(Q)(H2:Bk 148 Tryz.f223 (cI Q) 2 [(0,.l),(1,.i .i64),(2,.i .i64),(3,.i .i64),(4,.v),(10,.b),(11,.b)] P2):Bk 148 Tryz.f223 (cI Q) 15 [(0,.l),(1,.i .i64),(2,.i .i64),(3,.i .i64),(4,.v),(10,.b),(11,.b),(12,.i .i64),(13,.i .i64),(14,.i .i64)] (gS P2 Q):=aU (ok 148) fI [aM (CW Q H2)]
def CY {P2}(Q)(H2:Bk 148 Tryz.f223 (cI Q) 2 [(0,.l),(1,.i .i64),(2,.i .i64),(3,.i .i64),(4,.v),(10,.b),(11,.b)] P2):Bk 148 Tryz.f223 (cI Q) 10 [(0,.l),(1,.i .i64),(2,.i .i64),(3,.i .i64),(4,.v),(10,.b),(11,.b),(12,.i .i64)] (jz P2 Q):=aU (ok 148) fI [aM (CX Q H2)]
def DE (Q):∀k,Bk 148 Tryz.f223 (cI Q) 2 [(0,.l),(1,.i .i64),(2,.i .i64),(3,.i .i64),(4,.v),(10,.b),(11,.b)] (cJ Q k):=bK λk h=>aU (ok 148) fI [aM (CY Q h)]
def rK:=λa b c d e f g w Q=>bB (fk a b c d e f g w Q) (∃k',cJ Q k' a b c d e f g true true w) (ok 148) fI [ct (DE Q)] Tryz.func223
def AM:=λa b c d w Q=>bB (kN a b c d w Q) (vC (IntKind.wrap .u64 (b:Int)) w λe w=>fk a b c 0 (b:Int) e d w λw=>Q w) (ok 14) [] [] Tryz.func196
def mQ (Q:Int->WP)(R3:Int->L3 (Int->Int->WP))(a:Int)(b:OA)(c d:Nat)(e f:Int)(w:World):Prop:=cond (decide (f<e)) (aJ f c<|wA b λg=>af .i64 (g.add (f.toNat*1)) w λi=>cond (i !=a) (Q i w) (R3 a b c d e (IntKind.wrap .i64 (f+1)) w)) (Q a w)
def qO (Q:Int->WP):Nat->Int->L3 (Int->Int->WP)
 |0,_,_,_,_,_,_,_=>False
 |k+1,a,b,c,d,e,f,w=>mQ Q (qO Q k) a b c d e f w
def adB (Q):∀k,Bk 18 Tryz.f225 (PI Q) 3 [(3,.i .i64),(6,.l),(7,.i .i64),(8,.i .i64)] (qO Q k):=bK λk h=>aU (ok 18) [] [aM h]
def ZB:=λa b c w Q=>bB (ER a b c w Q) (∃k',qO Q k' 0 a b c (b:Int) 0 w) (ok 18) [] [ct (adB Q)] Tryz.func225
def A6:=λa w Q=>bB (qy a w Q) (Q (a !=a) w) (ok 6) [] [] Tryz.func253
def Qh:=λa b w Q=>bB (oe a b w Q) (qy a w λc w=>qy b w λd w=>cond c (cond d (Q 0 w) (Q (-1) w)) (cond d (Q 1 w) (cond (decide (a<b)) (Q (-1) w) (cond (decide (a>b)) (Q 1 w) (Q 0 w))))) (ok 20) [] [] Tryz.func226
noncomputable def ZC:cv:=[(1,sp 0 4 (sp 5 4 (sp 10 4 (.op 4 (.op 9 (.op 14 (.op 15 (.op 16 (.op 17 .done)))))))))]
def XY:=λa b c d e f w Q=>bB (DA a b c d e f w Q) (Bx [ae a,ae b,ae c] 294 w λg w=>Bx [ae d,ae e,ae f] 294 w λi w=>af .i64 (g.add 2) w.drew λj=>af .i64 (i.add 2) w.drew λl=>af .i64 g w.drew λm=>af .i64 i w.drew λn=>af .i64 (g.add 1) w.drew λo=>af .i64 (i.add 1) w.drew λp=>oe j l w.drew λq w=>w.cell? (i.add 1)=some (ae p)/\w.cell? (g.add 1)=some (ae o)/\w.cell? i=some (ae n)/\w.cell? g=some (ae m)/\oe m n w λr w=>w.cell? (i.add 1)=some (ae p)/\w.cell? (g.add 1)=some (ae o)/\oe o p w λs w=>Bx [ae q,ae r,ae s] 3 w λt w=>ER (some t) 3 3 w λu w=>Q u w) (ok 22) ZC [] Tryz.func197
def Ca (P4:L3 (Int->WP))(Q:L3 WP)(R9:L3 (Int->L3 (Int->WP)))(a:OA)(b c:Nat)(d:Int)(e:OA)(f g:Nat)(i:Int)(w:World):Prop:=cond (decide (i<(f:Int))) (aJ i f<|wA e λj=>af .i64 ((j.add (i.toNat*3)).add 0) w.drew λl=>af .i64 ((j.add (i.toNat*3)).add 1) w.drew λm=>af .i64 ((j.add (i.toNat*3)).add 2) w.drew λn=>aJ (IntKind.wrap .i64 (i-1)) f<|wA e λo=>af .i64 ((o.add (((IntKind.wrap .i64 (i-1))).toNat*3)).add 0) w.drew λp=>af .i64 ((o.add (((IntKind.wrap .i64 (i-1))).toNat*3)).add 1) w.drew λq=>af .i64 ((o.add (((IntKind.wrap .i64 (i-1))).toNat*3)).add 2) w.drew λr=>bX P .neq 294 (.tmp 38) (.tmp 43) (.agg #[ae l,ae m,ae n]) (.agg #[ae p,ae q,ae r]) w.drew λs w=>cond s (aJ i f<|wA e λt=>af .i64 ((t.add (i.toNat*3)).add 0) w λu=>af .i64 ((t.add (i.toNat*3)).add 1) w λv=>af .i64 ((t.add (i.toNat*3)).add 2) w λx=>aJ d b<|wA a λy=>St ((y.add (d.toNat*3)).add 0) (ae u) w λw=>St ((y.add (d.toNat*3)).add 1) (ae v) w λw=>St ((y.add (d.toNat*3)).add 2) (ae x) w λw=>R9 a b c (IntKind.wrap .i64 (d+1)) e f g (IntKind.wrap .i64 (i+1)) w) (R9 a b c d e f g (IntKind.wrap .i64 (i+1)) w)) (bU a b c 3 (some d) none λz a1 b1=>aL P (Builtin.clear_ #[278] 0 [.slice z a1 b1].toArray) w λc1 w=>bU a b c 3 none (some d) λd1 e1 f1=>Q d1 e1 f1 w)
def l_ (P4:L3 (Int->WP))(Q:L3 WP):Nat->L3 (Int->L3 (Int->WP))
 |0,_,_,_,_,_,_,_,_,_=>False
 |k+1,a,b,c,d,e,f,g,i,w=>Ca P4 Q (l_ P4 Q k) a b c d e f g i w
def gG (Q:L3 WP)(R4:L3 (Int->WP))(a:OA)(b c:Nat)(d:Int)(w:World):Prop:=cond (decide (d<(b:Int))) (aJ d b<|wA a λe=>af .i64 ((e.add (d.toNat*3)).add 0) w.drew λf=>af .i64 ((e.add (d.toNat*3)).add 1) w.drew λg=>af .i64 ((e.add (d.toNat*3)).add 2) w.drew λi=>aJ (IntKind.wrap .i64 (d-1)) b<|wA a λj=>af .i64 ((j.add (((IntKind.wrap .i64 (d-1))).toNat*3)).add 0) w.drew λl=>af .i64 ((j.add (((IntKind.wrap .i64 (d-1))).toNat*3)).add 1) w.drew λm=>af .i64 ((j.add (((IntKind.wrap .i64 (d-1))).toNat*3)).add 2) w.drew λn=>bX P .eql 294 (.tmp 19) (.tmp 24) (.agg #[ae f,ae g,ae i]) (.agg #[ae l,ae m,ae n]) w.drew λo w=>cond o (bU a b c 3 (some d) none λp q r=>∃k',l_ R4 Q k' a b c d p q r 1 w) (R4 a b c (IntKind.wrap .i64 (d+1)) w)) (Q a b c w)
def fo (Q:L3 WP):Nat->L3 (Int->WP)
 |0,_,_,_,_,_=>False
 |k+1,a,b,c,d,w=>gG Q (fo Q k) a b c d w
noncomputable def lO:cv:=[(6,sp 0 9 (.op 9 .done)),(11,sp 0 9 (.op 9 .done))]
def Cb {P4}(Q)(H4:Bk 61 Tryz.f198 (jj Q) 4 [(0,.l),(3,.i .i64)] P4):∀k,Bk 61 Tryz.f198 (jj Q) 9 [(0,.l),(3,.i .i64),(4,.l),(5,.i .i64)] (l_ P4 Q k):=bK λk h=>aU (ok 61) lO [aM h]
def Cc (Q):∀k,Bk 61 Tryz.f198 (jj Q) 4 [(0,.l),(3,.i .i64)] (fo Q k):=bK λk h=>aU (ok 61) lO [aM h,ct (Cb Q h)]
def A7:=λa b c w Q=>bB (ld a b c w Q) (cond (decide ((b:Int)<2)) (Q a b c w) (∃k',fo Q k' a b c 1 w)) (ok 61) lO [ct (Cc Q)] Tryz.func198
def ZD:=λa b c w Q=>bB (kE a b c w Q) (ji a b c w λd e f w=>kN d e f (.func (.func 197) #[] #[]) w λw=>ld d e f w λg i j w=>Q g i j w) (ok 9) [] [] Tryz.func176
def u_ (P6:OA->OA->Int->Int->Int->L3 (L3 (Int->Int->WP)))(Q:L3 WP)(R9:OA->OA->Int->Int->Int->L3 (Int->L3 (Int->Int->L3 (Int->Int->WP))))(a b:OA)(c d e:Int)(f:OA)(g i:Nat)(j:Int)(l:OA)(m n:Nat)(o p:Int)(q:OA)(r s:Nat)(t u:Int)(w:World):Prop:=cond (decide (u<t)) (aJ u r<|wA q λv=>af .i64 ((v.add (u.toNat*2)).add 0) w λx=>af .i64 ((v.add (u.toNat*2)).add 1) w λy=>Al T 292 w λz w=>St (z.add 0) (ae x) w λw=>St (z.add 1) (ae y) w λw=>af .i64 z w λa1=>z6 b a1 w λb1 w=>cond (b1 !=1099511627776) (af .i64 z w.drew λc1=>af .i64 (z.add 1) w.drew λd1=>nf d e j w.drew λe1 w=>w.cell? (z.add 1)=some (ae d1)/\w.cell? z=some (ae c1)/\EL d e j c1 w λf1 w=>w.cell? (z.add 1)=some (ae d1)/\Bx [ae e1,ae f1,ae (IntKind.wrap .i64 (d1+b1))] 294 w λg1 w=>App P #[278,278] 278 (.slice f g i) (.slice (some g1) 1 1) w λi1 j1 l1 w=>R9 a b c d e i1 j1 l1 j l m n o p q r s t (IntKind.wrap .i64 (u+1)) w) (R9 a b c d e f g i j l m n o p q r s t (IntKind.wrap .i64 (u+1)) w)) (P6 a b c d e f g i l m n o (IntKind.wrap .i64 (p+1)) w)
def qP (P6:OA->OA->Int->Int->Int->L3 (L3 (Int->Int->WP)))(Q:L3 WP):Nat->OA->OA->Int->Int->Int->L3 (Int->L3 (Int->Int->L3 (Int->Int->WP)))
 |0,_,_,_,_,_,_,_,_,_,_,_,_,_,_,_,_,_,_,_,_=>False
 |k+1,a,b,c,d,e,f,g,i,j,l,m,n,o,p,q,r,s,t,u,w=>u_ P6 Q (qP P6 Q k) a b c d e f g i j l m n o p q r s t u w
def vg (Q:L3 WP)(R6:OA->OA->Int->Int->Int->L3 (L3 (Int->Int->WP)))(a b:OA)(c d e:Int)(f:OA)(g i:Nat)(j:OA)(l m:Nat)(n o:Int)(w:World):Prop:=cond (decide (o<n)) (aJ o l<|wA j λp=>af .i64 (p.add (o.toNat*1)) w λq=>BY a q w λr s t w=>∃k',qP R6 Q k' a b c d e f g i q j l m n o r s t (s:Int) 0 w) (xW b w λu w=>dY d e u w λv w=>cond (v==c) (e_ a u w λx w=>cond (x !=255) (nf d e u w λy w=>Bx [ae y,ae 4,ae 0] 294 w λz w=>App P #[278,278] 278 (.slice f g i) (.slice (some z) 1 1) w λa1 b1 c1 w=>kE a1 b1 c1 w λd1 e1 f1 w=>Q d1 e1 f1 w) (kE f g i w λg1 i1 j1 w=>Q g1 i1 j1 w)) (kE f g i w λl1 m1 n1 w=>Q l1 m1 n1 w))
def nY (Q:L3 WP):Nat->OA->OA->Int->Int->Int->L3 (L3 (Int->Int->WP))
 |0,_,_,_,_,_,_,_,_,_,_,_,_,_,_=>False
 |k+1,a,b,c,d,e,f,g,i,j,l,m,n,o,w=>vg Q (nY Q k) a b c d e f g i j l m n o w
noncomputable def DF:cv:=[(13,sp 0 4 (sp 5 5 (sp 11 4 (.op 4 (.op 10 (.op 15 (.op 16 (.op 17 (.op 18 .done)))))))))]
def ZE {P6}(Q)(H6:Bk 96 Tryz.f162 (z0 Q) 6 [(0,.p),(1,.p),(2,.i .i64),(7,.i .i64),(8,.i .i64),(9,.l),(32,.l),(33,.i .i64),(34,.i .i64)] P6):∀k,Bk 96 Tryz.f162 (z0 Q) 9 [(0,.p),(1,.p),(2,.i .i64),(7,.i .i64),(8,.i .i64),(9,.l),(11,.i .i64),(32,.l),(33,.i .i64),(34,.i .i64),(40,.l),(41,.i .i64),(42,.i .i64)] (qP P6 Q k):=bK λk h=>aU (ok 96) DF [aM H6,aM h]
def ZF (Q):∀k,Bk 96 Tryz.f162 (z0 Q) 6 [(0,.p),(1,.p),(2,.i .i64),(7,.i .i64),(8,.i .i64),(9,.l),(32,.l),(33,.i .i64),(34,.i .i64)] (nY Q k):=bK λk h=>aU (ok 96) DF [ct (ZE Q h)]
def VH:=λa b c w Q=>bB (BX a b c w Q) (eM a w λd e w=>cond b.isNone (Q none 0 0 w) (wu b w λf w=>fZ a w λg w=>cond (f !=g) (Q none 0 0 w) (n_ a c w λi j l w=>∃k',nY Q k' a b c d e none 0 0 i j l (j:Int) 0 w))) (ok 96) DF [ct (ZF Q)] Tryz.func162
def MH:=λa b w Q=>bB (ja a b w Q) (cond a.isNone (Q 0 w) (cond (decide (b<0)) (Q 0 w) (wA a λc=>aA (c.add 4) w λd e f=>cond (decide (b≥(e:Int))) (Q 0 w) (wA a λg=>aA (g.add 4) w λi j l=>aJ b j<|wA i λm=>af .i64 (m.add (b.toNat*1)) w λn=>Q n w)))) (ok 27) [] [] Tryz.func165
def qA (Q:L3 WP)(R5:OA->L3 (Int->Int->WP))(a b:OA)(c d:Nat)(e f:Int)(w:World):Prop:=cond (decide (f<e)) (wA a λg=>aA (g.add 1) w.drew λi j l=>aJ f j<|wA i λm=>af .i64 (m.add (f.toNat*3)) w.drew λn=>wA a λo=>bg o w.drew λp=>ja p f w.drew λq w=>w.cell? (m.add (f.toNat*3))=some (ae n)/\w.cell? (g.add 1)=some (.slice i j l)/\cond (n !=q) (Bx [ae f] 3 w λr w=>App P #[29,29] 29 (.slice b c d) (.slice (some r) 1 1) w λs t u w=>R5 a s t u e (IntKind.wrap .i64 (f+1)) w) (R5 a b c d e (IntKind.wrap .i64 (f+1)) w)) (Q b c d w)
def nE (Q:L3 WP):Nat->OA->L3 (Int->Int->WP)
 |0,_,_,_,_,_,_,_=>False
 |k+1,a,b,c,d,e,f,w=>qA Q (nE Q k) a b c d e f w
noncomputable def Gh:cv:=[(1,sp 0 11 (.op 11 (sp 12 2 .done))),(7,sp 0 13 (.op 13 (.op 14 .done)))]
def Us (Q):∀k,Bk 48 Tryz.f199 (G_ Q) 5 [(0,.p),(3,.l),(23,.i .i64),(24,.i .i64)] (nE Q k):=bK λk h=>aU (ok 48) Gh [aM h]
def Qi:=λa w Q=>bB (yU a w Q) (cond a.isNone (Q none 0 0 w.drew) (wA a λb=>af .i64 (b.add 2) w.drew λc=>wA a λd=>bg d w.drew λe=>fZ e w.drew λf w=>w.cell? (b.add 2)=some (ae c)/\cond (c==f) (Q none 0 0 w) (wA a λg=>aA (g.add 1) w λi j l=>∃k',nE Q k' a none 0 0 (j:Int) 0 w))) (ok 48) Gh [ct (Us Q)] Tryz.func199
def agt:=λa b c d e f w Q=>bB (Jv a b c d e f w Q) (Bx [ae a,ae b,.slice c d e] 84 w λg w=>cond (decide (f≥0)) (aA (g.add 2) w λi j l=>cond (decide (f<(j:Int))) (af .i64 (g.add 0) w λm=>af .i64 (g.add 1) w λn=>aA (g.add 2) w λo p q=>uJ m n o p q w λr w=>Q r w) (Q false w)) (Q false w)) (ok 18) [] [] Tryz.func279
def agu:=λa b c d e f w Q=>bB (Ju a b c d e f w Q) (Bx [ae a,ae b,.slice c d e] 84 w λg w=>af .i64 (g.add 0) w λi=>af .i64 (g.add 1) w λj=>aA (g.add 2) w λl m n=>Jv i j l m n f w λo w=>cond (!o) (Q 0 w) (aA (g.add 2) w λp q r=>aJ f q<|wA p λs=>af .u8 (s.add (f.toNat*1)) w λt=>Q (IntKind.wrap .i64 t) w)) (ok 15) [] [] Tryz.func270
def AN (Q:Bool->WP)(R2:L3 (Addr->L3 (Int->Int->WP)))(a:OA)(b c:Nat)(d:Addr)(e:OA)(f g:Nat)(i j:Int)(w:World):Prop:=cond (decide (j<i)) (aJ j f<|wA e λl=>af .i64 (l.add (j.toNat*1)) w λm=>af .i64 (d.add 0) w λn=>af .i64 (d.add 1) w λo=>aA (d.add 2) w λp q r=>Ju n o p q r m w λs w=>cond (s==0) (Q false w) (cond (s==255) (Q false w) (cond (decide (j>0)) (aJ (IntKind.wrap .i64 (j-1)) b<|wA a λt=>af .i64 (t.add (((IntKind.wrap .i64 (j-1))).toNat*1)) w λu=>cond (decide (m<=u)) (Q false w) (R2 a b c d e f g i (IntKind.wrap .i64 (j+1)) w)) (R2 a b c d e f g i (IntKind.wrap .i64 (j+1)) w)))) (af .i64 (d.add 0) w λv=>af .i64 (d.add 1) w λx=>aA (d.add 2) w λy z a1=>uJ v x y z a1 w λb1 w=>Q b1 w)
def wN (Q:Bool->WP):Nat->L3 (Addr->L3 (Int->Int->WP))
 |0,_,_,_,_,_,_,_,_,_,_=>False
 |k+1,a,b,c,d,e,f,g,i,j,w=>AN Q (wN Q k) a b c d e f g i j w
def agv (Q):∀k,Bk 40 Tryz.f254 (Tr Q) 2 [(1,.l),(2,.a),(8,.l),(9,.i .i64),(10,.i .i64)] (wN Q k):=bK λk h=>aU (ok 40) [] [aM h]
def abo:=λa b c d e f g i w Q=>bB (Gc a b c d e f g i w Q) (Bx [ae a,ae b,.slice c d e] 84 w λj w=>∃k',wN Q k' f g i j f g i (g:Int) 0 w) (ok 40) [] [ct (agv Q)] Tryz.func254
def gg (Q:Int->WP)(R2:L3 (Value->Int->Int->WP))(a:OA)(b c:Nat)(d:Value)(e f:Int)(w:World):Prop:=cond (decide (f<e)) (aJ f b<|wA a λg=>af .i64 ((g.add (f.toNat*3)).add 0) w λi=>af .i64 ((g.add (f.toNat*3)).add 1) w λj=>af .i64 ((g.add (f.toNat*3)).add 2) w λl=>h_ (cx 19) d [.agg #[ae i,ae j,ae l]] w λm w=>dB m λn=>cond n (Q f w) (R2 a b c d e (IntKind.wrap .i64 (f+1)) w)) (Q (-1) w)
def e7 (Q:Int->WP):Nat->L3 (Value->Int->Int->WP)
 |0,_,_,_,_,_,_,_=>False
 |k+1,a,b,c,d,e,f,w=>gg Q (e7 Q k) a b c d e f w
def A8 (Q):∀k,Bk 19 Tryz.f233 (qx Q) 2 [(0,.l),(1,.v),(7,.i .i64),(8,.i .i64)] (e7 Q k):=bK λk h=>aU (ok 19) [] [aM h]
def Ai:=λa b c d w Q=>bB (o_ a b c d w Q) (∃k',e7 Q k' a b c d (b:Int) 0 w) (ok 19) [] [ct (A8 Q)] Tryz.func233
def yj:=λa b c d w Q=>bB (nT a b c d w Q) (o_ a b c d w λe w=>Q (decide (e≥0)) w) (ok 9) [] [] Tryz.func209
noncomputable def adC:cv:=[(1,sp 0 8 (.op 8 (.op 9 .done)))]
def abp:=λa b c d e f g w Q=>bB (Gb a b c d e f g w Q) (Bx [ae a,ae b,.slice c d e] 84 w λi w=>af .i64 i w.drew λj=>NZ j<|af .i64 i w.drew λl=>NZ l<|w.drew.cell? i=some (ae l)/\cond (g==0) (Q ((IntKind.wrap .i64 (Int.tdiv f l))==0) w.drew) (cond (g==1) (af .i64 i w.drew λm=>Q ((Int.tmod f j)==(IntKind.wrap .i64 (m-1))) w.drew) (cond (g==2) (af .i64 (i.add 1) w.drew λn=>Q ((IntKind.wrap .i64 (Int.tdiv f l))==(IntKind.wrap .i64 (n-1))) w.drew) (cond (g==3) (Q ((Int.tmod f j)==0) w.drew) (Q (g==4) w.drew))))) (ok 42) adC [] Tryz.func211
def XZ:=λa b c d w Q=>bB (DC a b c d w Q) (Bx [ae a,ae b,ae c] 294 w λe w=>af .i64 e w λf=>cond (decide (f<0)) (Q true w) (af .i64 e w λg=>wA d λi=>aA (i.add 2) w λj l m=>cond (decide (g≥(l:Int))) (Q true w) (wA d λn=>aA (n.add 2) w λo p q=>af .i64 e w λr=>aJ r p<|wA o λs=>af .u8 (s.add (r.toNat*1)) w λt=>cond (t==255) (Q true w) (af .i64 (e.add 2) w λu=>cond (decide (u<0)) (Q true w) (af .i64 (e.add 2) w λv=>cond (decide (v>1073741824)) (Q true w) (wA d λx=>af .i64 (x.add 0) w λy=>af .i64 (x.add 1) w λz=>aA (x.add 2) w λa1 b1 c1=>af .i64 e w λd1=>af .i64 (e.add 1) w λe1=>Gb y z a1 b1 c1 d1 e1 w λf1 w=>Q (!f1) w)))))) (ok 43) [] [] Tryz.func210
def abq:=λa b c d e f g i w Q=>bB (Bh a b c d e f g i w Q) (Bx [ae a,ae b,.slice c d e] 84 w λj w=>af .i64 (j.add 0) w λl=>af .i64 (j.add 1) w λm=>aA (j.add 2) w λn o p=>uJ l m n o p w λq w=>cond (!q) (Q false w) (nT f g i (.func (.func 210) #[] #[.pointer (some j)]) w λr w=>Q (!r) w)) (ok 12) [] [] Tryz.func179
def adD:=λa w Q=>bB (CL a w Q) (cond (decide (a<0)) (Q none w) (cond (decide (a>1099511627776)) (Q none w) (Bx [ae a,ae 0,.slice none 0 0,ae 0,.slice none 0 0,ae 0,.slice none 0 0,ae 0,.slice none 0 0,ae 0,.slice none 0 0,ae 0,.slice none 0 0,ae 0,.slice none 0 0,ae 0,.slice none 0 0,ae 0,.slice none 0 0,ae 0,.slice none 0 0,ae 0,.slice none 0 0,ae 0,.slice none 0 0,ae 0,.slice none 0 0,ae 0,.slice none 0 0,ae 0,.slice none 0 0,ae 0,.slice none 0 0,ae 0,.slice none 0 0,ae 0,.slice none 0 0,ae 0,.slice none 0 0,ae 0,.slice none 0 0,ae 0,.slice none 0 0,ae 0,.slice none 0 0,ae 0,.slice none 0 0,ae 0,.slice none 0 0,ae 0,.slice none 0 0,ae 0,.slice none 0 0,ae 0,.slice none 0 0,ae 0,.slice none 0 0,ae 0,.slice none 0 0,ae 0,.slice none 0 0,ae 0,.slice none 0 0,ae 0,.slice none 0 0,ae 0,.slice none 0 0,ae 0,.slice none 0 0,ae 0,.slice none 0 0,ae 0,.slice none 0 0,ae 0,.slice none 0 0,ae 0,.slice none 0 0,ae 0,.slice none 0 0,ae 0,.slice none 0 0,ae 0,.slice none 0 0,ae 0,.slice none 0 0,ae 0,.slice none 0 0,ae 0,.slice none 0 0,ae 0,.slice none 0 0,ae 0,.slice none 0 0,ae 0,.slice none 0 0,ae 0,.slice none 0 0,ae 0,.slice none 0 0,ae 0,.slice none 0 0,ae 0,.slice none 0 0,ae 0,.slice none 0 0,ae 0,.slice none 0 0,ae 0,.slice none 0 0,ae 0,.slice none 0 0,ae 0,.slice none 0 0,ae 0,.slice none 0 0,ae 0,.slice none 0 0,ae 0,.slice none 0 0,ae 0,.slice none 0 0,ae 0,.slice none 0 0,ae 0,.slice none 0 0,ae 0,.slice none 0 0,ae 0,.slice none 0 0,ae 0,.slice none 0 0,ae 0,.slice none 0 0,ae 0,.slice none 0 0,ae 0,.slice none 0 0,ae 0,.slice none 0 0,ae 0,.slice none 0 0,ae 0,.slice none 0 0,ae 0,.slice none 0 0,ae 0,.slice none 0 0,ae 0,.slice none 0 0,ae 0,.slice none 0 0,ae 0,.slice none 0 0,ae 0,.slice none 0 0,ae 0,.slice none 0 0,ae 0,.slice none 0 0,ae 0,.slice none 0 0,ae 0,.slice none 0 0,ae 0,.slice none 0 0,ae 0,.slice none 0 0,ae 0,.slice none 0 0,ae 0,.slice none 0 0,ae 0,.slice none 0 0,ae 0,.slice none 0 0,ae 0,.slice none 0 0,ae 0,.slice none 0 0,ae 0,.slice none 0 0,ae 0,.slice none 0 0,ae 0,.slice none 0 0,ae 0,.slice none 0 0,ae 0,.slice none 0 0,ae 0,.slice none 0 0,ae 0,.slice none 0 0,ae 0,.slice none 0 0,ae 0,.slice none 0 0,ae 0,.slice none 0 0,ae 0,.slice none 0 0,ae 0,.slice none 0 0,ae 0,.slice none 0 0,ae 0,.slice none 0 0,ae 0,.slice none 0 0,ae 0,.slice none 0 0,ae 0,.slice none 0 0,ae 0,.slice none 0 0,ae 0,.slice none 0 0,ae 0,.slice none 0 0,ae 0,.slice none 0 0,ae 0,.slice none 0 0,ae 0,.slice none 0 0,ae 0,.slice none 0 0,ae 0,.slice none 0 0,ae 0,.slice none 0 0,ae 0,.slice none 0 0,ae 0,.slice none 0 0,ae 0,.slice none 0 0,ae 0,.slice none 0 0,ae 0,.slice none 0 0,ae 0,.slice none 0 0,ae 0,.slice none 0 0,ae 0,.slice none 0 0,ae 0,.slice none 0 0,ae 0,.slice none 0 0,ae 0,.slice none 0 0,ae 0,.slice none 0 0,ae 0,.slice none 0 0,ae 0,.slice none 0 0,ae 0,.slice none 0 0,ae 0,.slice none 0 0,ae 0,.slice none 0 0,ae 0,.slice none 0 0,ae 0,.slice none 0 0,ae 0,.slice none 0 0,ae 0,.slice none 0 0,ae 0,.slice none 0 0,ae 0,.slice none 0 0,ae 0,.slice none 0 0,ae 0,.slice none 0 0,ae 0,.slice none 0 0,ae 0,.slice none 0 0,ae 0,.slice none 0 0,ae 0,.slice none 0 0,ae 0,.slice none 0 0,ae 0,.slice none 0 0,ae 0,.slice none 0 0,ae 0,.slice none 0 0,ae 0,.slice none 0 0,ae 0,.slice none 0 0,ae 0,.slice none 0 0,ae 0,.slice none 0 0,ae 0,.slice none 0 0,ae 0,.slice none 0 0,ae 0,.slice none 0 0,ae 0,.slice none 0 0,ae 0,.slice none 0 0,ae 0,.slice none 0 0,ae 0,.slice none 0 0,ae 0,.slice none 0 0,ae 0,.slice none 0 0,ae 0,.slice none 0 0,ae 0,.slice none 0 0,ae 0,.slice none 0 0,ae 0,.slice none 0 0,ae 0,.slice none 0 0,ae 0,.slice none 0 0,ae 0,.slice none 0 0,ae 0,.slice none 0 0,ae 0,.slice none 0 0,ae 0,.slice none 0 0,ae 0,.slice none 0 0,ae 0,.slice none 0 0,ae 0,.slice none 0 0,ae 0,.slice none 0 0,ae 0,.slice none 0 0,ae 0,.slice none 0 0,ae 0,.slice none 0 0,ae 0,.slice none 0 0,ae 0,.slice none 0 0,ae 0,.slice none 0 0,ae 0,.slice none 0 0,ae 0,.slice none 0 0,ae 0,.slice none 0 0,ae 0,.slice none 0 0,ae 0,.slice none 0 0,ae 0,.slice none 0 0,ae 0,.slice none 0 0,ae 0,.slice none 0 0,ae 0,.slice none 0 0,ae 0,.slice none 0 0,ae 0,.slice none 0 0,ae 0,.slice none 0 0,ae 0,.slice none 0 0,ae 0,.slice none 0 0,ae 0,.slice none 0 0,ae 0,.slice none 0 0,ae 0,.slice none 0 0,ae 0,.slice none 0 0,ae 0,.slice none 0 0,ae 0,.slice none 0 0,ae 0,.slice none 0 0,ae 0,.slice none 0 0,ae 0,.slice none 0 0,ae 0,.slice none 0 0,ae 0,.slice none 0 0,ae 0,.slice none 0 0,ae 0,.slice none 0 0,ae 0,.slice none 0 0,ae 0,.slice none 0 0,ae 0,.slice none 0 0,ae 0,.slice none 0 0,ae 0,.slice none 0 0,ae 0,.slice none 0 0,ae 0,.slice none 0 0,ae 0,.slice none 0 0,ae 0,.slice none 0 0,ae 0,.slice none 0 0,ae 0,.slice none 0 0,ae 0,.slice none 0 0,ae 0,.slice none 0 0,ae 0,.slice none 0 0,ae 0,.slice none 0 0,ae 0,.slice none 0 0,ae 0,.slice none 0 0,ae 0,.slice none 0 0,ae 0,.slice none 0 0,ae 0,.slice none 0 0,ae 0,.slice none 0 0,ae 0,.slice none 0 0,ae 0,.slice none 0 0,ae 0,.slice none 0 0,ae 0,.slice none 0 0,ae 0,.slice none 0 0,ae 0,.slice none 0 0,ae 0,.slice none 0 0,ae 0,.slice none 0 0,ae 0,.slice none 0 0,ae 0,.slice none 0 0,ae 0,.slice none 0 0,ae 0,.slice none 0 0,ae 0,.slice none 0 0,ae 0,.slice none 0 0,ae 0,.slice none 0 0,ae 0,.slice none 0 0,ae 0,.slice none 0 0,ae 0,.slice none 0 0,ae 0,.slice none 0 0,ae 0,.slice none 0 0,ae 0,.slice none 0 0,ae 0,.slice none 0 0,ae 0,.slice none 0 0,ae 0,.slice none 0 0,ae 0,.slice none 0 0,ae 0,.slice none 0 0,ae 0,.slice none 0 0,ae 0] 388 w λb w=>Q (some b) w))) (ok 12) [] [] Tryz.func234
def lG (Q:L3 WP)(R8:L3 (Int->WP))(a:OA)(b c:Nat)(d:Int)(w:World):Prop:=cond (decide (d<(b:Int))) (bU a b c 1 (some d) none λe f g=>bU a b c 1 none (some d) λi j l=>cH P #[29,29] 3 (.slice e f g) (.slice i j l) w.drew λm w=>R8 a b c (IntKind.wrap .i64 (d+m)) w) (Q a b c w)
def lH (Q:L3 WP):Nat->L3 (Int->WP)
 |0,_,_,_,_,_=>False
 |k+1,a,b,c,d,w=>lG Q (lH Q k) a b c d w
def uk (Q:L3 WP)(a:OA)(b c:Nat)(d:Int)(w:World):Prop:=False
noncomputable def sQ:cv:=[(9,sp 0 7 (.op 7 (.op 8 (.op 9 .done))))]
def Bl (Q):∀k,Bk 48 Tryz.f235 (tY Q) 8 [(7,.l),(8,.i .i64)] (lH Q k):=bK λk h=>aU (ok 48) sQ [aM h]
def Kg (Q):Bk 48 Tryz.f235 (tY Q) 5 [(0,.l),(6,.i .u64)] (uk Q):=aU (ok 48) sQ [ct (Bl Q)]
def IZ:=λa b c d w Q=>bB (j_ a b c d w Q) (cond (decide (d<0)) (False) (qw (IntKind.wrap .u64 (b:Int)) (IntKind.wrap .u64 d) w λe f w=>cond (decide (e>0)) (uk Q a b c f w) (cond (decide (f>9223372036854775807)) (uk Q a b c f w) (cA P 29 (ae (IntKind.wrap .i64 f)) (ae (IntKind.wrap .i64 f)) w λg i j w=>cH P #[29,29] 3 (.slice g i j) (.slice a b c) w λl w=>∃k',lH Q k' g i j l w)))) (ok 48) sQ [aM (Kg Q),ct (Bl Q)] Tryz.func235
def Ut:=λa w Q=>bB (qz a w Q) (cond a.isNone (Q 0 w) (wA a λb=>af .i64 (b.add 1) w λc=>Q c w)) (ok 9) [] [] Tryz.func260
def Sf:=λa b w Q=>bB (Ad a b w Q) (cond a.isNone (Q false w) (wA a λc=>af .i64 (c.add 1) w λd=>cond (decide (d>0)) (Q false w) (wA a λe=>af .i64 e w λf=>cond (decide (b<f)) (Q false w) (cond (decide (b>1099511627776)) (Q false w) (wA a λg=>St g (ae b) w λw=>Q true w))))) (ok 30) [] [] Tryz.func272
def Qj:=λa b w Q=>bB (yZ a b w Q) (wA a λc=>aA c w λd e f=>Bx [ae b] 3 w λg w=>App P #[29,29] 29 (.slice d e f) (.slice (some g) 1 1) w λi j l w=>wA a λm=>St m (.slice i j l) w λw=>Q w) (ok 14) [] [] Tryz.func282
def Uu:=λa b c w Q=>bB (vF a b c w Q) (cond a.isNone (Q false w) (wA a λd=>af .i64 d w λe=>cond (decide (b<e)) (Q false w) (wA a λf=>af .i64 f w λg=>cond (decide ((IntKind.wrap .i64 (b-g))≥256)) (Q false w) (NZ 256<|wA a λi=>aJ (Int.tmod b 256) 256<|yZ (some ((i.add 2).add (((Int.tmod b 256)).toNat*2))) c w λw=>wA a λj=>af .i64 (j.add 1) w λl=>wA a λm=>St (m.add 1) (ae (IntKind.wrap .i64 (l+1))) w λw=>Q true w)))) (ok 41) [] [] Tryz.func273
def xZ (Q:WP)(R2:OA->WP)(a:OA)(w:World):Prop:=wA a λb=>aA (b.add 4) w.drew λc d e=>cond (decide ((d:Int)>0)) (wA a λf=>bg (f.add 3) w.drew λg=>wA a λi=>aA (i.add 4) w.drew λj l m=>aJ 0 l<|wA j λn=>af .i64 ((n.add (((0:Int).toNat)*3)).add 2) w.drew λo=>wA a λp=>aA (p.add 4) w.drew λq r s=>aJ 0 r<|wA q λt=>af .i64 (t.add (((0:Int).toNat)*3)) w.drew λu=>vF g o u w.drew λv w=>cond v (wA a λx=>aA (x.add 4) w λy z a1=>bU y z a1 3 (some 1) none λb1 c1 d1=>wA a λe1=>St (e1.add 4) (.slice b1 c1 d1) w λw=>R2 a w) (Q w)) (Q w.drew)
def gy (Q:WP):Nat->OA->WP
 |0,_,_=>False
 |k+1,a,w=>xZ Q (gy Q k) a w
noncomputable def Dj:cv:=[(1,sp 0 11 (.op 11 .done)),(2,sp 0 25 (.op 25 (.op 26 .done)))]
def Oz (Q):∀k,Bk 63 Tryz.f259 (DY Q) 2 [(0,.p)] (gy Q k):=bK λk h=>aU (ok 63) Dj [aM h]
def Le:=λa w Q=>bB (jM a w Q) (wA a λb=>aA (b.add 4) w λc d e=>cond (decide ((d:Int)>0)) (wA a λf=>bg (f.add 3) w λg=>qz g w λi w=>cond (i==0) (wA a λj=>bg (j.add 3) w.drew λl=>wA a λm=>aA (m.add 4) w.drew λn o p=>aJ 0 o<|wA n λq=>af .i64 ((q.add (((0:Int).toNat)*3)).add 2) w.drew λr=>Ad l r w.drew λs w=>∃k',gy Q k' a w) (∃k',gy Q k' a w)) (∃k',gy Q k' a w)) (ok 63) Dj [ct (Oz Q)] Tryz.func259
noncomputable def OB:cv:=[(1,sp 0 10 (.op 10 .done))]
def MI:=λa w Q=>bB (qp a w Q) (wA a λb=>af .i64 (b.add 1) w.drew λc=>wA a λd=>aA d w.drew λe f g=>Q (c==(f:Int)) w.drew) (ok 13) OB [] Tryz.func274
noncomputable def Sg:cv:=[(1,sp 0 10 (.op 10 .done))]
def Qk:=λa w Q=>bB (yX a w Q) (wA a λb=>aA b w.drew λc d e=>wA a λf=>af .i64 (f.add 1) w.drew λg=>aJ g d<|wA c λi=>af .i64 (i.add (g.toNat*1)) w.drew λj=>wA a λl=>af .i64 (l.add 1) w.drew λm=>wA a λn=>St (n.add 1) (ae (IntKind.wrap .i64 (m+1))) w.drew λw=>qp a w λo w=>cond o (wA a λp=>aA p w λq r s=>bU q r s 1 none (some 0) λt u v=>wA a λx=>St x (.slice t u v) w λw=>wA a λy=>St (y.add 1) (ae 0) w λw=>Q j w) (Q j w)) (ok 35) Sg [] Tryz.func275
def DG (Q:Int->Int->Bool->WP)(R3:OA->WP)(a:OA)(w:World):Prop:=wA a λb=>af .i64 b w.drew λc=>NZ 256<|wA a λd=>aJ (Int.tmod c 256) 256<|qp (some ((d.add 2).add (((Int.tmod c 256)).toNat*2))) w.drew λe w=>cond e (wA a λf=>af .i64 f w λg=>wA a λi=>St i (ae (IntKind.wrap .i64 (g+1))) w λw=>R3 a w) (wA a λj=>af .i64 (j.add 1) w λl=>wA a λm=>St (m.add 1) (ae (IntKind.wrap .i64 (l-1))) w λw=>wA a λn=>af .i64 n w.drew λo=>wA a λp=>af .i64 p w.drew λq=>NZ 256<|wA a λr=>aJ (Int.tmod q 256) 256<|yX (some ((r.add 2).add (((Int.tmod q 256)).toNat*2))) w.drew λs w=>w.cell? n=some (ae o)/\Q o s true w)
def pR (Q:Int->Int->Bool->WP):Nat->OA->WP
 |0,_,_=>False
 |k+1,a,w=>DG Q (pR Q k) a w
noncomputable def I0:cv:=[(3,sp 0 9 (.op 9 .done)),(6,sp 0 13 (.op 13 (.op 14 (.op 15 (.op 16 .done)))))]
def X0 (Q):∀k,Bk 46 Tryz.f261 (JS Q) 3 [(0,.p)] (pR Q k):=bK λk h=>aU (ok 46) I0 [aM h]
def Uv:=λa w Q=>bB (A4 a w Q) (qz a w λb w=>cond (b==0) (Q 0 0 false w) (∃k',pR Q k' a w)) (ok 46) I0 [ct (X0 Q)] Tryz.func261
def Kh:=λa b c w Q=>bB (ir a b c w Q) (wA a λd=>aA (d.add 2) w λe f g=>aJ b f<|wA e λi=>af .u8 (i.add (b.toNat*1)) w λj=>cond (j !=255) (wA a λl=>aA (l.add 5) w λm n o=>aJ b n<|wA m λp=>af .i64 (p.add (b.toNat*1)) w λq=>cond (q==1099511627776) (wA a λr=>bg (r.add 3) w λs=>vF s c b w λt w=>Q w) (Q w)) (Q w)) (ok 32) [] [] Tryz.func276
def mg (Q:WP)(a:OA)(b c d:Int)(w:World):Prop:=cond (decide (d>0)) (ir a (IntKind.wrap .i64 (b-1)) c w λw=>Q w) (Q w)
def pC (Q:WP)(a:OA)(b c d e:Int)(w:World):Prop:=wA a λf=>af .i64 (f.add 1) w λg=>cond (decide (e<(IntKind.wrap .i64 (g-1)))) (wA a λi=>af .i64 i w λj=>ir a (IntKind.wrap .i64 (b+j)) c w λw=>mg Q a b c d w) (mg Q a b c d w)
def pD (Q:WP)(a:OA)(b c d e:Int)(w:World):Prop:=wA a λf=>af .i64 f w λg=>cond (decide (d<(IntKind.wrap .i64 (g-1)))) (ir a (IntKind.wrap .i64 (b+1)) c w λw=>pC Q a b c d e w) (pC Q a b c d e w)
noncomputable def oN:cv:=[(0,sp 0 17 (.op 17 .done)),(1,sp 0 14 (.op 14 (.op 15 .done)))]
def Lg (Q):Bk 88 Tryz.f262 (pe Q) 8 [(0,.p),(1,.i .i64),(4,.i .i64),(5,.i .i64)] (mg Q):=aU (ok 88) oN []
def Lh (Q):Bk 88 Tryz.f262 (pe Q) 6 [(0,.p),(1,.i .i64),(4,.i .i64),(5,.i .i64),(6,.i .i64)] (pC Q):=aU (ok 88) oN [aM (Lg Q)]
def Lj (Q):Bk 88 Tryz.f262 (pe Q) 4 [(0,.p),(1,.i .i64),(4,.i .i64),(5,.i .i64),(6,.i .i64)] (pD Q):=aU (ok 88) oN [aM (Lh Q)]
def JF:=λa b w Q=>bB (sM a b w Q) (wA a λc=>aA (c.add 5) w.drew λd e f=>aJ b e<|wA d λg=>af .i64 (g.add (b.toNat*1)) w.drew λi=>wA a λj=>aA (j.add 2) w.drew λl m n=>aJ b m<|wA l λo=>af .u8 (o.add (b.toNat*1)) w.drew λp=>wA a λq=>af .i64 q w.drew.drew λr=>NZ r<|wA a λs=>af .i64 s w.drew.drew λt=>NZ t<|w.drew.drew.cell? s=some (ae t)/\cond (decide ((IntKind.wrap .i64 (Int.tdiv b t))>0)) (wA a λu=>af .i64 u w.drew.drew λv=>ir a (IntKind.wrap .i64 (b-v)) (IntKind.wrap .i64 (i+(IntKind.wrap .i64 p))) w.drew.drew λw=>pD Q a b (IntKind.wrap .i64 (i+(IntKind.wrap .i64 p))) (Int.tmod b r) (IntKind.wrap .i64 (Int.tdiv b t)) w) (pD Q a b (IntKind.wrap .i64 (i+(IntKind.wrap .i64 p))) (Int.tmod b r) (IntKind.wrap .i64 (Int.tdiv b t)) w.drew.drew)) (ok 88) oN [aM (Lj Q)] Tryz.func262
def zh (Q:WP)(R1:OA->WP)(a:OA)(w:World):Prop:=wA a λb=>bg (b.add 3) w λc=>qz c w λd w=>cond (decide (d>0)) (wA a λe=>bg (e.add 3) w λf=>A4 f w λg i j w=>wA a λl=>aA (l.add 5) w λm n o=>aJ i n<|wA m λp=>af .i64 (p.add (i.toNat*1)) w λq=>cond (q==1099511627776) (wA a λr=>aA (r.add 5) w λs t u=>aJ i t<|wA s λv=>St (v.add (i.toNat*1)) (ae g) w λw=>sM a i w λw=>jM a w λw=>R1 a w) (jM a w λw=>R1 a w)) (Q w)
def jO (Q:WP):Nat->OA->WP
 |0,_,_=>False
 |k+1,a,w=>zh Q (jO Q k) a w
def Ql (Q):∀k,Bk 42 Tryz.f236 (Fi Q) 1 [(0,.p)] (jO Q k):=bK λk h=>aU (ok 42) [] [aM h]
def MJ:=λa w Q=>bB (Df a w Q) (jM a w λw=>∃k',jO Q k' a w) (ok 42) [] [ct (Ql Q)] Tryz.func236
def qQ (Q:L3 (Int->WP))(a:Addr)(w:World):Prop:=Df (some a) w λw=>aA (a.add 5) w λb c d=>Q b c d 0 w
noncomputable def JU:cv:=[(3,.op 0 (.op 2 (sp 5 3 (.br (.op 1 (.br (.op 3 (.op 4 (.op 8 (.op 9 (.op 10 (.op 11 .done)))))) (.op 4 (.op 3 (.op 8 (.op 9 (.op 10 (.op 11 .done)))))))) (.op 4 (.op 1 (.op 3 (.op 8 (.op 9 (.op 10 (.op 11 .done)))))))))))]
def ZG (Q):Bk 28 Tryz.f216 (K_ Q) 4 [(6,.a)] (qQ Q):=aU (ok 28) JU []
def VI:=λa b c d e f g i w Q=>bB (w_ a b c d e f g i w Q) (Bx [ae a,ae b,.slice c d e] 84 w λj w=>af .i64 (j.add 0) w λl=>af .i64 (j.add 1) w λm=>aA (j.add 2) w λn o p=>Bh l m n o p f g i w λq w=>cond (!q) (Q none 0 0 1 w) (af .i64 (j.add 0) w.drew λr=>af .i64 (j.add 1) w.drew λs=>aA (j.add 2) w.drew λt u v=>aA (j.add 2) w.drew λx y z=>(CL 0 w.drew λa1 w=>w.cell? (j.add 2)=some (.slice x y z)/\w.cell? (j.add 0)=some (ae r)/\w.cell? (j.add 1)=some (ae s)/\w.cell? (j.add 2)=some (.slice t u v)/\(kE f g i w λb1 c1 d1 w=>w.cell? (j.add 2)=some (.slice x y z)/\w.cell? (j.add 0)=some (ae r)/\w.cell? (j.add 1)=some (ae s)/\w.cell? (j.add 2)=some (.slice t u v)/\Bx [ae 1099511627776] 3 w λe1 w=>w.cell? (j.add 2)=some (.slice x y z)/\w.cell? (j.add 0)=some (ae r)/\w.cell? (j.add 1)=some (ae s)/\w.cell? (j.add 2)=some (.slice t u v)/\j_ (some e1) 1 1 (y:Int) w λf1 g1 i1 w=>w.cell? (j.add 0)=some (ae r)/\w.cell? (j.add 1)=some (ae s)/\w.cell? (j.add 2)=some (.slice t u v)/\Bx [ae r,ae s,.slice t u v,.pointer a1,.slice b1 c1 d1,.slice f1 g1 i1] 363 w λj1 w=>qQ Q j1 w)/\(Bx [ae 1099511627776] 3 w λl1 w=>w.cell? (j.add 2)=some (.slice x y z)/\w.cell? (j.add 0)=some (ae r)/\w.cell? (j.add 1)=some (ae s)/\w.cell? (j.add 2)=some (.slice t u v)/\kE f g i w λm1 n1 o1 w=>w.cell? (j.add 2)=some (.slice x y z)/\w.cell? (j.add 0)=some (ae r)/\w.cell? (j.add 1)=some (ae s)/\w.cell? (j.add 2)=some (.slice t u v)/\j_ (some l1) 1 1 (y:Int) w λp1 q1 r1 w=>w.cell? (j.add 0)=some (ae r)/\w.cell? (j.add 1)=some (ae s)/\w.cell? (j.add 2)=some (.slice t u v)/\Bx [ae r,ae s,.slice t u v,.pointer a1,.slice m1 n1 o1,.slice p1 q1 r1] 363 w λs1 w=>qQ Q s1 w))/\(Bx [ae 1099511627776] 3 w.drew λt1 w=>w.cell? (j.add 2)=some (.slice x y z)/\w.cell? (j.add 0)=some (ae r)/\w.cell? (j.add 1)=some (ae s)/\w.cell? (j.add 2)=some (.slice t u v)/\CL 0 w λu1 w=>w.cell? (j.add 2)=some (.slice x y z)/\w.cell? (j.add 0)=some (ae r)/\w.cell? (j.add 1)=some (ae s)/\w.cell? (j.add 2)=some (.slice t u v)/\kE f g i w λv1 x1 y1 w=>w.cell? (j.add 2)=some (.slice x y z)/\w.cell? (j.add 0)=some (ae r)/\w.cell? (j.add 1)=some (ae s)/\w.cell? (j.add 2)=some (.slice t u v)/\j_ (some t1) 1 1 (y:Int) w λz1 a2 b2 w=>w.cell? (j.add 0)=some (ae r)/\w.cell? (j.add 1)=some (ae s)/\w.cell? (j.add 2)=some (.slice t u v)/\Bx [ae r,ae s,.slice t u v,.pointer u1,.slice v1 x1 y1,.slice z1 a2 b2] 363 w λc2 w=>qQ Q c2 w))) (ok 28) JU [aM (ZG Q)] Tryz.func216
def adE:=λa b c d e f w Q=>bB (HI a b c d e f w Q) (Bx [ae a,ae b,.slice c d e] 84 w λg w=>af .i64 (g.add 0) w λi=>af .i64 (g.add 1) w λj=>aA (g.add 2) w λl m n=>Bx [ae f,ae 4,ae 0] 294 w λo w=>w_ i j l m n (some o) 1 1 w λp q r s w=>Q p q r s w) (ok 13) [] [] Tryz.func255
def xj (P6:L3 (Addr->Int->L3 (L3 (Int->Int->WP))))(Q:L3 (Int->WP))(Yu:L3 (Addr->Int->L3 (Int->L3 (L3 (Int->Int->L3 (Int->Int->WP))))))(a:OA)(b c:Nat)(d:Addr)(e:Int)(f:OA)(g i:Nat)(j:Int)(l:OA)(m n:Nat)(o:OA)(p q:Nat)(r s:Int)(t:OA)(u v:Nat)(x y:Int)(w:World):Prop:=cond (decide (y<x)) (aJ y u<|wA t λz=>af .i64 (z.add (y.toNat*1)) w λa1=>aJ a1 m<|wA l λb1=>af .i64 (b1.add (a1.toNat*1)) w λc1=>aJ (IntKind.wrap .i64 ((IntKind.wrap .i64 (y*e))+j)) g<|wA f λd1=>St (d1.add (((IntKind.wrap .i64 ((IntKind.wrap .i64 (y*e))+j))).toNat*1)) (ae c1) w λw=>Yu a b c d e f g i j l m n o p q r s t u v x (IntKind.wrap .i64 (y+1)) w) (P6 a b c d e f g i o p q r (IntKind.wrap .i64 (s+1)) w)
def r9 (P6:L3 (Addr->Int->L3 (L3 (Int->Int->WP))))(Q:L3 (Int->WP)):Nat->L3 (Addr->Int->L3 (Int->L3 (L3 (Int->Int->L3 (Int->Int->WP)))))
 |0=>λ_ _ _ _ _ _ _ _ _ _ _ _ _ _ _ _ _ _ _ _ _ _ _=>False
 |k+1=>λa b c d e f g i j l m n o p q r s t u v x y w=>xj P6 Q (r9 P6 Q k) a b c d e f g i j l m n o p q r s t u v x y w
def zi (Q:L3 (Int->WP))(R6:L3 (Addr->Int->L3 (L3 (Int->Int->WP))))(a:OA)(b c:Nat)(d:Addr)(e:Int)(f:OA)(g i:Nat)(j:OA)(l m:Nat)(n o:Int)(w:World):Prop:=cond (decide (o<n)) (aJ o l<|wA j λp=>af .i64 (p.add (o.toNat*1)) w λq=>af .i64 (d.add 0) w λr=>af .i64 (d.add 1) w λs=>aA (d.add 2) w λt u v=>HI r s t u v q w λx y z a1 w=>∃k',r9 R6 Q k' a b c d e f g i o x y z j l m n o a b c (b:Int) 0 w) (Q f g i 0 w)
def qR (Q:L3 (Int->WP)):Nat->L3 (Addr->Int->L3 (L3 (Int->Int->WP)))
 |0,_,_,_,_,_,_,_,_,_,_,_,_,_,_=>False
 |k+1,a,b,c,d,e,f,g,i,j,l,m,n,o,w=>zi Q (qR Q k) a b c d e f g i j l m n o w
def abr {P6}(Q)(H6:Bk 58 Tryz.f227 (CK Q) 6 [(1,.l),(2,.a),(6,.i .i64),(7,.l),(24,.l),(25,.i .i64),(26,.i .i64)] P6):∀k,Bk 58 Tryz.f227 (CK Q) 10 [(1,.l),(2,.a),(6,.i .i64),(7,.l),(8,.i .i64),(10,.l),(24,.l),(25,.i .i64),(26,.i .i64),(37,.l),(38,.i .i64),(39,.i .i64)] (r9 P6 Q k):=bK λk h=>aU (ok 58) [] [aM H6,aM h]
def adF (Q):∀k,Bk 58 Tryz.f227 (CK Q) 6 [(1,.l),(2,.a),(6,.i .i64),(7,.l),(24,.l),(25,.i .i64),(26,.i .i64)] (qR Q k):=bK λk h=>aU (ok 58) [] [ct (abr Q h)]
def ZH:=λa b c d e f g i w Q=>bB (ES a b c d e f g i w Q) (Bx [ae a,ae b,.slice c d e] 84 w λj w=>af .i64 (j.add 0) w λl=>af .i64 (j.add 1) w λm=>aA (j.add 2) w λn o p=>Gc l m n o p f g i w λq w=>cond (!q) (Q none 0 0 1 w) (cA P 29 (ae (IntKind.wrap .i64 ((g:Int)*(g:Int)))) (ae (IntKind.wrap .i64 ((g:Int)*(g:Int)))) w λr s t w=>∃k',qR Q k' f g i j (g:Int) r s t f g i (g:Int) 0 w)) (ok 58) [] [ct (adF Q)] Tryz.func227
def qB (Q:Int->L3 (L3 WP))(R13:Addr->Addr->L3 (Int->Int->WP))(a b:Addr)(c:OA)(d e:Nat)(f g:Int)(w:World):Prop:=cond (decide (g<f)) (aJ g d<|wA c λi=>af .i64 (i.add (g.toNat*1)) w λj=>aA (b.add 2) w λl m n=>aJ g m<|wA l λo=>St (o.add (g.toNat*1)) (.int .i32 (-1)) w λw=>cond (j !=1099511627776) (aA (b.add 2) w λp q r=>aJ g q<|wA p λs=>St (s.add (g.toNat*1)) (.int .i32 (IntKind.wrap .i32 j)) w λw=>R13 a b c d e f (IntKind.wrap .i64 (g+1)) w) (R13 a b c d e f (IntKind.wrap .i64 (g+1)) w)) (af .i64 (b.add 0) w λt=>aA (b.add 1) w λu v x=>aA (b.add 2) w λy z a1=>St (a.add 0) (ae t) w λw=>St (a.add 1) (.slice u v x) w λw=>St (a.add 2) (.slice y z a1) w λw=>af .i64 (a.add 0) w λb1=>aA (a.add 1) w λc1 d1 e1=>aA (a.add 2) w λf1 g1 i1=>Q b1 c1 d1 e1 f1 g1 i1 w)
def lu (Q:Int->L3 (L3 WP)):Nat->Addr->Addr->L3 (Int->Int->WP)
 |0,_,_,_,_,_,_,_,_=>False
 |k+1,a,b,c,d,e,f,g,w=>qB Q (lu Q k) a b c d e f g w
def rL (Q:Int->L3 (L3 WP))(R6:Addr->Int->Int->Addr->Addr->L3 (L3 (Int->Int->WP)))(a:Addr)(b c:Int)(d e:Addr)(f:OA)(g i:Nat)(j:OA)(l m:Nat)(n o:Int)(w:World):Prop:=cond (decide (o<n)) (aJ o l<|wA j λp=>af .i64 (p.add (o.toNat*1)) w λq=>nf b c q w λr w=>Bx [ae r] 3 w λs w=>App P #[29,29] 29 (.slice f g i) (.slice (some s) 1 1) w λt u v w=>R6 a b c d e t u v j l m n (IntKind.wrap .i64 (o+1)) w) (af .i64 (d.add 0) w λx=>af .i64 (d.add 1) w λy=>aA (d.add 2) w λz a1 b1=>ES x y z a1 b1 f g i w λc1 d1 e1 f1 w=>cA P 296 (ae (d1:Int)) (ae (d1:Int)) w λg1 i1 j1 w=>St (e.add 2) (.slice g1 i1 j1) w λw=>∃k',lu Q k' a e c1 d1 e1 (d1:Int) 0 w)
def oq (Q:Int->L3 (L3 WP)):Nat->Addr->Int->Int->Addr->Addr->L3 (L3 (Int->Int->WP))
 |0,_,_,_,_,_,_,_,_,_,_,_,_,_,_=>False
 |k+1,a,b,c,d,e,f,g,i,j,l,m,n,o,w=>rL Q (oq Q k) a b c d e f g i j l m n o w
def rM (Q:Int->L3 (L3 WP))(a:Addr)(b c:Int)(d e:Addr)(w:World):Prop:=aA (e.add 1) w λf g i=>∃k',oq Q k' a b c d e none 0 0 f g i (g:Int) 0 w
noncomputable def vK:cv:=[(3,sp 0 5 (sp 6 5 (.br (.op 5 (.br (.op 11 (.op 12 (.op 13 (.op 14 .done)))) (.op 13 (.op 11 (.op 12 (.op 14 .done)))))) (.op 13 (.op 5 (.op 11 (.op 12 (.op 14 .done))))))))]
def Uw (Q):∀k,Bk 93 Tryz.f200 (w8 Q) 13 [(4,.a),(9,.a),(72,.l),(73,.i .i64),(74,.i .i64)] (lu Q k):=bK λk h=>aU (ok 93) vK [aM h]
def VJ (Q):∀k,Bk 93 Tryz.f200 (w8 Q) 6 [(4,.a),(5,.i .i64),(6,.i .i64),(7,.a),(9,.a),(10,.l),(48,.l),(49,.i .i64),(50,.i .i64)] (oq Q k):=bK λk h=>aU (ok 93) vK [aM h,ct (Uw Q)]
def VK (Q):Bk 93 Tryz.f200 (w8 Q) 4 [(4,.a),(5,.i .i64),(6,.i .i64),(7,.a),(9,.a)] (rM Q):=aU (ok 93) vK [ct (VJ Q)]
def Si:=λa b w Q=>bB (z8 a b w Q) (Al T 319 w λc w=>wA a λd=>bg d w λe=>eM e w λf g w=>wA a λi=>bg i w λj=>tS j b w λl m n o p q w=>Al T 84 w λr w=>St (r.add 0) (ae l) w λw=>St (r.add 1) (ae m) w λw=>St (r.add 2) (.slice n o p) w λw=>wA a λs=>bg s w.drew λt=>wA a λu=>bg u w.drew λv=>(ja t b w.drew λx w=>w.cell? u=some (.pointer v)/\(n_ v b w λy z a1 w=>Al T 319 w λb1 w=>w.cell? u=some (.pointer v)/\w.cell? s=some (.pointer t)/\St (b1.add 0) (ae x) w λw=>St (b1.add 1) (.slice y z a1) w λw=>St (b1.add 2) (.slice none 0 0) w λw=>rM Q c f g r b1 w)/\(Al T 319 w λc1 w=>w.cell? u=some (.pointer v)/\w.cell? s=some (.pointer t)/\n_ v b w λd1 e1 f1 w=>St (c1.add 0) (ae x) w λw=>St (c1.add 1) (.slice d1 e1 f1) w λw=>St (c1.add 2) (.slice none 0 0) w λw=>rM Q c f g r c1 w))/\(Al T 319 w.drew λg1 w=>w.cell? u=some (.pointer v)/\w.cell? s=some (.pointer t)/\ja t b w λi1 w=>w.cell? u=some (.pointer v)/\n_ v b w λj1 l1 m1 w=>St (g1.add 0) (ae i1) w λw=>St (g1.add 1) (.slice j1 l1 m1) w λw=>St (g1.add 2) (.slice none 0 0) w λw=>rM Q c f g r g1 w)) (ok 93) vK [aM (VK Q)] Tryz.func200
def ot (Q:Int->WP)(R5:OA->L3 (L3 (Int->Int->WP)))(a b:OA)(c d:Nat)(e:OA)(f g:Nat)(i j:Int)(w:World):Prop:=cond (decide (j<i)) (aJ j f<|wA e λl=>af .i64 (l.add (j.toNat*1)) w λm=>wA a λn=>aA (n.add 1) w.drew λo p q=>z8 a m w.drew λr s t u v x y w=>w.cell? (n.add 1)=some (.slice o p q)/\(aJ m p<|wA o λz=>St ((z.add (m.toNat*3)).add 0) (ae r) w λw=>St ((z.add (m.toNat*3)).add 1) (.slice s t u) w λw=>St ((z.add (m.toNat*3)).add 2) (.slice v x y) w λw=>wA a λa1=>af .u64 (a1.add 3) w λb1=>rW b1 1 w λc1 w=>wA a λd1=>St (d1.add 3) (.int .u64 c1) w λw=>R5 a b c d e f g i (IntKind.wrap .i64 (j+1)) w)) (wA a λe1=>bg e1 w λf1=>fZ f1 w λg1 w=>wA a λi1=>St (i1.add 2) (ae g1) w λw=>Q (c:Int) w)
def lV (Q:Int->WP):Nat->OA->L3 (L3 (Int->Int->WP))
 |0,_,_,_,_,_,_,_,_,_,_=>False
 |k+1,a,b,c,d,e,f,g,i,j,w=>ot Q (lV Q k) a b c d e f g i j w
noncomputable def D4:cv:=[(7,sp 0 7 (.op 7 (.op 8 (.op 9 .done))))]
def Qm (Q):∀k,Bk 44 Tryz.f177 (Fh Q) 5 [(0,.p),(3,.l),(10,.l),(11,.i .i64),(12,.i .i64)] (lV Q k):=bK λk h=>aU (ok 44) D4 [aM h]
def MK:=λa w Q=>bB (wv a w Q) (cond a.isNone (Q 0 w) (yU a w λb c d w=>∃k',lV Q k' a b c d b c d (c:Int) 0 w)) (ok 44) D4 [ct (Qm Q)] Tryz.func177
def jB (Q:L3 WP)(R8:L3 (Int->WP))(a:OA)(b c:Nat)(d:Int)(w:World):Prop:=cond (decide (d<(b:Int))) (bU a b c 1 (some d) none λe f g=>bU a b c 1 none (some d) λi j l=>cH P #[296,296] 3 (.slice e f g) (.slice i j l) w.drew λm w=>R8 a b c (IntKind.wrap .i64 (d+m)) w) (Q a b c w)
def jC (Q:L3 WP):Nat->L3 (Int->WP)
 |0,_,_,_,_,_=>False
 |k+1,a,b,c,d,w=>jB Q (jC Q k) a b c d w
def p_ (Q:L3 WP)(a:OA)(b c:Nat)(d:Int)(w:World):Prop:=False
noncomputable def pE:cv:=[(9,sp 0 7 (.op 7 (.op 8 (.op 9 .done))))]
def yc (Q):∀k,Bk 48 Tryz.f201 (p9 Q) 8 [(7,.l),(8,.i .i64)] (jC Q k):=bK λk h=>aU (ok 48) pE [aM h]
def G4 (Q):Bk 48 Tryz.f201 (p9 Q) 5 [(0,.l),(6,.i .u64)] (p_ Q):=aU (ok 48) pE [ct (yc Q)]
def FM:=λa b c d w Q=>bB (oR a b c d w Q) (cond (decide (d<0)) (False) (qw (IntKind.wrap .u64 (b:Int)) (IntKind.wrap .u64 d) w λe f w=>cond (decide (e>0)) (p_ Q a b c f w) (cond (decide (f>9223372036854775807)) (p_ Q a b c f w) (cA P 296 (ae (IntKind.wrap .i64 f)) (ae (IntKind.wrap .i64 f)) w λg i j w=>cH P #[296,296] 3 (.slice g i j) (.slice a b c) w λl w=>∃k',jC Q k' g i j l w)))) (ok 48) pE [aM (G4 Q),ct (yc Q)] Tryz.func201
def adG:=λw Q=>bB (CJ w Q) (Bx [.slice none 0 0] 351 w λa w=>Q (some a) w) (ok 3) [] [] Tryz.func202
def Qn:=λa b c d w Q=>bB (r7 a b c d w Q) (Bx [ae a,ae b] 353 w λe w=>Bx [ae c,ae d] 353 w λf w=>af .i64 e w λg=>af .i64 f w λi=>cond (decide (g<i)) (Q true w) (af .i64 e w λj=>af .i64 f w λl=>cond (j==l) (af .i64 (e.add 1) w λm=>af .i64 (f.add 1) w λn=>Q (decide (m<n)) w) (Q false w))) (ok 24) [] [] Tryz.func256
def vh (Q:WP)(R1:OA->Int->WP)(a:OA)(b:Int)(w:World):Prop:=cond (decide (b>0)) (NZ 2<|wA a λc=>aA c w.drew λd e f=>aJ b e<|wA d λg=>af .i64 ((g.add (b.toNat*2)).add 0) w.drew λi=>af .i64 ((g.add (b.toNat*2)).add 1) w.drew λj=>wA a λl=>aA l w.drew λm n o=>aJ (IntKind.wrap .i64 (Int.tdiv (IntKind.wrap .i64 (b-1)) 2)) n<|wA m λp=>af .i64 ((p.add (((IntKind.wrap .i64 (Int.tdiv (IntKind.wrap .i64 (b-1)) 2))).toNat*2)).add 0) w.drew λq=>af .i64 ((p.add (((IntKind.wrap .i64 (Int.tdiv (IntKind.wrap .i64 (b-1)) 2))).toNat*2)).add 1) w.drew λr=>r7 i j q r w.drew λs w=>cond (!s) (Q w) (wA a λt=>aA t w.drew λu v x=>wA a λy=>aA y w.drew λz a1 b1=>wA a λc1=>aA c1 w.drew λd1 e1 f1=>aJ (IntKind.wrap .i64 (Int.tdiv (IntKind.wrap .i64 (b-1)) 2)) e1<|wA d1 λg1=>af .i64 ((g1.add (((IntKind.wrap .i64 (Int.tdiv (IntKind.wrap .i64 (b-1)) 2))).toNat*2)).add 0) w.drew λi1=>af .i64 ((g1.add (((IntKind.wrap .i64 (Int.tdiv (IntKind.wrap .i64 (b-1)) 2))).toNat*2)).add 1) w.drew λj1=>wA a λl1=>aA l1 w.drew λm1 n1 o1=>aJ b n1<|wA m1 λp1=>af .i64 ((p1.add (b.toNat*2)).add 0) w.drew λq1=>af .i64 ((p1.add (b.toNat*2)).add 1) w.drew λr1=>aJ b v<|wA u λs1=>St ((s1.add (b.toNat*2)).add 0) (ae i1) w.drew λw=>St ((s1.add (b.toNat*2)).add 1) (ae j1) w λw=>aJ (IntKind.wrap .i64 (Int.tdiv (IntKind.wrap .i64 (b-1)) 2)) a1<|wA z λt1=>St ((t1.add (((IntKind.wrap .i64 (Int.tdiv (IntKind.wrap .i64 (b-1)) 2))).toNat*2)).add 0) (ae q1) w λw=>St ((t1.add (((IntKind.wrap .i64 (Int.tdiv (IntKind.wrap .i64 (b-1)) 2))).toNat*2)).add 1) (ae r1) w λw=>R1 a (IntKind.wrap .i64 (Int.tdiv (IntKind.wrap .i64 (b-1)) 2)) w)) (Q w)
def qS (Q:WP):Nat->OA->Int->WP
 |0,_,_,_=>False
 |k+1,a,b,w=>vh Q (qS Q k) a b w
noncomputable def JV:cv:=[(3,sp 0 14 (.op 14 (.op 15 .done))),(4,sp 0 25 (.op 25 (.op 26 (.op 27 .done))))]
def ZI (Q):∀k,Bk 58 Tryz.f228 (La Q) 1 [(0,.p),(2,.i .i64)] (qS Q k):=bK λk h=>aU (ok 58) JV [aM h]
def VL:=λa w Q=>bB (B3 a w Q) (wA a λb=>aA b w λc d e=>∃k',qS Q k' a (IntKind.wrap .i64 ((d:Int)-1)) w) (ok 58) JV [ct (ZI Q)] Tryz.func228
def Sj:=λa b c w Q=>bB (mK a b c w Q) (cond a.isNone (Q w) (wA a λd=>aA d w λe f g=>Bx [ae b,ae c] 353 w λi w=>App P #[349,349] 349 (.slice e f g) (.slice (some i) 1 1) w λj l m w=>wA a λn=>St n (.slice j l m) w λw=>B3 a w λw=>Q w)) (ok 22) [] [] Tryz.func206
def Ux:=λa w Q=>bB (A3 a w Q) (cond a.isNone (Q 0 w) (wA a λb=>aA b w λc d e=>Q (d:Int) w)) (ok 10) [] [] Tryz.func257
noncomputable def VM:cv:=[(3,sp 0 14 (.op 14 (.op 15 (.op 16 .done))))]
def Uy:=λa w Q=>bB (A2 a w Q) (A3 a w λb w=>cond (b==0) (Q 0 0 false w) (wA a λc=>aA c w.drew λd e f=>aJ 0 e<|wA d λg=>af .i64 (g.add (((0:Int).toNat)*2)) w.drew λi=>wA a λj=>aA j w.drew λl m n=>aJ 0 m<|wA l λo=>af .i64 ((o.add (((0:Int).toNat)*2)).add 1) w.drew λp=>w.drew.cell? ((o.add (((0:Int).toNat)*2)).add 1)=some (ae p)/\w.drew.cell? j=some (.slice l m n)/\Q i p true w.drew)) (ok 22) VM [] Tryz.func229
def ou (P1:OA->Int->WP)(Q:WP)(a:OA)(b c:Int)(w:World):Prop:=cond (c==b) (Q w) (wA a λd=>aA d w.drew λe f g=>wA a λi=>aA i w.drew λj l m=>wA a λn=>aA n w.drew λo p q=>aJ c p<|wA o λr=>af .i64 ((r.add (c.toNat*2)).add 0) w.drew λs=>af .i64 ((r.add (c.toNat*2)).add 1) w.drew λt=>wA a λu=>aA u w.drew λv x y=>aJ b x<|wA v λz=>af .i64 ((z.add (b.toNat*2)).add 0) w.drew λa1=>af .i64 ((z.add (b.toNat*2)).add 1) w.drew λb1=>aJ b f<|wA e λc1=>St ((c1.add (b.toNat*2)).add 0) (ae s) w.drew λw=>St ((c1.add (b.toNat*2)).add 1) (ae t) w λw=>aJ c l<|wA j λd1=>St ((d1.add (c.toNat*2)).add 0) (ae a1) w λw=>St ((d1.add (c.toNat*2)).add 1) (ae b1) w λw=>P1 a c w)
def mj (P1:OA->Int->WP)(Q:WP)(R3:OA->Int->Int->Int->WP)(a:OA)(b c d:Int)(w:World):Prop:=cond (decide (d<=(IntKind.wrap .i64 ((IntKind.wrap .i64 (2*b))+2)))) (wA a λe=>aA e w λf g i=>cond (decide (d<(g:Int))) (wA a λj=>aA j w.drew λl m n=>aJ d m<|wA l λo=>af .i64 ((o.add (d.toNat*2)).add 0) w.drew λp=>af .i64 ((o.add (d.toNat*2)).add 1) w.drew λq=>wA a λr=>aA r w.drew λs t u=>aJ c t<|wA s λv=>af .i64 ((v.add (c.toNat*2)).add 0) w.drew λx=>af .i64 ((v.add (c.toNat*2)).add 1) w.drew λy=>r7 p q x y w.drew λz w=>cond z (R3 a b d (IntKind.wrap .i64 (d+1)) w) (R3 a b c (IntKind.wrap .i64 (d+1)) w)) (ou P1 Q a b c w)) (ou P1 Q a b c w)
def mq (P1:OA->Int->WP)(Q:WP):Nat->OA->Int->Int->Int->WP
 |0,_,_,_,_,_=>False
 |k+1,a,b,c,d,w=>mj P1 Q (mq P1 Q k) a b c d w
def xk (Q:WP)(R1:OA->Int->WP)(a:OA)(b:Int)(w:World):Prop:=∃k',mq R1 Q k' a b b (IntKind.wrap .i64 ((IntKind.wrap .i64 (2*b))+1)) w
def ow (Q:WP):Nat->OA->Int->WP
 |0,_,_,_=>False
 |k+1,a,b,w=>xk Q (ow Q k) a b w
noncomputable def vL:cv:=[(5,sp 0 14 (.op 14 .done)),(8,sp 0 25 (.op 25 (.op 26 (.op 27 .done))))]
def VN {P1}(Q)(H1:Bk 71 Tryz.f230 (og Q) 1 [(0,.p),(2,.i .i64)] P1):Bk 71 Tryz.f230 (og Q) 7 [(0,.p),(2,.i .i64),(3,.i .i64)] (ou P1 Q):=aU (ok 71) vL [aM H1]
def VO {P1}(Q)(H1:Bk 71 Tryz.f230 (og Q) 1 [(0,.p),(2,.i .i64)] P1):∀k,Bk 71 Tryz.f230 (og Q) 3 [(0,.p),(2,.i .i64),(3,.i .i64),(4,.i .i64)] (mq P1 Q k):=bK λk h=>aU (ok 71) vL [aM h,aM (VN Q H1)]
def VP (Q):∀k,Bk 71 Tryz.f230 (og Q) 1 [(0,.p),(2,.i .i64)] (ow Q k):=bK λk h=>aU (ok 71) vL [ct (VO Q h)]
def Sk:=λa w Q=>bB (Ab a w Q) (∃k',ow Q k' a 0 w) (ok 71) vL [ct (VP Q)] Tryz.func230
def yu (Q:Int->Int->Bool->WP)(a b:Int)(c:Bool)(w:World):Prop:=Q a b c w
noncomputable def I1:cv:=[(4,sp 0 12 (.op 12 .done))]
def X1 (Q):Bk 45 Tryz.f207 (DB Q) 7 [(2,.i .i64),(3,.i .i64),(4,.b)] (yu Q):=aU (ok 45) I1 []
def Uz:=λa w Q=>bB (jE a w Q) (A2 a w λb c d w=>cond d (wA a λe=>aA e w λf g i=>wA a λj=>aA j w.drew λl m n=>wA a λo=>aA o w.drew λp q r=>aJ (IntKind.wrap .i64 ((g:Int)-1)) q<|wA p λs=>af .i64 ((s.add (((IntKind.wrap .i64 ((g:Int)-1))).toNat*2)).add 0) w.drew λt=>af .i64 ((s.add (((IntKind.wrap .i64 ((g:Int)-1))).toNat*2)).add 1) w.drew λu=>aJ 0 m<|wA l λv=>St ((v.add (((0:Int).toNat)*2)).add 0) (ae t) w.drew λw=>St ((v.add (((0:Int).toNat)*2)).add 1) (ae u) w λw=>wA a λx=>aA x w λy z a1=>bU y z a1 2 none (some (IntKind.wrap .i64 ((g:Int)-1))) λb1 c1 d1=>wA a λe1=>St e1 (.slice b1 c1 d1) w λw=>Ab a w λw=>yu Q b c d w) (yu Q b c d w)) (ok 45) I1 [aM (X1 Q)] Tryz.func207
def mX (P8:OA->Int->Int->Int->ON->OA->Int->Int->Bool->WP)(Q:ON->WP)(a:OA)(b c d:Int)(e:ON)(f:OA)(w:World):Prop:=jE f w λg i j w=>P8 a b c d e f g i j w
def mu (P8:OA->Int->Int->Int->ON->OA->Int->Int->Bool->WP)(Q:ON->WP)(Yv:OA->Int->Int->Int->ON->OA->Int->Int->Int->WP)(a:OA)(b c d:Int)(e:ON)(f:OA)(g i j:Int)(w:World):Prop:=cond (decide (j<=3)) (l6 c d i j w λl w=>cond (decide (l<0)) (Yv a b c d e f g i (IntKind.wrap .i64 (j+1)) w) (dY c d l w λm w=>dY c d b w λn w=>cond (m !=n) (Yv a b c d e f g i (IntKind.wrap .i64 (j+1)) w) (wA a λo=>bg (o.add 1) w λp=>e_ p l w λq w=>cond (q==255) (Yv a b c d e f g i (IntKind.wrap .i64 (j+1)) w) (wA a λr=>bg (r.add 1) w λs=>e_ s i w λt w=>mK f (IntKind.wrap .i64 (g+t)) l w λw=>Yv a b c d e f g i (IntKind.wrap .i64 (j+1)) w)))) (mX P8 Q a b c d e f w)
def iI (P8:OA->Int->Int->Int->ON->OA->Int->Int->Bool->WP)(Q:ON->WP):Nat->OA->Int->Int->Int->ON->OA->Int->Int->Int->WP
 |0,_,_,_,_,_,_,_,_,_,_=>False
 |k+1,a,b,c,d,e,f,g,i,j,w=>mu P8 Q (iI P8 Q k) a b c d e f g i j w
def jc (Q:ON->WP)(R8:OA->Int->Int->Int->ON->OA->Int->Int->Bool->WP)(a:OA)(b c d:Int)(e:ON)(f:OA)(g i:Int)(j:Bool)(w:World):Prop:=cond j (aL P (Instr.lookup 207 (.map e) (ae i) true) w λl w=>dT l λm=>dH m λn o=>dI .i64 n λp=>dH o λq r=>dB q λs=>kL r<|cond s (mX R8 Q a b c d e f w) (bD P (Instr.mapUpdate 207 (.map e) (ae i) (ae g)) w λw=>∃k',iI R8 Q k' a b c d e f g i 0 w)) (Q e w)
def jd (Q:ON->WP):Nat->OA->Int->Int->Int->ON->OA->Int->Int->Bool->WP
 |0,_,_,_,_,_,_,_,_,_,_=>False
 |k+1,a,b,c,d,e,f,g,i,j,w=>jc Q (jd Q k) a b c d e f g i j w
def Dk {P8}(Q)(H8:Bk 103 Tryz.f203 (ko Q) 8 [(0,.p),(1,.i .i64),(5,.i .i64),(6,.i .i64),(7,.m),(8,.p),(9,.i .i64),(10,.i .i64),(11,.b)] P8):Bk 103 Tryz.f203 (ko Q) 9 [(0,.p),(1,.i .i64),(5,.i .i64),(6,.i .i64),(7,.m),(8,.p)] (mX P8 Q):=aU (ok 103) [] [aM H8]
def Ll {P8}(Q)(H8:Bk 103 Tryz.f203 (ko Q) 8 [(0,.p),(1,.i .i64),(5,.i .i64),(6,.i .i64),(7,.m),(8,.p),(9,.i .i64),(10,.i .i64),(11,.b)] P8):∀k,Bk 103 Tryz.f203 (ko Q) 14 [(0,.p),(1,.i .i64),(5,.i .i64),(6,.i .i64),(7,.m),(8,.p),(9,.i .i64),(10,.i .i64),(14,.i .i64)] (iI P8 Q k):=bK λk h=>aU (ok 103) [] [aM (Dk Q H8),aM h]
def ML (Q):∀k,Bk 103 Tryz.f203 (ko Q) 8 [(0,.p),(1,.i .i64),(5,.i .i64),(6,.i .i64),(7,.m),(8,.p),(9,.i .i64),(10,.i .i64),(11,.b)] (jd Q k):=bK λk h=>aU (ok 103) [] [aM (Dk Q h),ct (Ll Q h)]
def Ki:=λa b w Q=>bB (tV a b w Q) (wA a λc=>bg (c.add 1) w λd=>eM d w λe f w=>cz P 207 none w λg w=>wA a λi=>bg (i.add 1) w λj=>e_ j b w λl w=>cond (l==255) (Q g w) (CJ w λm w=>mK m 0 b w λw=>jE m w λn o p w=>∃k',jd Q k' a b e f g m n o p w)) (ok 103) [] [ct (ML Q)] Tryz.func203
def JG:=λa b c w Q=>bB (kO a b c w Q) (cond a.isNone (Q none 0 0 w) (Bx [] 3 w λd w=>App P #[29,29] 29 (.slice (some d) 0 0) (.slice a b c) w λe f g w=>Q e f g w)) (ok 8) [] [] Tryz.func215
def Qp:=λa b w Q=>bB (yV a b w Q) (cond a.isNone (Q none 0 0 w) (cond (decide (b<0)) (Q none 0 0 w) (wA a λc=>aA (c.add 1) w λd e f=>cond (decide (b≥(e:Int))) (Q none 0 0 w) (wA a λg=>aA (g.add 1) w λi j l=>aJ b j<|wA i λm=>aA ((m.add (b.toNat*3)).add 1) w λn o p=>kO n o p w λq r s w=>Q q r s w)))) (ok 29) [] [] Tryz.func204
def OC:=λa b c w Q=>bB (ri a b c w Q) (wA a λd=>aA (d.add 2) w λe f g=>aJ b f<|wA e λi=>af .i32 (i.add (b.toNat*1)) w λj=>cond (decide (c≥(IntKind.wrap .i64 j))) (Q false w) (wA a λl=>aA (l.add 2) w λm n o=>aJ b n<|wA m λp=>St (p.add (b.toNat*1)) (.int .i32 (IntKind.wrap .i32 c)) w λw=>Q true w)) (ok 25) [] [] Tryz.func205
def VQ:=λa b w Q=>bB (IU a b w Q) (qy a w λc w=>cond c (qy b w λd w=>cond (!d) (Q true w) (Q (decide (a<b)) w)) (Q (decide (a<b)) w)) (ok 17) [] [] Tryz.func280
def OD:=λa w Q=>bB (nK a w Q) (Q (a !=a) w) (ok 6) [] [] Tryz.func281
def iX (Q:Int->Bool->WP)(R3:L3 (Int->Int->Int->Int->WP))(a:OA)(b c:Nat)(d e f g:Int)(w:World):Prop:=cond (decide (f<g)) (DR 1<|aJ (IntKind.wrap .i64 (oW .u64 (IntKind.wrap .u64 (IntKind.wrap .i64 (f+g))) 1)) b<|wA a λi=>af .i64 (i.add (((IntKind.wrap .i64 (oW .u64 (IntKind.wrap .u64 (IntKind.wrap .i64 (f+g))) 1))).toNat*1)) w λj=>IU j d w λl w=>cond l (R3 a b c d e (IntKind.wrap .i64 ((IntKind.wrap .i64 (oW .u64 (IntKind.wrap .u64 (IntKind.wrap .i64 (f+g))) 1))+1)) g w) (R3 a b c d e f (IntKind.wrap .i64 (oW .u64 (IntKind.wrap .u64 (IntKind.wrap .i64 (f+g))) 1)) w)) (cond (decide (f<e)) (aJ f b<|wA a λm=>af .i64 (m.add (f.toNat*1)) w λn=>cond (n==d) (Q f true w) (aJ f b<|wA a λo=>af .i64 (o.add (f.toNat*1)) w λp=>nK p w λq w=>cond q (nK d w λr w=>Q f r w) (Q f false w))) (Q f false w))
def gA (Q:Int->Bool->WP):Nat->L3 (Int->Int->Int->Int->WP)
 |0,_,_,_,_,_,_,_,_=>False
 |k+1,a,b,c,d,e,f,g,w=>iX Q (gA Q k) a b c d e f g w
def FN (Q):∀k,Bk 54 Tryz.f271 (vV Q) 3 [(0,.l),(1,.i .i64),(6,.i .i64),(7,.i .i64),(8,.i .i64)] (gA Q k):=bK λk h=>aU (ok 54) [] [aM h]
def D5:=λa b c d w Q=>bB (nJ a b c d w Q) (∃k',gA Q k' a b c d (b:Int) 0 (b:Int) w) (ok 54) [] [ct (FN Q)] Tryz.func271
def Qq:=λa b w Q=>bB (Fl a b w Q) (wA a λc=>aA (c.add 1) w λd e f=>nJ d e f b w λg i w=>Q g i w) (ok 14) [] [] Tryz.func258
def Sm:=λa b w Q=>bB (tX a b w Q) (cond a.isNone (Q none 0 false w) (wA a λc=>bg c w λd=>eM d w λe f w=>dY e f b w λg w=>cond (decide (g<0)) (Q none 0 false w) (wA a λi=>aA (i.add 1) w λj l m=>aJ g l<|wA j λn=>Fl (some (n.add (g.toNat*3))) b w λo p w=>Q (some (n.add (g.toNat*3))) o p w))) (ok 44) [] [] Tryz.func231
noncomputable def OE:cv:=[(1,sp 0 15 (.op 15 .done))]
def MM:=λa b c w Q=>bB (wB a b c w Q) (wA a λd=>aA (d.add 2) w.drew λe f g=>wA a λi=>aA (i.add 1) w.drew λj l m=>aJ (IntKind.wrap .i64 ((IntKind.wrap .i64 (b*(l:Int)))+c)) f<|wA e λn=>af .i32 (n.add (((IntKind.wrap .i64 ((IntKind.wrap .i64 (b*(l:Int)))+c))).toNat*1)) w.drew λo=>cond (o !=(-1)) (Q (IntKind.wrap .i64 o) w.drew) (Q 1099511627776 w.drew)) (ok 27) OE [] Tryz.func232
def qC (Q:L3 WP)(Yv:OA->Int->OA->L3 (Int->Int->Int->WP))(a:OA)(b:Int)(c d:OA)(e f:Nat)(g i j:Int)(w:World):Prop:=cond (decide (j<=3)) (l6 g i b j w λl w=>tX a l w λm n o w=>cond o (bX P .neq 354 (.tmp 89) (.tmp 90) (.pointer m) (.pointer c) w λp w=>cond p (wA a λq=>bg q w λr=>e_ r b w λs w=>Bx [ae l,ae s] 292 w λt w=>App P #[289,289] 289 (.slice d e f) (.slice (some t) 1 1) w λu v x w=>Yv a b c u v x g i (IntKind.wrap .i64 (j+1)) w) (Yv a b c d e f g i (IntKind.wrap .i64 (j+1)) w)) (Yv a b c d e f g i (IntKind.wrap .i64 (j+1)) w)) (Q d e f w)
def lz (Q:L3 WP):Nat->OA->Int->OA->L3 (Int->Int->Int->WP)
 |0,_,_,_,_,_,_,_,_,_,_=>False
 |k+1,a,b,c,d,e,f,g,i,j,w=>qC Q (lz Q k) a b c d e f g i j w
def rN (Q:L3 WP)(R6:OA->Int->OA->Int->L3 (L3 (Int->Int->WP)))(a:OA)(b:Int)(c:OA)(d:Int)(e:OA)(f g:Nat)(i:OA)(j l:Nat)(m n:Int)(w:World):Prop:=cond (decide (n<m)) (aJ n j<|wA i λo=>af .i64 (o.add (n.toNat*1)) w λp=>wB c n d w λq w=>cond (n !=d) (cond (q !=1099511627776) (Bx [ae p,ae q] 292 w λr w=>App P #[289,289] 289 (.slice e f g) (.slice (some r) 1 1) w λs t u w=>R6 a b c d s t u i j l m (IntKind.wrap .i64 (n+1)) w) (R6 a b c d e f g i j l m (IntKind.wrap .i64 (n+1)) w)) (R6 a b c d e f g i j l m (IntKind.wrap .i64 (n+1)) w)) (wA a λv=>bg v w λx=>eM x w λy z w=>∃k',lz Q k' a b c e f g y z 0 w)
def my (Q:L3 WP):Nat->OA->Int->OA->Int->L3 (L3 (Int->Int->WP))
 |0,_,_,_,_,_,_,_,_,_,_,_,_,_=>False
 |k+1,a,b,c,d,e,f,g,i,j,l,m,n,w=>rN Q (my Q k) a b c d e f g i j l m n w
def UA (Q):∀k,Bk 105 Tryz.f208 (B0 Q) 14 [(0,.p),(1,.i .i64),(5,.p),(8,.l),(12,.i .i64),(13,.i .i64),(14,.i .i64)] (lz Q k):=bK λk h=>aU (ok 105) [] [aM h]
def VR (Q):∀k,Bk 105 Tryz.f208 (B0 Q) 6 [(0,.p),(1,.i .i64),(5,.p),(6,.i .i64),(8,.l),(38,.l),(39,.i .i64),(40,.i .i64)] (my Q k):=bK λk h=>aU (ok 105) [] [aM h,ct (UA Q)]
def Sn:=λa b w Q=>bB (z9 a b w Q) (tX a b w λc d e w=>cond (!e) (Q none 0 0 w) (wA c λf=>aA (f.add 1) w λg i j=>cA P 289 (ae 0) (ae (IntKind.wrap .i64 ((i:Int)+1))) w λl m n w=>wA c λo=>aA (o.add 1) w λp q r=>∃k',my Q k' a b c d l m n p q r (q:Int) 0 w)) (ok 105) [] [ct (VR Q)] Tryz.func208
def mz (tg:OA->Addr->OA->Int->Int->Bool->WP)(Q:OA->WP)(a:OA)(b:Addr)(c:OA)(w:World):Prop:=jE c w λd e f w=>tg a b c d e f w
def mA (tg:OA->Addr->OA->Int->Int->Bool->WP)(Q:OA->WP)(R17:OA->Addr->OA->Int->L3 (Int->Int->WP))(a:OA)(b:Addr)(c:OA)(d:Int)(e:OA)(f g:Nat)(i j:Int)(w:World):Prop:=cond (decide (j<i)) (aJ j f<|wA e λl=>af .i64 ((l.add (j.toNat*2)).add 0) w λm=>af .i64 ((l.add (j.toNat*2)).add 1) w λn=>Al T 292 w λo w=>St (o.add 0) (ae m) w λw=>St (o.add 1) (ae n) w λw=>af .i64 o w λp=>af .i64 (o.add 1) w λq=>ri (some b) p (IntKind.wrap .i64 (d+q)) w λr w=>cond r (af .i64 (o.add 1) w λs=>af .i64 o w λt=>mK c (IntKind.wrap .i64 (d+s)) t w λw=>R17 a b c d e f g i (IntKind.wrap .i64 (j+1)) w) (R17 a b c d e f g i (IntKind.wrap .i64 (j+1)) w)) (mz tg Q a b c w)
def jP (tg:OA->Addr->OA->Int->Int->Bool->WP)(Q:OA->WP):Nat->OA->Addr->OA->Int->L3 (Int->Int->WP)
 |0,_,_,_,_,_,_,_,_,_,_=>False
 |k+1,a,b,c,d,e,f,g,i,j,w=>mA tg Q (jP tg Q k) a b c d e f g i j w
def iJ (Q:OA->WP)(R13:OA->Addr->OA->Int->Int->Bool->WP)(a:OA)(b:Addr)(c:OA)(d e:Int)(f:Bool)(w:World):Prop:=cond f (aA (b.add 2) w λg i j=>aJ e i<|wA g λl=>af .i32 (l.add (e.toNat*1)) w λm=>cond (decide (d>(IntKind.wrap .i64 m))) (mz R13 Q a b c w) (wA a λn=>bg n w λo=>z9 o e w λp q r w=>∃k',jP R13 Q k' a b c d p q r (q:Int) 0 w)) (Q (some b) w)
def iK (Q:OA->WP):Nat->OA->Addr->OA->Int->Int->Bool->WP
 |0,_,_,_,_,_,_,_=>False
 |k+1,a,b,c,d,e,f,w=>iJ Q (iK Q k) a b c d e f w
def mY (Q:OA->WP)(R6:OA->Addr->OA->ON->L3 (Int->Int->WP))(a:OA)(b:Addr)(c:OA)(d:ON)(e:OA)(f g:Nat)(i j:Int)(w:World):Prop:=cond (decide (j<i)) (aJ j f<|wA e λl=>af .i64 (l.add (j.toNat*1)) w λm=>aL P (Instr.lookup 207 (.map d) (ae m) true) w λn w=>dT n λo=>dH o λp q=>dI .i64 p λr=>dH q λs t=>dB s λu=>kL t<|cond u (ri (some b) m r w λv w=>cond v (mK c r m w λw=>R6 a b c d e f g i (IntKind.wrap .i64 (j+1)) w) (R6 a b c d e f g i (IntKind.wrap .i64 (j+1)) w)) (R6 a b c d e f g i (IntKind.wrap .i64 (j+1)) w)) (jE c w λx y z w=>∃k',iK Q k' a b c x y z w)
def je (Q:OA->WP):Nat->OA->Addr->OA->ON->L3 (Int->Int->WP)
 |0,_,_,_,_,_,_,_,_,_,_=>False
 |k+1,a,b,c,d,e,f,g,i,j,w=>mY Q (je Q k) a b c d e f g i j w
noncomputable def mB:cv:=[(5,sp 0 7 (.op 10 (.op 7 (.op 8 (.op 9 .done)))))]
def Cd {tg}(Q)(H13:Bk 128 Tryz.f178 (jb Q) 13 [(0,.p),(7,.a),(8,.p),(14,.i .i64),(15,.i .i64),(16,.b)] tg):Bk 128 Tryz.f178 (jb Q) 14 [(0,.p),(7,.a),(8,.p)] (mz tg Q):=aU (ok 128) mB [aM H13]
def Lm {tg}(Q)(H13:Bk 128 Tryz.f178 (jb Q) 13 [(0,.p),(7,.a),(8,.p),(14,.i .i64),(15,.i .i64),(16,.b)] tg):∀k,Bk 128 Tryz.f178 (jb Q) 17 [(0,.p),(7,.a),(8,.p),(14,.i .i64),(104,.l),(105,.i .i64),(106,.i .i64)] (jP tg Q k):=bK λk h=>aU (ok 128) mB [aM (Cd Q H13),aM h]
def Ln (Q):∀k,Bk 128 Tryz.f178 (jb Q) 13 [(0,.p),(7,.a),(8,.p),(14,.i .i64),(15,.i .i64),(16,.b)] (iK Q k):=bK λk h=>aU (ok 128) mB [aM (Cd Q h),ct (Lm Q h)]
def MN (Q):∀k,Bk 128 Tryz.f178 (jb Q) 6 [(0,.p),(7,.a),(8,.p),(9,.m),(52,.l),(53,.i .i64),(54,.i .i64)] (je Q k):=bK λk h=>aU (ok 128) mB [aM h,ct (Ln Q)]
def Kj:=λa b w Q=>bB (tT a b w Q) (wA a λc=>bg (c.add 1) w λd=>eM d w λe f w=>wA a λg=>bg (g.add 1) w λi=>fZ i w λj w=>Bx [.int .i32 2147483647] 21 w λl w=>oR (some l) 1 1 (IntKind.wrap .i64 (e*f)) w λm n o w=>Bx [ae b,ae j,.slice m n o] 298 w λp w=>CJ w λq w=>tV a b w λr w=>wA a λs=>bg s w.drew λt=>dY e f b w.drew λu w=>w.cell? s=some (.pointer t)/\yV t u w λv x y w=>∃k',je Q k' a p q r v x y (x:Int) 0 w) (ok 128) mB [ct (MN Q)] Tryz.func178
def zj (Q:OA->WP)(a:OA)(w:World):Prop:=wA a λb=>bg (b.add 2) w λc=>Q c w
def ox (Q:OA->WP)(a:OA)(b:Int)(w:World):Prop:=tT a b w λc w=>wA a λd=>St (d.add 2) (.pointer c) w λw=>wA a λe=>af .u64 (e.add 3) w λf=>rW f 1 w λg w=>wA a λi=>St (i.add 3) (.int .u64 g) w λw=>zj Q a w
noncomputable def x7:cv:=[(4,sp 0 28 (.op 28 (sp 29 2 .done)))]
def Fs (Q):Bk 70 Tryz.f163 (yS Q) 7 [(0,.p)] (zj Q):=aU (ok 70) x7 []
def Qr (Q):Bk 70 Tryz.f163 (yS Q) 5 [(0,.p),(1,.i .i64)] (ox Q):=aU (ok 70) x7 [aM (Fs Q)]
def MO:=λa b w Q=>bB (wq a b w Q) (cond a.isNone (Q none w) (wA a λc=>bg (c.add 1) w λd=>e_ d b w λe w=>cond (e==0) (Q none w) (wA a λf=>bg f w λg=>wv g w λi w=>wA a λj=>bg (j.add 2) w.drew λl=>cond l.isNone (ox Q a b w.drew) (wA a λm=>bg (m.add 2) w.drew λn=>wA n λo=>af .i64 o w.drew λp=>cond (p !=b) (ox Q a b w.drew) (wA a λq=>bg (q.add 2) w.drew λr=>wA r λs=>af .i64 (s.add 1) w.drew λt=>wA a λu=>bg (u.add 1) w.drew λv=>fZ v w.drew λx w=>w.cell? (s.add 1)=some (ae t)/\w.cell? (q.add 2)=some (.pointer r)/\cond (t !=x) (ox Q a b w) (zj Q a w)))))) (ok 70) x7 [aM (Qr Q),aM (Fs Q)] Tryz.func163
def xl (Q:WP)(a:OA)(b:Addr)(w:World):Prop:=af .i64 (b.add 3) w λc=>cond (c==(-1)) (af .i64 (b.add 2) w λd=>wA a λe=>St (e.add 4) (ae d) w λw=>Q w) (wA a λf=>aA (f.add 1) w.drew λg i j=>af .i64 (b.add 3) w.drew λl=>af .i64 (b.add 2) w.drew λm=>aJ l i<|wA g λn=>St ((n.add (l.toNat*4)).add 2) (ae m) w.drew λw=>Q w)
noncomputable def Hh:cv:=[(3,sp 0 10 (.op 10 .done)),(6,sp 0 10 (.op 10 .done))]
def VS (Q):Bk 48 Tryz.f212 (IT Q) 4 [(0,.p),(4,.a)] (xl Q):=aU (ok 48) Hh []
def So:=λa b w Q=>bB (tW a b w Q) (wA a λc=>aA (c.add 1) w λd e f=>aJ b e<|wA d λg=>af .i64 ((g.add (b.toNat*4)).add 0) w λi=>af .i64 ((g.add (b.toNat*4)).add 1) w λj=>af .i64 ((g.add (b.toNat*4)).add 2) w λl=>af .i64 ((g.add (b.toNat*4)).add 3) w λm=>Al T 334 w λn w=>St (n.add 0) (ae i) w λw=>St (n.add 1) (ae j) w λw=>St (n.add 2) (ae l) w λw=>St (n.add 3) (ae m) w λw=>af .i64 (n.add 2) w λo=>cond (o==(-1)) (af .i64 (n.add 3) w λp=>wA a λq=>St (q.add 3) (ae p) w λw=>xl Q a n w) (wA a λr=>aA (r.add 1) w.drew λs t u=>af .i64 (n.add 2) w.drew λv=>af .i64 (n.add 3) w.drew λx=>aJ v t<|wA s λy=>St ((y.add (v.toNat*4)).add 3) (ae x) w.drew λw=>xl Q a n w)) (ok 48) Hh [aM (VS Q)] Tryz.func212
def Aj (Q:WP)(a:OA)(b:Int)(w:World):Prop:=wA a λc=>St (c.add 3) (ae b) w λw=>Q w
noncomputable def JW:cv:=[(0,sp 0 16 (.op 16 (sp 17 2 (.op 19 .done)))),(3,sp 0 11 (.op 11 .done))]
def ZJ (Q):Bk 46 Tryz.f213 (K8 Q) 4 [(0,.p),(1,.i .i64)] (Aj Q):=aU (ok 46) JW []
def VT:=λa b w Q=>bB (w9 a b w Q) (wA a λc=>aA (c.add 1) w.drew λd e f=>wA a λg=>aA (g.add 1) w.drew λi j l=>wA a λm=>af .i64 (m.add 3) w.drew λn=>aJ b e<|wA d λo=>St ((o.add (b.toNat*4)).add 2) (ae (-1)) w.drew λw=>aJ b j<|wA i λp=>St ((p.add (b.toNat*4)).add 3) (ae n) w λw=>wA a λq=>af .i64 (q.add 3) w λr=>cond (r==(-1)) (wA a λs=>St (s.add 4) (ae b) w λw=>Aj Q a b w) (wA a λt=>aA (t.add 1) w.drew λu v x=>wA a λy=>af .i64 (y.add 3) w.drew λz=>aJ z v<|wA u λa1=>St ((a1.add (z.toNat*4)).add 2) (ae b) w.drew λw=>Aj Q a b w)) (ok 46) JW [aM (ZJ Q)] Tryz.func213
def nZ (Q:Int->Bool->Bool->WP)(a:OA)(b:Int)(c d:Bool)(e:Addr)(w:World):Prop:=wA a λf=>cu (f.add 2) w.drew λg=>af .i64 (e.add 0) w.drew λi=>af .i64 (e.add 1) w.drew λj=>bD P (Instr.mapUpdate 180 (.map g) (.agg #[ae i,ae j]) (ae b)) w.drew λw=>w9 a b w λw=>Q b c d w
noncomputable def Lo:cv:=[(4,sp 0 5 (.op 5 (sp 6 3 (.op 9 (.op 10 .done))))),(7,sp 0 12 (.op 12 .done)),(8,sp 0 8 (.op 8 .done)),(11,sp 0 10 (.op 10 .done)),(13,sp 0 7 (.op 7 (.op 8 (sp 9 2 (.op 11 .done))))),(14,sp 0 6 (.op 6 .done))]
def ZK (Q):Bk 95 Tryz.f180 (Nl Q) 14 [(0,.p),(6,.i .i64),(7,.b),(8,.b),(9,.a)] (nZ Q):=aU (ok 95) Lo []
def X2:=λa b c w Q=>bB (Dx a b c w Q) (cond a.isNone (Q (-1) false false w) (Al T 253 w λd w=>St (d.add 0) (ae b) w λw=>St (d.add 1) (ae c) w λw=>wA a λe=>cu (e.add 2) w.drew λf=>af .i64 (d.add 0) w.drew λg=>af .i64 (d.add 1) w.drew λi=>aL P (Instr.lookup 180 (.map f) (.agg #[ae g,ae i]) true) w.drew λj w=>dT j λl=>dH l λm n=>dI .i64 m λo=>dH n λp q=>dB p λr=>kL q<|cond r (tW a o w λw=>nZ Q a o r false d w) (wA a λs=>aA (s.add 1) w.drew λt u v=>wA a λx=>af .i64 x w.drew λy=>cond (decide ((u:Int)<y)) (wA a λz=>aA (z.add 1) w.drew λa1 b1 c1=>wA a λd1=>aA (d1.add 1) w.drew.drew λe1 f1 g1=>af .i64 (d.add 0) w.drew.drew λi1=>af .i64 (d.add 1) w.drew.drew λj1=>Bx [ae i1,ae j1,ae 0,ae 0] 334 w.drew.drew λl1 w=>w.cell? (d1.add 1)=some (.slice e1 f1 g1)/\App P #[179,179] 179 (.slice e1 f1 g1) (.slice (some l1) 1 1) w λm1 n1 o1 w=>wA a λp1=>St (p1.add 1) (.slice m1 n1 o1) w λw=>nZ Q a (b1:Int) r false d w) (wA a λq1=>af .i64 (q1.add 4) w.drew λr1=>tW a r1 w.drew λw=>wA a λs1=>cu (s1.add 2) w.drew λt1=>wA a λu1=>aA (u1.add 1) w.drew λv1 x1 y1=>aJ r1 x1<|wA v1 λz1=>af .i64 ((z1.add (r1.toNat*4)).add 0) w.drew λa2=>af .i64 ((z1.add (r1.toNat*4)).add 1) w.drew λb2=>aL P (Builtin.delete_ #[180,253] 0 [.map t1,.agg #[ae a2,ae b2]].toArray) w.drew λc2 w=>wA a λd2=>aA (d2.add 1) w.drew λe2 f2 g2=>af .i64 (d.add 0) w.drew λi2=>af .i64 (d.add 1) w.drew λj2=>aJ r1 f2<|wA e2 λl2=>St ((l2.add (r1.toNat*4)).add 0) (ae i2) w.drew λw=>St ((l2.add (r1.toNat*4)).add 1) (ae j2) w λw=>nZ Q a r1 r true d w)))) (ok 95) Lo [aM (ZK Q)] Tryz.func180
def g6 (Q:Bool->WP)(R4:L3 (L3 (Int->Int->WP)))(a:OA)(b c:Nat)(d:OA)(e f:Nat)(g i:Int)(w:World):Prop:=cond (decide (i<g)) (aJ i b<|wA a λj=>af .i64 ((j.add (i.toNat*3)).add 0) w.drew λl=>af .i64 ((j.add (i.toNat*3)).add 1) w.drew λm=>af .i64 ((j.add (i.toNat*3)).add 2) w.drew λn=>aJ i e<|wA d λo=>af .i64 ((o.add (i.toNat*3)).add 0) w.drew λp=>af .i64 ((o.add (i.toNat*3)).add 1) w.drew λq=>af .i64 ((o.add (i.toNat*3)).add 2) w.drew λr=>bX P .neq 294 (.tmp 19) (.tmp 23) (.agg #[ae l,ae m,ae n]) (.agg #[ae p,ae q,ae r]) w.drew λs w=>cond s (Q false w) (R4 a b c d e f g (IntKind.wrap .i64 (i+1)) w)) (Q true w)
def fP (Q:Bool->WP):Nat->L3 (L3 (Int->Int->WP))
 |0,_,_,_,_,_,_,_,_,_=>False
 |k+1,a,b,c,d,e,f,g,i,w=>g6 Q (fP Q k) a b c d e f g i w
noncomputable def r_:cv:=[(6,sp 0 8 (.op 8 .done))]
def DH (Q):∀k,Bk 26 Tryz.f214 (sX Q) 4 [(0,.l),(1,.l),(12,.i .i64),(13,.i .i64)] (fP Q k):=bK λk h=>aU (ok 26) r_ [aM h]
def Ce:=λa b c d e f w Q=>bB (rI a b c d e f w Q) (cond ((b:Int) !=(e:Int)) (Q false w) (∃k',fP Q k' a b c d e f (b:Int) 0 w)) (ok 26) r_ [ct (DH Q)] Tryz.func214
def ZL:=λa b c d e f w Q=>bB (EM a b c d e f w Q) (rI a b c d e f w λg w=>Q g w) (ok 8) [] [] Tryz.func181
def abt:=λa w Q=>bB (r6 a w Q) (wA a λb=>af .u64 b w λc=>rW c 1 w λd w=>wA a λe=>St e (.int .u64 d) w λw=>Q w) (ok 8) [] [] Tryz.func182
noncomputable def adH:cv:=[(1,sp 0 2 (sp 3 2 (.op 2 (.op 5 (.op 6 (.op 7 .done))))))]
def abu:=λa b c d e f w Q=>bB (Bi a b c d e f w Q) (Bx [.slice a b c,.slice d e f] 213 w λg w=>Al T 213 w λi w=>aA g w.drew λj l m=>aA (g.add 1) w.drew λn o p=>kO j l m w.drew λq r s w=>w.cell? (g.add 1)=some (.slice n o p)/\kO n o p w λt u v w=>St (i.add 0) (.slice q r s) w λw=>St (i.add 1) (.slice t u v) w λw=>aA (i.add 0) w λx y z=>aA (i.add 1) w λa1 b1 c1=>Q x y z a1 b1 c1 w) (ok 10) adH [] Tryz.func183
def CZ (P3:Int->Int->Int->Bool->L3 (Int->Int->WP))(Q:Int->WP)(a b:Int)(c:Addr)(d:OA)(e f:Nat)(g i:Int)(w:World):Prop:=af .i64 (c.add 2) w λj=>P3 a b j true d e f g (IntKind.wrap .i64 (i+1)) w
def zk (Q:Int->WP)(R3:Int->Int->Int->Bool->L3 (Int->Int->WP))(a b c:Int)(d:Bool)(e:OA)(f g:Nat)(i j:Int)(w:World):Prop:=cond (decide (j<i)) (aJ j f<|wA e λl=>af .i64 ((l.add (j.toNat*3)).add 0) w λm=>af .i64 ((l.add (j.toNat*3)).add 1) w λn=>af .i64 ((l.add (j.toNat*3)).add 2) w λo=>Al T 294 w λp w=>St (p.add 0) (ae m) w λw=>St (p.add 1) (ae n) w λw=>St (p.add 2) (ae o) w λw=>af .i64 p w λq=>cond (q==a) (af .i64 (p.add 1) w λr=>cond (r==b) (cond (!d) (CZ R3 Q a b p e f g i j w) (af .i64 (p.add 2) w λs=>cond (decide (s<c)) (CZ R3 Q a b p e f g i j w) (R3 a b c d e f g i (IntKind.wrap .i64 (j+1)) w))) (R3 a b c d e f g i (IntKind.wrap .i64 (j+1)) w)) (R3 a b c d e f g i (IntKind.wrap .i64 (j+1)) w)) (Q c w)
def oy (Q:Int->WP):Nat->Int->Int->Int->Bool->L3 (Int->Int->WP)
 |0,_,_,_,_,_,_,_,_,_,_=>False
 |k+1,a,b,c,d,e,f,g,i,j,w=>zk Q (oy Q k) a b c d e f g i j w
def adI {P3}(Q)(H3:Bk 41 Tryz.f237 (CM Q) 3 [(1,.i .i64),(2,.i .i64),(7,.i .i64),(8,.b),(11,.l),(12,.i .i64),(13,.i .i64)] P3):Bk 41 Tryz.f237 (CM Q) 6 [(1,.i .i64),(2,.i .i64),(10,.a),(11,.l),(12,.i .i64),(13,.i .i64)] (CZ P3 Q):=aU (ok 41) [] [aM H3]
def adJ (Q):∀k,Bk 41 Tryz.f237 (CM Q) 3 [(1,.i .i64),(2,.i .i64),(7,.i .i64),(8,.b),(11,.l),(12,.i .i64),(13,.i .i64)] (oy Q k):=bK λk h=>aU (ok 41) [] [aM h,aM (adI Q h)]
def ZM:=λa b c d e w Q=>bB (Ac a b c d e w Q) (∃k',oy Q k' d e 1099511627776 false a b c (b:Int) 0 w) (ok 41) [] [ct (adJ Q)] Tryz.func237
def qD (Q:Int->WP)(a b c:Int)(w:World):Prop:=cond (b==3) (cond (decide (c>0)) (Q (IntKind.wrap .i64 (a-1)) w) (Q (-1) w)) (Q (-1) w)
def qE (Q:Int->WP)(a:OA)(b c d e:Int)(w:World):Prop:=cond (c==2) (wA a λf=>af .i64 (f.add 1) w λg=>cond (decide (e<(IntKind.wrap .i64 (g-1)))) (wA a λi=>af .i64 i w λj=>Q (IntKind.wrap .i64 (b+j)) w) (qD Q b c d w)) (qD Q b c d w)
def qF (Q:Int->WP)(a:OA)(b c d e:Int)(w:World):Prop:=cond (c==1) (wA a λf=>af .i64 f w λg=>cond (decide (d<(IntKind.wrap .i64 (g-1)))) (Q (IntKind.wrap .i64 (b+1)) w) (qE Q a b c d e w)) (qE Q a b c d e w)
noncomputable def um:cv:=[(1,sp 0 14 (.op 14 (.op 15 .done)))]
def UB (Q):Bk 81 Tryz.f277 (vG Q) 8 [(1,.i .i64),(2,.i .i64),(7,.i .i64)] (qD Q):=aU (ok 81) um []
def UC (Q):Bk 81 Tryz.f277 (vG Q) 6 [(0,.p),(1,.i .i64),(2,.i .i64),(7,.i .i64),(8,.i .i64)] (qE Q):=aU (ok 81) um [aM (UB Q)]
def UD (Q):Bk 81 Tryz.f277 (vG Q) 4 [(0,.p),(1,.i .i64),(2,.i .i64),(7,.i .i64),(8,.i .i64)] (qF Q):=aU (ok 81) um [aM (UC Q)]
def Qs:=λa b c w Q=>bB (yY a b c w Q) (wA a λd=>af .i64 d w.drew λe=>NZ e<|wA a λf=>af .i64 f w.drew λg=>NZ g<|w.drew.cell? f=some (ae g)/\cond (c==0) (cond (decide ((IntKind.wrap .i64 (Int.tdiv b g))>0)) (wA a λi=>af .i64 i w.drew λj=>Q (IntKind.wrap .i64 (b-j)) w.drew) (qF Q a b c (Int.tmod b e) (IntKind.wrap .i64 (Int.tdiv b g)) w.drew)) (qF Q a b c (Int.tmod b e) (IntKind.wrap .i64 (Int.tdiv b g)) w.drew)) (ok 81) um [aM (UD Q)] Tryz.func277
noncomputable def VU:cv:=[(3,sp 0 6 (sp 7 7 (.op 6 (.op 14 (.op 15 .done))))),(4,sp 0 36 (.op 36 .done))]
def UE:=λa b c w Q=>bB (nD a b c w Q) (yY a b c w λd w=>cond (decide (d<0)) (wA a λe=>aA (e.add 3) w.drew λf g i=>wA a λj=>aA (j.add 4) w.drew λl m n=>aJ b m<|wA l λo=>af .i64 (o.add (b.toNat*1)) w.drew λp=>Ac f g i b c w.drew λq w=>w.cell? (o.add (b.toNat*1))=some (ae p)/\w.cell? (j.add 4)=some (.slice l m n)/\Q (q==p) w) (wA a λr=>aA (r.add 2) w.drew λs t u=>aJ d t<|wA s λv=>af .u8 (v.add (d.toNat*1)) w.drew λx=>cond (x !=255) (wA a λy=>aA (y.add 2) w.drew λz a1 b1=>aJ d a1<|wA z λc1=>af .u8 (c1.add (d.toNat*1)) w.drew λd1=>wA a λe1=>aA (e1.add 4) w.drew λf1 g1 i1=>aJ d g1<|wA f1 λj1=>af .i64 (j1.add (d.toNat*1)) w.drew λl1=>wA a λm1=>aA (m1.add 4) w.drew λn1 o1 p1=>aJ b o1<|wA n1 λq1=>af .i64 (q1.add (b.toNat*1)) w.drew λr1=>Q ((IntKind.wrap .i64 ((IntKind.wrap .i64 d1)+l1))==r1) w.drew) (Q false w.drew))) (ok 65) VU [] Tryz.func263
def sj (Q:Int->WP)(a:OA)(b:Int)(w:World):Prop:=nD a b 3 w λc w=>cond c (Q 3 w) (Q 5 w)
def sq (Q:Int->WP)(a:OA)(b:Int)(w:World):Prop:=nD a b 2 w λc w=>cond c (Q 2 w) (sj Q a b w)
def uo (Q:Int->WP)(a:OA)(b:Int)(w:World):Prop:=nD a b 1 w λc w=>cond c (Q 1 w) (sq Q a b w)
def Ft (Q):Bk 28 Tryz.f238 (tZ Q) 12 [(0,.p),(1,.i .i64)] (sj Q):=aU (ok 28) [] []
def Fu (Q):Bk 28 Tryz.f238 (tZ Q) 10 [(0,.p),(1,.i .i64)] (sq Q):=aU (ok 28) [] [aM (Ft Q)]
def Sp (Q):Bk 28 Tryz.f238 (tZ Q) 8 [(0,.p),(1,.i .i64)] (uo Q):=aU (ok 28) [] [aM (Fu Q)]
def OF:=λa b c w Q=>bB (DW a b c w Q) (cond (c==0) (nD a b 0 w λd w=>cond d (Q 0 w) (uo Q a b w)) (cond (c==1) (uo Q a b w) (cond (c==2) (sq Q a b w) (cond (c==3) (sj Q a b w) (Q 5 w))))) (ok 28) [] [aM (Sp Q),aM (Fu Q),aM (Ft Q)] Tryz.func238
def Sq:=λa b w Q=>bB (z_ a b w Q) (wA a λc=>aA (c.add 4) w λd e f=>aJ b e<|wA d λg=>af .i64 (g.add (b.toNat*1)) w λi=>cond (i==1099511627776) (Q 5 w) (wA a λj=>aA (j.add 3) w λl m n=>Ac l m n b 4 w λo w=>cond (i==o) (Q 4 w) (DW a b 0 w λp w=>Q p w))) (ok 25) [] [] Tryz.func217
def xm (Q:L3 (L3 (Int->WP)))(R7:Addr->Addr->Addr->Int->Int->WP)(a b c:Addr)(d e:Int)(w:World):Prop:=cond (decide (e<d)) (aA (c.add 1) w.drew λf g i=>z_ (some b) e w.drew λj w=>w.cell? (c.add 1)=some (.slice f g i)/\Bx [ae j] 3 w λl w=>w.cell? (c.add 1)=some (.slice f g i)/\App P #[29,29] 29 (.slice f g i) (.slice (some l) 1 1) w λm n o w=>St (c.add 1) (.slice m n o) w λw=>R7 a b c d (IntKind.wrap .i64 (e+1)) w) (aA (c.add 0) w λp q r=>aA (c.add 1) w λs t u=>St (a.add 0) (.slice p q r) w λw=>St (a.add 1) (.slice s t u) w λw=>aA (a.add 0) w λv x y=>aA (a.add 1) w λz a1 b1=>Q v x y z a1 b1 0 w)
def su (Q:L3 (L3 (Int->WP))):Nat->Addr->Addr->Addr->Int->Int->WP
 |0,_,_,_,_,_,_=>False
 |k+1,a,b,c,d,e,w=>xm Q (su Q k) a b c d e w
noncomputable def Lp:cv:=[(9,sp 0 4 (.op 4 (.op 5 (.op 6 (.op 7 (.op 8 .done))))))]
def abv (Q):∀k,Bk 43 Tryz.f184 (Nm Q) 7 [(4,.a),(8,.a),(9,.a),(29,.i .i64),(30,.i .i64)] (su Q k):=bK λk h=>aU (ok 43) Lp [aM h]
def X3:=λa b c d e f g i w Q=>bB (Dy a b c d e f g i w Q) (Bx [ae a,ae b,.slice c d e] 84 w λj w=>Al T 213 w λl w=>af .i64 (j.add 0) w λm=>af .i64 (j.add 1) w λn=>aA (j.add 2) w λo p q=>w_ m n o p q f g i w λr s t u w=>cond (u !=0) (St (l.add 0) (.slice none 0 0) w λw=>St (l.add 1) (.slice none 0 0) w λw=>aA (l.add 0) w λv x y=>aA (l.add 1) w λz a1 b1=>Q v x y z a1 b1 u w) (af .i64 (j.add 0) w λc1=>af .i64 (j.add 1) w λd1=>aA (j.add 2) w λe1 f1 g1=>Bx [ae c1,ae d1,.slice e1 f1 g1,.slice f g i,.slice r s t] 340 w λi1 w=>Al T 213 w λj1 w=>St (j1.add 0) (.slice r s t) w λw=>St (j1.add 1) (.slice none 0 0) w λw=>∃k',su Q k' l i1 j1 (s:Int) 0 w)) (ok 43) Lp [ct (abv Q)] Tryz.func184
def A9 (Q:L3 (L3 (Int->WP)))(a:Addr)(w:World):Prop:=St (a.add 0) (.slice none 0 0) w λw=>St (a.add 1) (.slice none 0 0) w λw=>aA (a.add 0) w λb c d=>aA (a.add 1) w λe f g=>Q b c d e f g 1 w
def pF (Q:L3 (L3 (Int->WP)))(a:OA)(b:Int)(c:OA)(d e:Nat)(f g i:Addr)(w:World):Prop:=wA a λj=>r6 (some ((j.add 2).add 2)) w λw=>af .i64 (f.add 0) w λl=>af .i64 (f.add 1) w λm=>aA (f.add 2) w λn o p=>Dy l m n o p c d e w λq r s t u v x w=>Al T 213 w λy w=>St (y.add 0) (.slice q r s) w λw=>St (y.add 1) (.slice t u v) w λw=>aA (y.add 0) w.drew λz a1 b1=>aA (y.add 1) w.drew λc1 d1 e1=>ji c d e w.drew λf1 g1 i1 w=>w.cell? (y.add 0)=some (.slice z a1 b1)/\w.cell? (y.add 1)=some (.slice c1 d1 e1)/\St (i.add 0) (ae b) w λw=>St (i.add 1) (.slice f1 g1 i1) w λw=>St (i.add 2) (.slice z a1 b1) w λw=>St (i.add 3) (.slice c1 d1 e1) w λw=>aA (y.add 0) w λj1 l1 m1=>aA (y.add 1) w λn1 o1 p1=>Bi j1 l1 m1 n1 o1 p1 w λq1 r1 s1 t1 u1 v1 w=>St (g.add 0) (.slice q1 r1 s1) w λw=>St (g.add 1) (.slice t1 u1 v1) w λw=>aA (g.add 0) w λx1 y1 z1=>aA (g.add 1) w λa2 b2 c2=>Q x1 y1 z1 a2 b2 c2 0 w
def pG (Q:L3 (L3 (Int->WP)))(a:OA)(b:Int)(c:OA)(d e:Nat)(f g:Addr)(i:Bool)(j:Addr)(w:World):Prop:=cond i (wA a λl=>r6 (some ((l.add 2).add 5)) w λw=>pF Q a b c d e f g j w) (pF Q a b c d e f g j w)
def jm (Q:L3 (L3 (Int->WP)))(a:OA)(b:Int)(c:OA)(d e:Nat)(f g:Addr)(i j:Bool)(l:Addr)(w:World):Prop:=cond i (wA a λm=>r6 (some ((m.add 2).add 4)) w λw=>pG Q a b c d e f g j l w) (pG Q a b c d e f g j l w)
def qG (Q:L3 (L3 (Int->WP)))(a:OA)(b:Int)(c:OA)(d e:Nat)(f g:Addr)(i:Int)(j l:Bool)(w:World):Prop:=wA a λm=>aA (m.add 1) w λn o p=>aJ i o<|wA n λq=>cond j (af .i64 (q.add (i.toNat*4)) w λr=>cond (r==b) (aA ((q.add (i.toNat*4)).add 1) w λs t u=>EM s t u c d e w λv w=>cond v (wA a λx=>r6 (some ((x.add 2).add 3)) w λw=>aA (((q.add (i.toNat*4)).add 2).add 0) w λy z a1=>aA (((q.add (i.toNat*4)).add 2).add 1) w λb1 c1 d1=>Bi y z a1 b1 c1 d1 w λe1 f1 g1 i1 j1 l1 w=>St (g.add 0) (.slice e1 f1 g1) w λw=>St (g.add 1) (.slice i1 j1 l1) w λw=>aA (g.add 0) w λm1 n1 o1=>aA (g.add 1) w λp1 q1 r1=>Q m1 n1 o1 p1 q1 r1 0 w) (jm Q a b c d e f g j l (q.add (i.toNat*4)) w)) (jm Q a b c d e f g j l (q.add (i.toNat*4)) w)) (jm Q a b c d e f g j l (q.add (i.toNat*4)) w)
noncomputable def mR:cv:=[(16,sp 0 3 (.op 4 (.op 3 (sp 5 2 (.op 7 .done)))))]
def UF (Q):Bk 122 Tryz.f164 (nC Q) 2 [(12,.a)] (A9 Q):=aU (ok 122) mR []
def Sr (Q):Bk 122 Tryz.f164 (nC Q) 14 [(0,.p),(3,.i .i64),(5,.l),(10,.a),(12,.a),(17,.a)] (pF Q):=aU (ok 122) mR []
def Ss (Q):Bk 122 Tryz.f164 (nC Q) 12 [(0,.p),(3,.i .i64),(5,.l),(10,.a),(12,.a),(16,.b),(17,.a)] (pG Q):=aU (ok 122) mR [aM (Sr Q)]
def Su (Q):Bk 122 Tryz.f164 (nC Q) 10 [(0,.p),(3,.i .i64),(5,.l),(10,.a),(12,.a),(15,.b),(16,.b),(17,.a)] (jm Q):=aU (ok 122) mR [aM (Ss Q)]
def UG (Q):Bk 122 Tryz.f164 (nC Q) 6 [(0,.p),(3,.i .i64),(5,.l),(10,.a),(12,.a),(14,.i .i64),(15,.b),(16,.b)] (qG Q):=aU (ok 122) mR [aM (Su Q)]
def Qt:=λa b c d e f g i j l m n w Q=>bB (n9 a b c d e f g i j l m n w Q) (Bx [ae e,ae f,.slice g i j] 84 w λo w=>Al T 213 w λp w=>cond a.isNone (A9 Q p w) (af .i64 (o.add 0) w λq=>af .i64 (o.add 1) w λr=>aA (o.add 2) w λs t u=>Bh q r s t u l m n w λv w=>cond (!v) (A9 Q p w) (wA a λx=>bg x w λy=>Dx y b c w λz a1 b1 w=>wA a λc1=>aA (c1.add 1) w λd1 e1 f1=>cond (z==(e1:Int)) (wA a λg1=>aA (g1.add 1) w λi1 j1 l1=>Bx [ae 0,.slice none 0 0,.slice none 0 0,.slice none 0 0] 303 w λm1 w=>App P #[133,133] 133 (.slice i1 j1 l1) (.slice (some m1) 1 1) w λn1 o1 p1 w=>wA a λq1=>St (q1.add 1) (.slice n1 o1 p1) w λw=>qG Q a d l m n o p z a1 b1 w) (qG Q a d l m n o p z a1 b1 w)))) (ok 122) mR [aM (UF Q),aM (UG Q)] Tryz.func164
def yw (Q:L3 (L3 (Value->WP)))(a:Int)(b:Addr)(w:World):Prop:=bZ (aZ 2) w.drew λc=>dV c λd=>(Bx [ae a,d] 275 w.drew λe w=>St (b.add 0) (.slice none 0 0) w λw=>St (b.add 1) (.slice none 0 0) w λw=>w.cell? (aZ 2)=some c/\aA (b.add 0) w λf g i=>aA (b.add 1) w λj l m=>Q f g i j l m (.iface 273 (.pointer (some e))) w)/\(St (b.add 0) (.slice none 0 0) w.drew λw=>St (b.add 1) (.slice none 0 0) w λw=>w.cell? (aZ 2)=some c/\Bx [ae a,d] 275 w λn w=>aA (b.add 0) w λo p q=>aA (b.add 1) w λr s t=>Q o p q r s t (.iface 273 (.pointer (some n))) w)
def tj (Q:L3 (L3 (Value->WP)))(a:Int)(b:Addr)(w:World):Prop:=bZ (aZ 3) w.drew λc=>dV c λd=>(Bx [ae a,d] 275 w.drew λe w=>St (b.add 0) (.slice none 0 0) w λw=>St (b.add 1) (.slice none 0 0) w λw=>w.cell? (aZ 3)=some c/\aA (b.add 0) w λf g i=>aA (b.add 1) w λj l m=>Q f g i j l m (.iface 273 (.pointer (some e))) w)/\(St (b.add 0) (.slice none 0 0) w.drew λw=>St (b.add 1) (.slice none 0 0) w λw=>w.cell? (aZ 3)=some c/\Bx [ae a,d] 275 w λn w=>aA (b.add 0) w λo p q=>aA (b.add 1) w λr s t=>Q o p q r s t (.iface 273 (.pointer (some n))) w)
def jG (Q:L3 (L3 (Value->WP)))(a:Int)(b c:Addr)(d:Int)(w:World):Prop:=cond (d !=0) (bZ (aZ 4) w.drew λe=>dV e λf=>(Bx [ae a,f] 275 w.drew λg w=>St (b.add 0) (.slice none 0 0) w λw=>St (b.add 1) (.slice none 0 0) w λw=>w.cell? (aZ 4)=some e/\aA (b.add 0) w λi j l=>aA (b.add 1) w λm n o=>Q i j l m n o (.iface 273 (.pointer (some g))) w)/\(St (b.add 0) (.slice none 0 0) w.drew λw=>St (b.add 1) (.slice none 0 0) w λw=>w.cell? (aZ 4)=some e/\Bx [ae a,f] 275 w λp w=>aA (b.add 0) w λq r s=>aA (b.add 1) w λt u v=>Q q r s t u v (.iface 273 (.pointer (some p))) w)) (aA (c.add 0) w λx y z=>aA (c.add 1) w λa1 b1 c1=>St (b.add 0) (.slice x y z) w λw=>St (b.add 1) (.slice a1 b1 c1) w λw=>aA (b.add 0) w λd1 e1 f1=>aA (b.add 1) w λg1 i1 j1=>Q d1 e1 f1 g1 i1 j1 (.nilIface) w)
noncomputable def xo:cv:=[(2,sp 0 4 (.br (.op 4 (.op 5 (.op 6 (.op 7 .done)))) (.op 6 (.op 4 (.op 5 (.op 7 .done)))))),(5,sp 0 4 (.br (.op 4 (.op 5 (.op 6 (.op 7 .done)))) (.op 6 (.op 4 (.op 5 (.op 7 .done)))))),(6,sp 0 9 (.op 10 (.op 9 (.op 11 (.op 12 .done))))),(7,sp 0 11 (sp 12 2 (.br (.op 11 (.br (.op 14 (sp 15 3 (.op 18 (.op 19 (.op 20 .done))))) (.op 18 (.op 14 (sp 15 3 (.op 19 (.op 20 .done))))))) (.op 18 (.op 11 (.op 14 (sp 15 3 (.op 19 (.op 20 .done))))))))),(9,sp 0 4 (.br (.op 4 (.op 5 (.op 6 (.op 7 .done)))) (.op 6 (.op 4 (.op 5 (.op 7 .done))))))]
def X4 (Q):Bk 93 Tryz.f150 (yn Q) 2 [(1,.i .i64),(6,.a)] (yw Q):=aU (ok 93) xo []
def X5 (Q):Bk 93 Tryz.f150 (yn Q) 5 [(1,.i .i64),(6,.a)] (tj Q):=aU (ok 93) xo []
def X6 (Q):Bk 93 Tryz.f150 (yn Q) 8 [(1,.i .i64),(6,.a),(11,.a),(12,.i .i64)] (jG Q):=aU (ok 93) xo []
def UH:=λa b c w Q=>bB (vB a b c w Q) (Al T 213 w λd w=>cond a.isNone (yw Q b d w) (wA a λe=>bg e w λf=>cond f.isNone (yw Q b d w) (wA a λg=>bg g w λi=>tS i c w λj l m n o p w=>Al T 84 w λq w=>St (q.add 0) (ae j) w λw=>St (q.add 1) (ae l) w λw=>St (q.add 2) (.slice m n o) w λw=>wA a λr=>bg r w λs=>e_ s b w λt w=>cond (t==0) (tj Q b d w) (cond (!p) (tj Q b d w) (wA a λu=>bg u w.drew λv=>wA a λx=>bg (x.add 2) w.drew λy=>wq y b w.drew λz w=>w.cell? u=some (.pointer v)/\BX v z c w λa1 b1 c1 w=>wA a λd1=>bg (d1.add 3) w.drew λe1=>wA a λf1=>bg f1 w.drew λg1=>af .i64 (q.add 0) w.drew λi1=>af .i64 (q.add 1) w.drew λj1=>aA (q.add 2) w.drew λl1 m1 n1=>(ja g1 c w.drew λo1 w=>w.cell? (q.add 0)=some (ae i1)/\w.cell? (q.add 1)=some (ae j1)/\w.cell? (q.add 2)=some (.slice l1 m1 n1)/\w.cell? (d1.add 3)=some (.pointer e1)/\(n9 e1 b c o1 i1 j1 l1 m1 n1 a1 b1 c1 w λp1 q1 r1 s1 t1 u1 v1 w=>Al T 213 w λx1 w=>w.cell? (q.add 0)=some (ae i1)/\w.cell? (q.add 1)=some (ae j1)/\w.cell? (q.add 2)=some (.slice l1 m1 n1)/\w.cell? f1=some (.pointer g1)/\w.cell? (d1.add 3)=some (.pointer e1)/\St (x1.add 0) (.slice p1 q1 r1) w λw=>St (x1.add 1) (.slice s1 t1 u1) w λw=>jG Q b d x1 v1 w)/\(Al T 213 w λy1 w=>w.cell? (q.add 0)=some (ae i1)/\w.cell? (q.add 1)=some (ae j1)/\w.cell? (q.add 2)=some (.slice l1 m1 n1)/\w.cell? f1=some (.pointer g1)/\w.cell? (d1.add 3)=some (.pointer e1)/\n9 e1 b c o1 i1 j1 l1 m1 n1 a1 b1 c1 w λz1 a2 b2 c2 d2 e2 f2 w=>St (y1.add 0) (.slice z1 a2 b2) w λw=>St (y1.add 1) (.slice c2 d2 e2) w λw=>jG Q b d y1 f2 w))/\(Al T 213 w.drew λg2 w=>w.cell? (q.add 0)=some (ae i1)/\w.cell? (q.add 1)=some (ae j1)/\w.cell? (q.add 2)=some (.slice l1 m1 n1)/\w.cell? f1=some (.pointer g1)/\w.cell? (d1.add 3)=some (.pointer e1)/\ja g1 c w λi2 w=>w.cell? (q.add 0)=some (ae i1)/\w.cell? (q.add 1)=some (ae j1)/\w.cell? (q.add 2)=some (.slice l1 m1 n1)/\w.cell? (d1.add 3)=some (.pointer e1)/\n9 e1 b c i2 i1 j1 l1 m1 n1 a1 b1 c1 w λj2 l2 m2 n2 o2 p2 q2 w=>St (g2.add 0) (.slice j2 l2 m2) w λw=>St (g2.add 1) (.slice n2 o2 p2) w λw=>jG Q b d g2 q2 w)))))) (ok 93) xo [aM (X4 Q),aM (X5 Q),aM (X6 Q)] Tryz.func150
end Go.Proofs.YtmegplnmiepfbaaGreatDoor.S
