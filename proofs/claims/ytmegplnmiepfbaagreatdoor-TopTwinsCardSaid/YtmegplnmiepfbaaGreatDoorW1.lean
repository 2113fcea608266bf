/- Part 2 of the proof. -/
import Derived.Test.YtmegplnmiepfbaaGreatDoorW0
import Derived.Test.YtmegplnmiepfbaaGreatDoorProg
set_option linter.unusedVariables false
set_option linter.unusedSimpArgs false
set_option linter.defProp false
set_option maxRecDepth 100000
namespace Go.Proofs.YtmegplnmiepfbaaGreatDoor.S
open Go.Sx
noncomputable abbrev P:Program:=Go.Proofs.Tryz.prog
noncomputable def rows:List (Nat×TI):=[(0,⟨.uT [],1,0,[.tuple #[]],[]⟩),
 (2,⟨.int .i64,1,8,[.int .i64 0],[.int .i64]⟩),
 (3,⟨.int .i64,1,8,[.int .i64 0],[.int .i64]⟩),
 (4,⟨.bool,1,1,[.bool false],[.bool]⟩),
 (5,⟨.int .u8,1,1,[.int .u8 0],[.int .u8]⟩),
 (9,⟨.str,1,16,[.string .empty],[.str]⟩),
 (17,⟨.ptr,1,8,[.pointer none],[.ptr]⟩),
 (20,⟨.iface,1,16,[.nilIface],[.any]⟩),
 (21,⟨.int .i32,1,4,[.int .i32 0],[.int .i32]⟩),
 (22,⟨.slice 5,1,24,[.slice none 0 0],[.sl]⟩),
 (25,⟨.struct [(0,3),(1,3),(2,22)],3,40,[.int .i64 0,.int .i64 0,.slice none 0 0],[.int .i64,.int .i64,.sl]⟩),
 (26,⟨.ptr,1,8,[.pointer none],[.ptr]⟩),
 (28,⟨.slice 51,1,24,[.slice none 0 0],[.sl]⟩),
 (29,⟨.slice 3,1,24,[.slice none 0 0],[.sl]⟩),
 (30,⟨.int .u64,1,8,[.int .u64 0],[.int .u64]⟩),
 (32,⟨.struct [(0,30),(1,30),(2,30),(3,30),(4,30),(5,30)],6,48,[.int .u64 0,.int .u64 0,.int .u64 0,.int .u64 0,.int .u64 0,.int .u64 0],[.int .u64,.int .u64,.int .u64,.int .u64,.int .u64,.int .u64]⟩),
 (34,⟨.struct [(0,3),(1,3),(2,3),(3,3),(4,28),(5,29),(6,32)],12,128,[.int .i64 0,.int .i64 0,.int .i64 0,.int .i64 0,.slice none 0 0,.slice none 0 0,.int .u64 0,.int .u64 0,.int .u64 0,.int .u64 0,.int .u64 0,.int .u64 0],[.int .i64,.int .i64,.int .i64,.int .i64,.sl,.sl,.int .u64,.int .u64,.int .u64,.int .u64,.int .u64,.int .u64]⟩),
 (38,⟨.struct [(0,3),(1,3),(2,3),(3,22)],4,48,[.int .i64 0,.int .i64 0,.int .i64 0,.slice none 0 0],[.int .i64,.int .i64,.int .i64,.sl]⟩),
 (39,⟨.slice 43,1,24,[.slice none 0 0],[.sl]⟩),
 (43,⟨.struct [(0,3),(1,3),(2,3)],3,24,[.int .i64 0,.int .i64 0,.int .i64 0],[.int .i64,.int .i64,.int .i64]⟩),
 (45,⟨.slice 90,1,24,[.slice none 0 0],[.sl]⟩),
 (46,⟨.slice 38,1,24,[.slice none 0 0],[.sl]⟩),
 (49,⟨.slice 4,1,24,[.slice none 0 0],[.sl]⟩),
 (51,⟨.struct [(0,3),(1,3)],2,16,[.int .i64 0,.int .i64 0],[.int .i64,.int .i64]⟩),
 (55,⟨.uT [3,3,4],1,0,[.tuple #[.int .i64 0,.int .i64 0,.bool false]],[]⟩),
 (64,⟨.slice 34,1,24,[.slice none 0 0],[.sl]⟩),
 (68,⟨.ptr,1,8,[.pointer none],[.ptr]⟩),
 (70,⟨.ptr,1,8,[.pointer none],[.ptr]⟩),
 (72,⟨.struct [(0,3),(1,68),(2,70)],3,24,[.int .i64 0,.pointer none,.pointer none],[.int .i64,.ptr,.ptr]⟩),
 (74,⟨.iface,1,16,[.nilIface],[.any]⟩),
 (76,⟨.ptr,1,8,[.pointer none],[.ptr]⟩),
 (78,⟨.ptr,1,8,[.pointer none],[.ptr]⟩),
 (80,⟨.struct [(0,3),(1,74)],2,24,[.int .i64 0,.nilIface],[.int .i64,.any]⟩),
 (81,⟨.int .u64,1,8,[.int .u64 0],[.int .u64]⟩),
 (82,⟨.uT [3,22],1,0,[.tuple #[.int .i64 0,.slice none 0 0]],[]⟩),
 (84,⟨.struct [(0,3),(1,3),(2,22)],3,40,[.int .i64 0,.int .i64 0,.slice none 0 0],[.int .i64,.int .i64,.sl]⟩),
 (90,⟨.struct [(0,3),(1,3),(2,3)],3,24,[.int .i64 0,.int .i64 0,.int .i64 0],[.int .i64,.int .i64,.int .i64]⟩),
 (95,⟨.uT [3,3],1,0,[.tuple #[.int .i64 0,.int .i64 0]],[]⟩),
 (100,⟨.ptr,1,8,[.pointer none],[.ptr]⟩),
 (102,⟨.ptr,1,8,[.pointer none],[.ptr]⟩),
 (103,⟨.ptr,1,8,[.pointer none],[.ptr]⟩),
 (104,⟨.ptr,1,8,[.pointer none],[.ptr]⟩),
 (106,⟨.struct [(0,102),(1,103),(2,104),(3,100),(4,32)],10,80,[.pointer none,.pointer none,.pointer none,.pointer none,.int .u64 0,.int .u64 0,.int .u64 0,.int .u64 0,.int .u64 0,.int .u64 0],[.ptr,.ptr,.ptr,.ptr,.int .u64,.int .u64,.int .u64,.int .u64,.int .u64,.int .u64]⟩),
 (108,⟨.int .i64,1,8,[.int .i64 0],[.int .i64]⟩),
 (112,⟨.uT [3,74],1,0,[.tuple #[.int .i64 0,.nilIface]],[]⟩),
 (120,⟨.ptr,1,8,[.pointer none],[.ptr]⟩),
 (122,⟨.ptr,1,8,[.pointer none],[.ptr]⟩),
 (123,⟨.ptr,1,8,[.pointer none],[.ptr]⟩),
 (125,⟨.struct [(0,3),(1,3),(2,3),(3,122),(4,123)],5,40,[.int .i64 0,.int .i64 0,.int .i64 0,.pointer none,.pointer none],[.int .i64,.int .i64,.int .i64,.ptr,.ptr]⟩),
 (131,⟨.ptr,1,8,[.pointer none],[.ptr]⟩),
 (133,⟨.slice 303,1,24,[.slice none 0 0],[.sl]⟩),
 (135,⟨.struct [(0,131),(1,133),(2,32)],8,80,[.pointer none,.slice none 0 0,.int .u64 0,.int .u64 0,.int .u64 0,.int .u64 0,.int .u64 0,.int .u64 0],[.ptr,.sl,.int .u64,.int .u64,.int .u64,.int .u64,.int .u64,.int .u64]⟩),
 (137,⟨.struct [(0,3),(1,3),(2,4)],3,24,[.int .i64 0,.int .i64 0,.bool false],[.int .i64,.int .i64,.bool]⟩),
 (138,⟨.uT [137,4],1,0,[.tuple #[.agg #[.int .i64 0,.int .i64 0,.bool false],.bool false]],[]⟩),
 (140,⟨.uT [25,3],1,0,[.tuple #[.agg #[.int .i64 0,.int .i64 0,.slice none 0 0],.int .i64 0]],[]⟩),
 (144,⟨.uT [43,4],1,0,[.tuple #[.agg #[.int .i64 0,.int .i64 0,.int .i64 0],.bool false]],[]⟩),
 (146,⟨.func,1,8,[.nilFunc],[.any]⟩),
 (148,⟨.uT [3,3,3],1,0,[.tuple #[.int .i64 0,.int .i64 0,.int .i64 0]],[]⟩),
 (150,⟨.uT [29,74],1,0,[.tuple #[.slice none 0 0,.nilIface]],[]⟩),
 (152,⟨.uT [28,29,3],1,0,[.tuple #[.slice none 0 0,.slice none 0 0,.int .i64 0]],[]⟩),
 (155,⟨.iface,1,16,[.nilIface],[.any]⟩),
 (158,⟨.other,1,8,[.pointer none],[.ptr]⟩),
 (159,⟨.int .u64,1,8,[.int .u64 0],[.int .u64]⟩),
 (161,⟨.struct [(0,17),(1,158),(2,159)],3,24,[.pointer none,.pointer none,.int .u64 0],[.ptr,.ptr,.int .u64]⟩),
 (164,⟨.int .u8,1,1,[.int .u8 0],[.int .u8]⟩),
 (169,⟨.map,1,8,[.map none],[.map]⟩),
 (171,⟨.struct [(0,3),(1,3),(2,169),(3,29)],4,48,[.int .i64 0,.int .i64 0,.map none,.slice none 0 0],[.int .i64,.int .i64,.map,.sl]⟩),
 (172,⟨.slice 2,1,24,[.slice none 0 0],[.sl]⟩),
 (174,⟨.struct [(0,25),(3,2),(4,172)],5,72,[.int .i64 0,.int .i64 0,.slice none 0 0,.int .i64 0,.slice none 0 0],[.int .i64,.int .i64,.sl,.int .i64,.sl]⟩),
 (175,⟨.arr 6 30,6,48,[.int .u64 0,.int .u64 0,.int .u64 0,.int .u64 0,.int .u64 0,.int .u64 0],[.int .u64,.int .u64,.int .u64,.int .u64,.int .u64,.int .u64]⟩),
 (179,⟨.slice 334,1,24,[.slice none 0 0],[.sl]⟩),
 (180,⟨.map,1,8,[.map none],[.map]⟩),
 (182,⟨.struct [(0,3),(1,179),(2,180),(3,3),(4,3)],5,56,[.int .i64 0,.slice none 0 0,.map none,.int .i64 0,.int .i64 0],[.int .i64,.sl,.map,.int .i64,.int .i64]⟩),
 (183,⟨.uT [38,3],1,0,[.tuple #[.agg #[.int .i64 0,.int .i64 0,.int .i64 0,.slice none 0 0],.int .i64 0]],[]⟩),
 (185,⟨.uT [25,74],1,0,[.tuple #[.agg #[.int .i64 0,.int .i64 0,.slice none 0 0],.nilIface]],[]⟩),
 (187,⟨.int .i64,1,8,[.int .i64 0],[.int .i64]⟩),
 (188,⟨.ptr,1,8,[.pointer none],[.ptr]⟩),
 (195,⟨.ptr,1,8,[.pointer none],[.ptr]⟩),
 (197,⟨.struct [(0,103),(1,102),(2,195),(3,30)],4,32,[.pointer none,.pointer none,.pointer none,.int .u64 0],[.ptr,.ptr,.ptr,.int .u64]⟩),
 (198,⟨.uT [3,4],1,0,[.tuple #[.int .i64 0,.bool false]],[]⟩),
 (202,⟨.ptr,1,8,[.pointer none],[.ptr]⟩),
 (203,⟨.func,1,8,[.nilFunc],[.any]⟩),
 (204,⟨.uT [3,3,74],1,0,[.tuple #[.int .i64 0,.int .i64 0,.nilIface]],[]⟩),
 (207,⟨.map,1,8,[.map none],[.map]⟩),
 (208,⟨.slice 211,1,24,[.slice none 0 0],[.sl]⟩),
 (211,⟨.struct [(0,3),(1,3),(2,29)],3,40,[.int .i64 0,.int .i64 0,.slice none 0 0],[.int .i64,.int .i64,.sl]⟩),
 (213,⟨.struct [(0,29),(1,29)],2,48,[.slice none 0 0,.slice none 0 0],[.sl,.sl]⟩),
 (214,⟨.uT [213,3],1,0,[.tuple #[.agg #[.slice none 0 0,.slice none 0 0],.int .i64 0]],[]⟩),
 (216,⟨.uT [39,28,29,3],1,0,[.tuple #[.slice none 0 0,.slice none 0 0,.slice none 0 0,.int .i64 0]],[]⟩),
 (221,⟨.iface,1,16,[.nilIface],[.any]⟩),
 (224,⟨.iface,1,16,[.nilIface],[.any]⟩),
 (226,⟨.iface,1,16,[.nilIface],[.any]⟩),
 (227,⟨.slice 74,1,24,[.slice none 0 0],[.sl]⟩),
 (231,⟨.iface,1,16,[.nilIface],[.any]⟩),
 (234,⟨.slice 319,1,24,[.slice none 0 0],[.sl]⟩),
 (236,⟨.struct [(0,102),(1,234),(2,2),(3,30)],4,48,[.pointer none,.slice none 0 0,.int .i64 0,.int .u64 0],[.ptr,.sl,.int .i64,.int .u64]⟩),
 (238,⟨.uT [84,3,3],1,0,[.tuple #[.agg #[.int .i64 0,.int .i64 0,.slice none 0 0],.int .i64 0,.int .i64 0]],[]⟩),
 (240,⟨.ptr,1,8,[.pointer none],[.ptr]⟩),
 (242,⟨.struct [(0,3),(1,74)],2,24,[.int .i64 0,.nilIface],[.int .i64,.any]⟩),
 (245,⟨.slice 248,1,24,[.slice none 0 0],[.sl]⟩),
 (247,⟨.struct [(0,245),(1,3)],2,32,[.slice none 0 0,.int .i64 0],[.sl,.int .i64]⟩),
 (248,⟨.int .u32,1,4,[.int .u32 0],[.int .u32]⟩),
 (249,⟨.uT [213,74],1,0,[.tuple #[.agg #[.slice none 0 0,.slice none 0 0],.nilIface]],[]⟩),
 (253,⟨.arr 2 3,2,16,[.int .i64 0,.int .i64 0],[.int .i64,.int .i64]⟩),
 (257,⟨.ptr,1,8,[.pointer none],[.ptr]⟩),
 (258,⟨.map,1,8,[.map none],[.map]⟩),
 (260,⟨.struct [(0,3),(1,3),(2,258),(3,28),(4,29)],5,72,[.int .i64 0,.int .i64 0,.map none,.slice none 0 0,.slice none 0 0],[.int .i64,.int .i64,.map,.sl,.sl]⟩),
 (263,⟨.ptr,1,8,[.pointer none],[.ptr]⟩),
 (265,⟨.struct [(0,22),(1,3)],2,32,[.slice none 0 0,.int .i64 0],[.sl,.int .i64]⟩),
 (266,⟨.uT [84,74],1,0,[.tuple #[.agg #[.int .i64 0,.int .i64 0,.slice none 0 0],.nilIface]],[]⟩),
 (268,⟨.ptr,1,8,[.pointer none],[.ptr]⟩),
 (269,⟨.ptr,1,8,[.pointer none],[.ptr]⟩),
 (271,⟨.struct [(0,3),(1,3),(2,74)],3,32,[.int .i64 0,.int .i64 0,.nilIface],[.int .i64,.int .i64,.any]⟩),
 (273,⟨.ptr,1,8,[.pointer none],[.ptr]⟩),
 (275,⟨.struct [(0,3),(1,74)],2,24,[.int .i64 0,.nilIface],[.int .i64,.any]⟩),
 (276,⟨.uT [84,4],1,0,[.tuple #[.agg #[.int .i64 0,.int .i64 0,.slice none 0 0],.bool false]],[]⟩),
 (278,⟨.slice 294,1,24,[.slice none 0 0],[.sl]⟩),
 (284,⟨.uT [22,74],1,0,[.tuple #[.slice none 0 0,.nilIface]],[]⟩),
 (286,⟨.uT [22,3],1,0,[.tuple #[.slice none 0 0,.int .i64 0]],[]⟩),
 (289,⟨.slice 292,1,24,[.slice none 0 0],[.sl]⟩),
 (292,⟨.struct [(0,3),(1,3)],2,16,[.int .i64 0,.int .i64 0],[.int .i64,.int .i64]⟩),
 (294,⟨.struct [(0,3),(1,3),(2,3)],3,24,[.int .i64 0,.int .i64 0,.int .i64 0],[.int .i64,.int .i64,.int .i64]⟩),
 (296,⟨.slice 21,1,24,[.slice none 0 0],[.sl]⟩),
 (298,⟨.struct [(0,3),(1,2),(2,296)],3,40,[.int .i64 0,.int .i64 0,.slice none 0 0],[.int .i64,.int .i64,.sl]⟩),
 (300,⟨.uT [3,4,4],1,0,[.tuple #[.int .i64 0,.bool false,.bool false]],[]⟩),
 (303,⟨.struct [(0,2),(1,278),(2,213)],4,80,[.int .i64 0,.slice none 0 0,.slice none 0 0,.slice none 0 0],[.int .i64,.sl,.sl,.sl]⟩),
 (307,⟨.ptr,1,8,[.pointer none],[.ptr]⟩),
 (314,⟨.arr 4 3,4,32,[.int .i64 0,.int .i64 0,.int .i64 0,.int .i64 0],[.int .i64,.int .i64,.int .i64,.int .i64]⟩),
 (317,⟨.func,1,8,[.nilFunc],[.any]⟩),
 (319,⟨.struct [(0,2),(1,29),(2,296)],3,56,[.int .i64 0,.slice none 0 0,.slice none 0 0],[.int .i64,.sl,.sl]⟩),
 (322,⟨.ptr,1,8,[.pointer none],[.ptr]⟩),
 (331,⟨.func,1,8,[.nilFunc],[.any]⟩),
 (334,⟨.struct [(0,253),(2,3),(3,3)],4,32,[.int .i64 0,.int .i64 0,.int .i64 0,.int .i64 0],[.int .i64,.int .i64,.int .i64,.int .i64]⟩),
 (336,⟨.uT [29,3],1,0,[.tuple #[.slice none 0 0,.int .i64 0]],[]⟩),
 (338,⟨.ptr,1,8,[.pointer none],[.ptr]⟩),
 (340,⟨.struct [(0,84),(3,278),(4,29)],5,88,[.int .i64 0,.int .i64 0,.slice none 0 0,.slice none 0 0,.slice none 0 0],[.int .i64,.int .i64,.sl,.sl,.sl]⟩),
 (341,⟨.uT [81,81],1,0,[.tuple #[.int .u64 0,.int .u64 0]],[]⟩),
 (349,⟨.slice 353,1,24,[.slice none 0 0],[.sl]⟩),
 (351,⟨.struct [(0,349)],1,24,[.slice none 0 0],[.sl]⟩),
 (353,⟨.struct [(0,3),(1,3)],2,16,[.int .i64 0,.int .i64 0],[.int .i64,.int .i64]⟩),
 (354,⟨.ptr,1,8,[.pointer none],[.ptr]⟩),
 (355,⟨.uT [354,3,4],1,0,[.tuple #[.pointer none,.int .i64 0,.bool false]],[]⟩),
 (358,⟨.ptr,1,8,[.pointer none],[.ptr]⟩),
 (359,⟨.ptr,1,8,[.pointer none],[.ptr]⟩),
 (363,⟨.struct [(0,84),(3,359),(4,278),(5,29)],6,96,[.int .i64 0,.int .i64 0,.slice none 0 0,.pointer none,.slice none 0 0,.slice none 0 0],[.int .i64,.int .i64,.sl,.ptr,.sl,.sl]⟩),
 (367,⟨.uT [30,30],1,0,[.tuple #[.int .u64 0,.int .u64 0]],[]⟩),
 (370,⟨.func,1,8,[.nilFunc],[.any]⟩),
 (372,⟨.int .i64,1,8,[.int .i64 0],[.int .i64]⟩),
 (373,⟨.uT [3,372],1,0,[.tuple #[.int .i64 0,.int .i64 0]],[]⟩),
 (385,⟨.struct [(0,29),(1,3)],2,32,[.slice none 0 0,.int .i64 0],[.sl,.int .i64]⟩),
 (386,⟨.arr 256 385,512,8192,([]++(List.replicate 256 [.slice none 0 0,.int .i64 0]).flatten),([]++(List.replicate 256 [.sl,.int .i64]).flatten)⟩),
 (388,⟨.struct [(0,3),(1,3),(2,386)],514,8208,([.int .i64 0,.int .i64 0]++(List.replicate 256 [.slice none 0 0,.int .i64 0]).flatten),([.int .i64,.int .i64]++(List.replicate 256 [.sl,.int .i64]).flatten)⟩),
 (390,⟨.int .u64,1,8,[.int .u64 0],[.int .u64]⟩),
 (393,⟨.ptr,1,8,[.pointer none],[.ptr]⟩),
 (397,⟨.ptr,1,8,[.pointer none],[.ptr]⟩),
 (400,⟨.ptr,1,8,[.pointer none],[.ptr]⟩)]
noncomputable def T:uI:=aaX rows
noncomputable def fns:List Nat:=[3,4,5,6,7,8,9,10,11,12,13,14,15,16,17,18,19,20,21,22,23,24,25,26,27,28,29,30,31,32,33,34,35,36,37,38,39,40,41,42,43,44,45,46,47,48,49,50,51,52,53,54,55,56,57,58,59,60,61,62,63,64,65,66,67,68,69,70,71,72,73,74,75,76,77,78,79,80,81,82,83,84,85,86,87,88,89,90,91,92,93,94,96,100,101,102,103,104,105,106,107,108,109,110,111,112,113,114,115,116,117,118,119,120,121,122,123,124,125,126,127,128,129,130,131,132,133,134,135,136,137,140,141,142,143,144,145,146,147,148,149,150,151,152,153,154,155,156,157,158,159,160,161,162,163,164,165,166,167,168,169,170,171,172,173,174,175,176,177,178,179,180,181,182,183,184,185,186,187,188,189,190,191,192,193,194,195,196,197,198,199,200,201,202,203,204,205,206,207,208,209,210,211,212,213,214,215,216,217,218,220,221,222,223,224,225,226,227,228,229,230,231,232,233,234,235,236,237,238,240,241,242,243,244,245,246,247,248,249,250,252,253,254,255,256,257,258,259,260,261,262,263,264,265,266,267,268,269,270,271,272,273,274,275,276,277,278,279,280,281,282,302,321,323,325]
noncomputable def cx (n:Nat):Cx:=⟨P,T,λf=>oY f fns,n⟩
def HN:rows.map (λp=>U3 P p.1)=rows.map (λp=>some (p.2.d,p.2.size,p.2.bytes,p.2.zero)):=by kernel_rfl
def auC:alH P fns=true:=by kernel_rfl
def aqp:P.follows .mixedOrders=true:=by kernel_rfl
def ok (n:Nat):mQ (cx n):=as2 HN auC aqp n
abbrev Bk (n:Nat)(fn:Func)(K:Value->World->Prop)(j:Nat)(l:List (Nat×Kd))(B:KP l):Prop:=Zo (cx n) fn (ahZ (cx n) fn K) j l B
def pC:=bA (.o .b)
def AI:=λb c d e f g i j l m n w (Q:Bool->WP)=>au P 9 #[ae b,ae c,.slice d e f,.slice g i j,.slice l m n] w (pC Q)
def MF:=bA (.o (.i .i64))
def a_:=λb c d w (Q:Int->WP)=>au P 10 #[ae b,ae c,ae d] w (MF Q)
def aj3:=bA (.o .p)
def wL:=λb c w (Q:OA->WP)=>au P 11 #[ae b,ae c] w (aj3 Q)
def I3:=bA (.g [.i .i64,.i .i64,.i .i64,.i .i64,.l,.l,.i .u64,.i .u64,.i .u64,.i .u64,.i .u64,.i .u64])
def gz:=λb c d e f g i w (Q:Int->Int->Int->Int->L3 (L3 (Int->Int->Int->Int->Int->Int->WP)))=>au P 12 #[.pointer b,.agg #[ae c,ae d,ae e,.slice f g i]] w (I3 Q)
def Dj:=bA (.o .l)
def lG:=λb c d e f w (Q:L3 WP)=>au P 13 #[.agg #[ae b,ae c,.slice d e f]] w (Dj Q)
def PC:=bA (.o .l)
def i_:=λb w (Q:L3 WP)=>au P 14 #[.pointer b] w (PC Q)
def PD:=bA (.o .b)
def qq:=λw (Q:Bool->WP)=>au P 15 #[] w (PD Q)
def fK:=bA (.o .l)
def l_:=λb c d e f g i j w (Q:L3 WP)=>au P 16 #[ae b,ae c,.slice d e f,.slice g i j] w (fK Q)
def T9:=bA (.o .l)
def r6:=λb c d e w (Q:L3 WP)=>au P 17 #[.slice b c d,ae e] w (T9 Q)
def T_:=bA (.g [.i .i64,.i .i64,.l])
def lT:=λb w (Q:Int->Int->L3 WP)=>au P 19 #[.pointer b] w (T_ Q)
def CO:=bA (.o (.i .i64))
def n7:=λb c d e w (Q:Int->WP)=>au P 21 #[ae b,ae c,ae d,ae e] w (CO Q)
def PE:=bA (.g [.i .u64,.i .u64,.i .u64,.i .u64,.i .u64,.i .u64])
def v9:=λb w (Q:Int->Int->Int->Int->Int->Int->WP)=>au P 22 #[.pointer b] w (PE Q)
def OB:=bA (.o (.i .i64))
def pD:=λb c w (Q:Int->WP)=>au P 23 #[ae b,ae c] w (OB Q)
def Fm:=bA (.o .b)
def v_:=λb c d e f g w (Q:Bool->WP)=>au P 24 #[.slice b c d,.slice e f g] w (Fm Q)
def DZ:=bA (.o .b)
def pE:=λb c d e f g w (Q:Bool->WP)=>au P 25 #[.slice b c d,.slice e f g] w (DZ Q)
def Ld:=bA (.o .b)
def nV:=λb c d e f g i j l m w (Q:Bool->WP)=>au P 26 #[.agg #[ae b,ae c,.slice d e f],.agg #[ae g,ae i,.slice j l m]] w (Ld Q)
def aj4:=bA (.o .p)
def Jx:=λb w (Q:OA->WP)=>au P 27 #[ae b] w (aj4 Q)
def BX:=bA (.o .w)
def z0:=λb c d e f g i j w (Q:Value->WP)=>au P 28 #[.pointer b,.agg #[ae c,ae d,ae e,.slice f g i],.pointer j] w (BX Q)
def ah1:=bA (.o (.i .i64))
def CP:=λb w (Q:Int->WP)=>au P 29 #[b] w (ah1 Q)
def Le:=gg [.o (.i .i64),.o .l]
def sR:=λb c d e f w (Q:Int->L3 WP)=>au P 30 #[.agg #[ae b,ae c,.slice d e f]] w (Le Q)
def Dk:=bA (.g [.i .i64,.i .i64,.l])
def tP:=λb c d e f g w (Q:Int->Int->L3 WP)=>au P 31 #[.agg #[ae b,ae c,.slice d e f],ae g] w (Dk Q)
def Ua:=bA (.o .p)
def Fo:=λb w (Q:OA->WP)=>au P 32 #[.pointer b] w (Ua Q)
def PF:=bA (.o .l)
def m7:=λb w (Q:L3 WP)=>au P 33 #[.pointer b] w (PF Q)
def Dl:=bA (.o .b)
def oV:=λb c d e f g w (Q:Bool->WP)=>au P 34 #[.slice b c d,.slice e f g] w (Dl Q)
def r7:=bA (.g [.i .i64,.i .i64,.l])
def qt:=λb c d e f w (Q:Int->Int->L3 WP)=>au P 35 #[ae b,ae c,.slice d e f] w (r7 Q)
def PG:=bA (.o (.i .u8))
def qu:=λb w (Q:Int->WP)=>au P 36 #[.int .u8 b] w (PG Q)
def Fp:=bA (.g [.i .i64,.i .i64,.i .i64,.l])
def wc:=λb c d e w (Q:Int->Int->Int->L3 WP)=>au P 37 #[.agg #[ae b,ae c,ae d],ae e] w (Fp Q)
def Ub:=bA (.o .p)
def yO:=λb w (Q:OA->WP)=>au P 39 #[.pointer b] w (Ub Q)
def abd:=bA (.g [.i .i64,.i .i64,.l])
def DA:=λb w (Q:Int->Int->L3 WP)=>au P 40 #[.pointer b] w (abd Q)
def abe:=gg [.o (.i .i64),.o (.i .i64)]
def td:=λb c d w (Q:Int->Int->WP)=>au P 41 #[ae b,ae c,ae d] w (abe Q)
def adn:=bA (.o (.i .i64))
def z6:=λb c d e w (Q:Int->WP)=>au P 42 #[ae b,ae c,ae d,ae e] w (adn Q)
def XO:=bA (.g [.i .u64,.i .u64,.i .u64,.i .u64,.i .u64,.i .u64])
def A4:=λb w (Q:Int->Int->Int->Int->Int->Int->WP)=>au P 43 #[.pointer b] w (XO Q)
def Lg:=gg [.o (.i .i64),.o (.i .i64)]
def kO:=λb c w (Q:Int->Int->WP)=>au P 44 #[ae b,ae c] w (Lg Q)
def MG:=bA (.o .b)
def Bl:=λb c d e f g i j l m n o p q r s t u v x y z a1 b1 c1 d1 e1 f1 g1 i1 j1 l1 w (Q:Bool->WP)=>au P 45 #[.agg #[ae b,ae c,ae d,ae e,.slice f g i,.slice j l m,.int .u64 n,.int .u64 o,.int .u64 p,.int .u64 q,.int .u64 r,.int .u64 s],.agg #[ae t,ae u,ae v,ae x,.slice y z a1,.slice b1 c1 d1,.int .u64 e1,.int .u64 f1,.int .u64 g1,.int .u64 i1,.int .u64 j1,.int .u64 l1]] w (MG Q)
def OC:=bA (.o .b)
def uX:=λb c d e f g w (Q:Bool->WP)=>au P 46 #[.slice b c d,.slice e f g] w (OC Q)
def af_:=bA (.o .p)
def Gb:=λb w (Q:OA->WP)=>au P 47 #[ae b] w (af_ Q)
def alL:=bA (.o .b)
def Lh:=λb c d e f g w (Q:Bool->WP)=>au P 48 #[.agg #[ae b,ae c,ae d,.slice e f g]] w (alL Q)
def Fq:=bA (.o .w)
def we:=λb c d e f g i w (Q:Value->WP)=>au P 49 #[.pointer b,.agg #[ae c,ae d,ae e,.slice f g i]] w (Fq Q)
def RY:=bA (.o .w)
def xM:=λb c d e w (Q:Value->WP)=>au P 50 #[.pointer b,.slice c d e] w (RY Q)
def XP:=gg []
def vC:=λb w (Q:WP)=>au P 51 #[.pointer b] w (XP Q)
def Gc:=bA (.o .w)
def xN:=λb c d w (Q:Value->WP)=>au P 52 #[.pointer b,ae c,ae d] w (Gc Q)
def PI:=gg [.o (.i .i64),.o .w]
def wg:=λb c d w (Q:Int->Value->WP)=>au P 53 #[.pointer b,ae c,ae d] w (PI Q)
def ado:=bA (.o .w)
def gm:=λb w (Q:Value->WP)=>au P 54 #[ae b] w (ado Q)
def Lj:=bA (.o (.i .i64))
def sS:=λb c d w (Q:Int->WP)=>au P 55 #[.pointer b,ae c,ae d] w (Lj Q)
def MH:=bA (.o (.i .i64))
def tQ:=λb c w (Q:Int->WP)=>au P 56 #[.pointer b,ae c] w (MH Q)
def PJ:=bA (.o .w)
def wj:=λb c d e w (Q:Value->WP)=>au P 57 #[.pointer b,.pointer c,ae d,ae e] w (PJ Q)
def RZ:=bA (.o .w)
def xO:=λb c w (Q:Value->WP)=>au P 58 #[.pointer b,.pointer c] w (RZ Q)
def aga:=bA (.o .b)
def pF:=λb c w (Q:Bool->WP)=>au P 59 #[b,c] w (aga Q)
def Jy:=bA (.o .b)
def nA:=λb c w (Q:Bool->WP)=>au P 60 #[b,c] w (Jy Q)
def lU:=bA (.o .l)
def wk:=λb c d w (Q:L3 WP)=>au P 61 #[.slice b c d] w (lU Q)
def PK:=gg [.o (.i .i64),.o (.i .i64)]
def qv:=λb c d w (Q:Int->Int->WP)=>au P 62 #[ae b,ae c,ae d] w (PK Q)
def MI:=bA (.o (.i .i64))
def tR:=λb c d e w (Q:Int->WP)=>au P 63 #[ae b,ae c,ae d,ae e] w (MI Q)
def Ht:=bA (.o .l)
def yP:=λb w (Q:L3 WP)=>au P 64 #[.pointer b] w (Ht Q)
def R0:=bA (.o .b)
def xP:=λb c w (Q:Bool->WP)=>au P 65 #[ae b,ae c] w (R0 Q)
def XQ:=bA (.g [.i .i64,.i .i64,.l])
def A5:=λb w (Q:Int->Int->L3 WP)=>au P 67 #[.pointer b] w (XQ Q)
def ah2:=bA (.o .b)
def yQ:=λb c d w (Q:Bool->WP)=>au P 68 #[ae b,ae c,ae d] w (ah2 Q)
def agb:=bA (.o .b)
def lH:=λb c w (Q:Bool->WP)=>au P 69 #[ae b,ae c] w (agb Q)
def Jz:=bA (.g [.i .u64,.i .u64,.i .u64,.i .u64,.i .u64,.i .u64])
def wV:=λb c d e f g i j l m n o w (Q:Int->Int->Int->Int->Int->Int->WP)=>au P 70 #[.agg #[.int .u64 b,.int .u64 c,.int .u64 d,.int .u64 e,.int .u64 f,.int .u64 g],.agg #[.int .u64 i,.int .u64 j,.int .u64 l,.int .u64 m,.int .u64 n,.int .u64 o]] w (Jz Q)
def Vt:=bA (.g [.i .u64,.i .u64,.i .u64,.i .u64,.i .u64,.i .u64])
def tS:=λb w (Q:Int->Int->Int->Int->Int->Int->WP)=>au P 71 #[.pointer b] w (Vt Q)
def PL:=bA (.g [.i .u64,.i .u64,.i .u64,.i .u64,.i .u64,.i .u64])
def wm:=λb w (Q:Int->Int->Int->Int->Int->Int->WP)=>au P 72 #[.pointer b] w (PL Q)
def Fs:=bA (.o .b)
def wo:=λb c d e f g w (Q:Bool->WP)=>au P 73 #[.slice b c d,.slice e f g] w (Fs Q)
def aj5:=bA (.o .p)
def JA:=λb w (Q:OA->WP)=>au P 74 #[ae b] w (aj5 Q)
def alM:=bA (.o .b)
def Ll:=λb c d w (Q:Bool->WP)=>au P 75 #[.slice b c d] w (alM Q)
def JB:=gg [.g [.i .i64,.i .i64,.b],.o .b]
def wW:=λb w (Q:Int->Int->Bool->Bool->WP)=>au P 76 #[ae b] w (JB Q)
def aj6:=bA (.o .b)
def AJ:=λb c w (Q:Bool->WP)=>au P 77 #[ae b,ae c] w (aj6 Q)
def Zp:=bA (.o (.i .i64))
def rM:=λb c w (Q:Int->WP)=>au P 78 #[.pointer b,ae c] w (Zp Q)
def agc:=gg [.g [.i .i64,.i .i64,.l],.o (.i .i64)]
def Gd:=λb c d w (Q:Int->Int->L3 (Int->WP))=>au P 79 #[.slice b c d] w (agc Q)
def Zq:=bA (.o (.i .i64))
def BY:=λb c d e f g w (Q:Int->WP)=>au P 80 #[.pointer b,.agg #[ae c,ae d,.slice e f g]] w (Zq Q)
def agd:=bA (.o .p)
def Ge:=λb c d w (Q:OA->WP)=>au P 81 #[ae b,ae c,ae d] w (agd Q)
def PM:=gg []
def qw:=λb w (Q:WP)=>au P 82 #[.pointer b] w (PM Q)
def PN:=gg []
def qx:=λb w (Q:WP)=>au P 83 #[.pointer b] w (PN Q)
def Uc:=bA (.o (.i .i64))
def yR:=λb c w (Q:Int->WP)=>au P 84 #[.pointer b,ae c] w (Uc Q)
def Zr:=bA (.o (.i .i64))
def BZ:=λb c d w (Q:Int->WP)=>au P 85 #[.pointer b,ae c,ae d] w (Zr Q)
def PO:=gg [.o (.i .i64),.o (.i .i64)]
def wq:=λb c d w (Q:Int->Int->WP)=>au P 86 #[.pointer b,ae c,ae d] w (PO Q)
def Ud:=gg [.g [.i .i64,.i .i64,.i .i64],.o .b]
def iQ:=λb c w (Q:Int->Int->Int->Bool->WP)=>au P 87 #[.pointer b,ae c] w (Ud Q)
def Vu:=bA (.o .b)
def pG:=λb c w (Q:Bool->WP)=>au P 88 #[.pointer b,ae c] w (Vu Q)
def r8:=bA (.o (.i .i64))
def m8:=λb c d e w (Q:Int->WP)=>au P 89 #[.pointer b,ae c,ae d,ae e] w (r8 Q)
def R_:=gg []
def nK:=λb c d e w (Q:WP)=>au P 90 #[.pointer b,.agg #[ae c,ae d,ae e]] w (R_ Q)
def Ue:=bA (.o .b)
def yS:=λb c d w (Q:Bool->WP)=>au P 91 #[.pointer b,ae c,ae d] w (Ue Q)
def Zs:=gg [.o (.i .i64),.o (.i .i64),.o (.i .i64)]
def B0:=λb c d w (Q:Int->Int->Int->WP)=>au P 92 #[.pointer b,ae c,ae d] w (Zs Q)
def jh:=gg [.o .l,.o .w]
def xQ:=λb c d e w (Q:L3 (Value->WP))=>au P 93 #[.pointer b,.slice c d e] w (jh Q)
def tT:=gg [.o .l,.o .l,.o (.i .i64)]
def xR:=λb c d e w (Q:L3 (L3 (Int->WP)))=>au P 94 #[.pointer b,.slice c d e] w (tT Q)
def qd:=bA (.o .b)
def wX:=λb c d w (Q:Bool->WP)=>au P 96 #[b,c,.bool d] w (qd Q)
def wM:=bA (.o .b)
def Gf:=λb c d e f g w (Q:Bool->WP)=>au P 100 #[b,c,.agg #[.pointer d,.pointer e,.int .u64 f],g] w (wM Q)
def Uf:=bA (.o .b)
def lV:=λb c d w (Q:Bool->WP)=>au P 101 #[ae b,ae c,ae d] w (Uf Q)
def Ft:=bA (.o .l)
def qy:=λb w (Q:L3 WP)=>au P 102 #[.pointer b] w (Ft Q)
def JC:=bA (.o .l)
def jL:=λb c d w (Q:L3 WP)=>au P 103 #[.slice b c d] w (JC Q)
def Zt:=bA (.g [.i .u64,.i .u64,.i .u64,.i .u64,.i .u64,.i .u64])
def cU:=λb c d e f g w (Q:Int->Int->Int->Int->Int->Int->WP)=>au P 104 #[.agg #[.int .u64 b,.int .u64 c,.int .u64 d,.int .u64 e,.int .u64 f,.int .u64 g]] w (Zt Q)
def age:=bA (.o (.i .u64))
def r9:=λb c w (Q:Int->WP)=>au P 105 #[.int .u64 b,.int .u64 c] w (age Q)
def Ug:=bA (.o (.i .u64))
def r_:=λb w (Q:Int->WP)=>au P 106 #[.pointer b] w (Ug Q)
def OD:=bA (.o (.i .u64))
def pH:=λb w (Q:Int->WP)=>au P 107 #[.pointer b] w (OD Q)
def XR:=gg []
def vD:=λb w (Q:WP)=>au P 108 #[.pointer b] w (XR Q)
def aj7:=gg [.g [.i .i64,.i .i64,.i .i64,.l],.o (.i .i64)]
def JD:=λb c d w (Q:Int->Int->Int->L3 (Int->WP))=>au P 109 #[.slice b c d] w (aj7 Q)
def Vv:=bA (.o (.i .i64))
def e9:=λb c w (Q:Int->WP)=>au P 110 #[.pointer b,ae c] w (Vv Q)
def PR:=gg [.g [.i .i64,.i .i64,.l],.o .w]
def ES:=λb c d w (Q:Int->Int->L3 (Value->WP))=>au P 111 #[.slice b c d] w (PR Q)
def agf:=bA (.o .b)
def Bm:=λb c d e f w (Q:Bool->WP)=>au P 112 #[.agg #[ae b,ae c,.slice d e f]] w (agf Q)
def Vw:=bA (.o .p)
def HO:=λb c d e f g w (Q:OA->WP)=>au P 113 #[.agg #[ae b,ae c,.slice d e f],ae g] w (Vw Q)
def Uh:=bA (.o (.i .i64))
def f_:=λb w (Q:Int->WP)=>au P 114 #[.pointer b] w (Uh Q)
def ah3:=bA (.o .p)
def HP:=λb w (Q:OA->WP)=>au P 115 #[.pointer b] w (ah3 Q)
def agh:=bA (.o .p)
def Gg:=λb c w (Q:OA->WP)=>au P 116 #[.pointer b,.pointer c] w (agh Q)
def agi:=bA (.o .p)
def Gh:=λb w (Q:OA->WP)=>au P 117 #[ae b] w (agi Q)
def agj:=bA (.o .p)
def Gi:=λb w (Q:OA->WP)=>au P 118 #[ae b] w (agj Q)
def Ui:=bA (.o (.i .i64))
def lW:=λb c w (Q:Int->WP)=>au P 119 #[.pointer b,ae c] w (Ui Q)
def Vx:=bA (.o (.i .i64))
def z7:=λb c d w (Q:Int->WP)=>au P 120 #[.pointer b,ae c,ae d] w (Vx Q)
def Uj:=gg [.o (.i .i64),.o .b]
def yT:=λb c d w (Q:Int->Bool->WP)=>au P 121 #[.pointer b,ae c,ae d] w (Uj Q)
def Uk:=bA (.o .b)
def sj:=λb c d w (Q:Bool->WP)=>au P 122 #[.pointer b,ae c,ae d] w (Uk Q)
def Zu:=bA (.o (.i .i64))
def dY:=λb c d w (Q:Int->WP)=>au P 123 #[ae b,ae c,ae d] w (Zu Q)
def Ul:=bA (.o (.i .i64))
def yU:=λb w (Q:Int->WP)=>au P 124 #[.pointer b] w (Ul Q)
def Sa:=bA (.o .b)
def xS:=λb c w (Q:Bool->WP)=>au P 125 #[.pointer b,ae c] w (Sa Q)
def Sb:=bA (.o (.i .i64))
def rA:=λb c w (Q:Int->WP)=>au P 126 #[.pointer b,ae c] w (Sb Q)
def Um:=bA (.o .b)
def sq:=λb c d w (Q:Bool->WP)=>au P 127 #[.pointer b,ae c,d] w (Um Q)
def PS:=gg []
def Dm:=λb c w (Q:WP)=>au P 128 #[.pointer b,.pointer c] w (PS Q)
def Zv:=gg [.o (.i .i64),.o (.i .i64),.o .w]
def B2:=λb c d w (Q:Int->Int->Value->WP)=>au P 129 #[.pointer b,ae c,ae d] w (Zv Q)
def ah4:=bA (.o (.i .i64))
def yV:=λb w (Q:Int->WP)=>au P 130 #[b] w (ah4 Q)
def Zw:=gg [.o (.i .i64),.o (.i .i64)]
def wY:=λb w (Q:Int->Int->WP)=>au P 131 #[.pointer b] w (Zw Q)
def abf:=bA (.o (.i .i64))
def nk:=λb c d w (Q:Int->WP)=>au P 132 #[ae b,ae c,ae d] w (abf Q)
def yW:=bA (.o .l)
def ET:=λb c d e f w (Q:L3 WP)=>au P 133 #[ae b,ae c,.slice d e f] w (yW Q)
def XS:=gg [.g [.l,.l],.o (.i .i64)]
def vF:=λb c d w (Q:L3 (L3 (Int->WP)))=>au P 134 #[.pointer b,ae c,ae d] w (XS Q)
def Lm:=gg [.o .l,.o .l,.o .l,.o (.i .i64)]
def HQ:=λb c d e f g i j w (Q:L3 (L3 (L3 (Int->WP))))=>au P 135 #[ae b,ae c,.slice d e f,.slice g i j] w (Lm Q)
def PT:=bA (.o .b)
def wu:=λb c d w (Q:Bool->WP)=>au P 136 #[.pointer b,ae c,ae d] w (PT Q)
def Sc:=bA (.o .b)
def xU:=λb c d w (Q:Bool->WP)=>au P 137 #[.pointer b,ae c,ae d] w (Sc Q)
def TJ:=bA (.o (.i .i64))
def wZ:=λb c d w (Q:Int->WP)=>au P 140 #[.slice b c d] w (TJ Q)
def adp:=bA (.o (.i .i64))
def EU:=λb c w (Q:Int->WP)=>au P 141 #[ae b,ae c] w (adp Q)
def adq:=gg [.o (.i .i64),.o (.i .i64)]
def n8:=λb c d w (Q:Int->Int->WP)=>au P 142 #[ae b,ae c,ae d] w (adq Q)
def Vy:=gg [.g [.i .i64,.i .i64,.l],.o (.i .i64),.o (.i .i64)]
def HR:=λb c d e f w (Q:Int->Int->L3 (Int->Int->WP))=>au P 143 #[.slice b c d,ae e,ae f] w (Vy Q)
def TK:=gg []
def Gj:=λb c d e f g i j l m n w (Q:WP)=>au P 144 #[.agg #[ae b,ae c,.slice d e f],ae g,.agg #[ae i,ae j,.slice l m n]] w (TK Q)
def Hi:=bA (.o .b)
def iW:=λb c d e w (Q:Bool->WP)=>au P 145 #[.slice b c d,.int .u8 e] w (Hi Q)
def XT:=gg [.o (.i .i64),.o (.i .i64)]
def lq:=λb c w (Q:Int->Int->WP)=>au P 146 #[ae b,ae c] w (XT Q)
def Vz:=gg [.o (.i .i64),.o (.i .i64)]
def eL:=λb w (Q:Int->Int->WP)=>au P 147 #[.pointer b] w (Vz Q)
def VA:=bA (.o .b)
def tU:=λb c w (Q:Bool->WP)=>au P 148 #[.pointer b,ae c] w (VA Q)
def Sd:=bA (.o .b)
def rB:=λb c w (Q:Bool->WP)=>au P 149 #[.pointer b,ae c] w (Sd Q)
def yx:=gg [.g [.l,.l],.o .w]
def vG:=λb c d w (Q:L3 (L3 (Value->WP)))=>au P 150 #[.pointer b,ae c,ae d] w (yx Q)
def VB:=bA (.o .b)
def CQ:=λb c d e f w (Q:Bool->WP)=>au P 151 #[ae b,ae c,.slice d e f] w (VB Q)
def PU:=bA (.o .l)
def EV:=λb c d w (Q:L3 WP)=>au P 152 #[.slice b c d] w (PU Q)
def adr:=bA (.o .b)
def Ln:=λb w (Q:Bool->WP)=>au P 153 #[ae b] w (adr Q)
def FW:=bA (.o .b)
def nL:=λb c d e w (Q:Bool->WP)=>au P 154 #[.slice b c d,e] w (FW Q)
def Gk:=bA (.o .b)
def xV:=λb c d w (Q:Bool->WP)=>au P 155 #[.pointer b,.pointer c,ae d] w (Gk Q)
def OE:=gg []
def B3:=λb c w (Q:WP)=>au P 156 #[.pointer b,.pointer c] w (OE Q)
def Zx:=gg [.o (.i .i64),.o (.i .i64),.o .b]
def w8:=λb c d w (Q:Int->Int->Bool->WP)=>au P 157 #[ae b,ae c,ae d] w (Zx Q)
def z8:=gg [.g [.i .i64,.i .i64,.l],.o .w]
def xW:=λb c d w (Q:Int->Int->L3 (Value->WP))=>au P 158 #[.pointer b,ae c,ae d] w (z8 Q)
def Zy:=bA (.o (.i .i64))
def om:=λb c d e w (Q:Int->WP)=>au P 159 #[ae b,ae c,ae d,ae e] w (Zy Q)
def AK:=bA (.o (.i .i64))
def yX:=λb c d e w (Q:Int->WP)=>au P 160 #[.slice b c d,.int .u8 e] w (AK Q)
def I4:=gg [.g [.i .i64,.i .i64,.l],.o .b]
def tV:=λb c w (Q:Int->Int->L3 (Bool->WP))=>au P 161 #[.pointer b,ae c] w (I4 Q)
def z9:=bA (.o .l)
def B4:=λb c d w (Q:L3 WP)=>au P 162 #[.pointer b,.pointer c,ae d] w (z9 Q)
def yY:=bA (.o .p)
def wv:=λb c w (Q:OA->WP)=>au P 163 #[.pointer b,ae c] w (yY Q)
def nG:=gg [.g [.l,.l],.o (.i .i64)]
def oo:=λb c d e f g i j l m n o w (Q:L3 (L3 (Int->WP)))=>au P 164 #[.pointer b,ae c,ae d,ae e,.agg #[ae f,ae g,.slice i j l],.slice m n o] w (nG Q)
def PV:=bA (.o (.i .i64))
def ja:=λb c w (Q:Int->WP)=>au P 165 #[.pointer b,ae c] w (PV Q)
def yZ:=bA (.o (.i .i64))
def w9:=λb c d e w (Q:Int->WP)=>au P 166 #[.slice b c d,e] w (yZ Q)
def Se:=gg [.o .l,.o .w]
def xX:=λb c w (Q:L3 (Value->WP))=>au P 167 #[.pointer b,ae c] w (Se Q)
def ah5:=gg [.o .l,.o (.i .i64)]
def HS:=λb c d e f w (Q:L3 (Int->WP))=>au P 168 #[.agg #[ae b,ae c,.slice d e f]] w (ah5 Q)
def abg:=bA (.o .b)
def DB:=λb c d e f g w (Q:Bool->WP)=>au P 169 #[.slice b c d,.slice e f g] w (abg Q)
def PW:=bA (.o (.i .i64))
def wB:=λb w (Q:Int->WP)=>au P 170 #[.pointer b] w (PW Q)
def Lo:=bA (.o .l)
def oq:=λb c w (Q:L3 WP)=>au P 171 #[.pointer b,ae c] w (Lo Q)
def Lp:=bA (.o .l)
def B5:=λb c w (Q:L3 WP)=>au P 172 #[.pointer b,ae c] w (Lp Q)
def VC:=bA (.o (.i .i64))
def z_:=λb c w (Q:Int->WP)=>au P 173 #[.pointer b,ae c] w (VC Q)
def PX:=bA (.o (.i .i64))
def EW:=λb c d e w (Q:Int->WP)=>au P 174 #[ae b,ae c,ae d,ae e] w (PX Q)
def Sf:=bA (.o (.i .i64))
def xY:=λb w (Q:Int->WP)=>au P 175 #[.pointer b] w (Sf Q)
def ads:=bA (.o .l)
def kG:=λb c d w (Q:L3 WP)=>au P 176 #[.slice b c d] w (ads Q)
def Fu:=bA (.o (.i .i64))
def wC:=λb w (Q:Int->WP)=>au P 177 #[.pointer b] w (Fu Q)
def jb:=bA (.o .p)
def tW:=λb c w (Q:OA->WP)=>au P 178 #[.pointer b,ae c] w (jb Q)
def agk:=bA (.o .b)
def Bn:=λb c d e f g i j w (Q:Bool->WP)=>au P 179 #[.agg #[ae b,ae c,.slice d e f],.slice g i j] w (agk Q)
def NB:=gg [.o (.i .i64),.o .b,.o .b]
def DC:=λb c d w (Q:Int->Bool->Bool->WP)=>au P 180 #[.pointer b,ae c,ae d] w (NB Q)
def adt:=bA (.o .b)
def EX:=λb c d e f g w (Q:Bool->WP)=>au P 181 #[.slice b c d,.slice e f g] w (adt Q)
def agl:=gg []
def su:=λb w (Q:WP)=>au P 182 #[.pointer b] w (agl Q)
def agm:=bA (.g [.l,.l])
def Bo:=λb c d e f g w (Q:L3 (L3 WP))=>au P 183 #[.agg #[.slice b c d,.slice e f g]] w (agm Q)
def NC:=gg [.g [.l,.l],.o (.i .i64)]
def DD:=λb c d e f g i j w (Q:L3 (L3 (Int->WP)))=>au P 184 #[.agg #[ae b,ae c,.slice d e f],.slice g i j] w (NC Q)
def DE:=bA (.o .l)
def ji:=λb c d w (Q:L3 WP)=>au P 185 #[.slice b c d] w (DE Q)
def Sg:=gg [.o .l,.o .w]
def nM:=λb c w (Q:L3 (Value->WP))=>au P 186 #[.pointer b,ae c] w (Sg Q)
def PY:=gg [.o .l,.o .w]
def qz:=λb c w (Q:L3 (Value->WP))=>au P 187 #[.pointer b,ae c] w (PY Q)
def Aa:=bA (.o .l)
def rN:=λb c d e w (Q:L3 WP)=>au P 188 #[.slice b c d,ae e] w (Aa Q)
def tX:=gg [.o .l,.o .w]
def xZ:=λb c w (Q:L3 (Value->WP))=>au P 189 #[.pointer b,ae c] w (tX Q)
def ah6:=bA (.o .b)
def uP:=λb c d e f w (Q:Bool->WP)=>au P 190 #[.agg #[ae b,ae c,.slice d e f]] w (ah6 Q)
def CR:=gg [.o (.i .i64),.o .l]
def EY:=λb c d e f w (Q:Int->L3 WP)=>au P 191 #[.agg #[ae b,ae c,.slice d e f]] w (CR Q)
def uY:=bA (.o .l)
def B6:=λb c d w (Q:L3 WP)=>au P 192 #[ae b,ae c,ae d] w (uY Q)
def abh:=bA (.o .b)
def tf:=λb c w (Q:Bool->WP)=>au P 193 #[.pointer b,ae c] w (abh Q)
def Zz:=bA (.g [.i .i64,.i .i64,.i .i64,.i .i64])
def w_:=λw (Q:Int->Int->Int->Int->WP)=>au P 194 #[] w (Zz Q)
def abi:=bA (.o (.i .i64))
def yy:=λb c d e w (Q:Int->WP)=>au P 195 #[ae b,ae c,ae d,ae e] w (abi Q)
def BE:=gg []
def kP:=λb c d e w (Q:WP)=>au P 196 #[.slice b c d,e] w (BE Q)
def abj:=bA (.o (.i .i64))
def DF:=λb c d e f g w (Q:Int->WP)=>au P 197 #[.agg #[ae b,ae c,ae d],.agg #[ae e,ae f,ae g]] w (abj Q)
def jj:=bA (.o .l)
def lu:=λb c d w (Q:L3 WP)=>au P 198 #[.slice b c d] w (jj Q)
def Hu:=bA (.o .l)
def y6:=λb w (Q:L3 WP)=>au P 199 #[.pointer b] w (Hu Q)
def xd:=bA (.g [.i .i64,.l,.l])
def Ab:=λb c w (Q:Int->L3 (L3 WP))=>au P 200 #[.pointer b,ae c] w (xd Q)
def qk:=bA (.o .l)
def oZ:=λb c d e w (Q:L3 WP)=>au P 201 #[.slice b c d,ae e] w (qk Q)
def ah7:=bA (.o .p)
def CS:=λw (Q:OA->WP)=>au P 202 #[] w (ah7 Q)
def kz:=bA (.o .m)
def tY:=λb c w (Q:ON->WP)=>au P 203 #[.pointer b,ae c] w (kz Q)
def Un:=bA (.o .l)
def y7:=λb c w (Q:L3 WP)=>au P 204 #[.pointer b,ae c] w (Un Q)
def Si:=bA (.o .b)
def rC:=λb c d w (Q:Bool->WP)=>au P 205 #[.pointer b,ae c,ae d] w (Si Q)
def VD:=gg []
def mS:=λb c d w (Q:WP)=>au P 206 #[.pointer b,ae c,ae d] w (VD Q)
def DG (Q:Int->Int->Bool->World->Prop)(v:Value)(w:World):Prop:=
 dT v λc=>dD c λd e=>dI .i64 d λf=>dD e λg i=>dI .i64 g λj=>dD i λl m=>dB l λn=>kN m<|Q f j n w
def jF:=λb w (Q:Int->Int->Bool->WP)=>au P 207 #[.pointer b] w (DG Q)
def Hv {b:Option Addr}{w:World}{Q Q':Int->Int->Bool->World->Prop}(hq:∀a b c w,Q a b c w->Q' a b c w)(h:jF b w Q):jF b w Q':=by
 refine au.mono ?_ h
 intro v w' h0
 unfold DG at h0⊢
 obtain⟨c,rfl,h1⟩:=ac9 h0
 obtain⟨d,e,rfl,h2⟩:=jG h1
 obtain⟨f,rfl,h3⟩:=CI h2
 obtain⟨g,i,rfl,h4⟩:=jG h3
 obtain⟨j,rfl,h5⟩:=CI h4
 obtain⟨l,m,rfl,h6⟩:=jG h5
 obtain⟨n,rfl,h7⟩:=HE h6
 obtain⟨rfl,h8⟩:=rJ h7
 exact hq _ _ _ w' h8
def B7:=bA (.o .l)
def Ac:=λb c w (Q:L3 WP)=>au P 208 #[.pointer b,ae c] w (B7 Q)
def zJ:=bA (.o .b)
def nY:=λb c d e w (Q:Bool->WP)=>au P 209 #[.slice b c d,e] w (zJ Q)
def abk:=bA (.o .b)
def DH:=λb c d e w (Q:Bool->WP)=>au P 210 #[.agg #[ae b,ae c,ae d],.pointer e] w (abk Q)
def agn:=bA (.o .b)
def Gl:=λb c d e f g i w (Q:Bool->WP)=>au P 211 #[.agg #[ae b,ae c,.slice d e f],ae g,ae i] w (agn Q)
def I5:=gg []
def tZ:=λb c w (Q:WP)=>au P 212 #[.pointer b,ae c] w (I5 Q)
def Lq:=gg []
def xe:=λb c w (Q:WP)=>au P 213 #[.pointer b,ae c] w (Lq Q)
def tg:=bA (.o .b)
def rO:=λb c d e f g w (Q:Bool->WP)=>au P 214 #[.slice b c d,.slice e f g] w (tg Q)
def Lt:=bA (.o .l)
def kQ:=λb c d w (Q:L3 WP)=>au P 215 #[.slice b c d] w (Lt Q)
def Lu:=gg [.o .l,.o (.i .i64)]
def xg:=λb c d e f g i j w (Q:L3 (Int->WP))=>au P 216 #[.agg #[ae b,ae c,.slice d e f],.slice g i j] w (Lu Q)
def VE:=bA (.o (.i .i64))
def Ad:=λb c w (Q:Int->WP)=>au P 217 #[.pointer b,ae c] w (VE Q)
def XU:=gg [.o (.i .u64),.o (.i .u64)]
def qE:=λb c w (Q:Int->Int->WP)=>au P 218 #[.int .u64 b,.int .u64 c] w (XU Q)
def adu:=bA (.o .b)
def Ae:=λb w (Q:Bool->WP)=>au P 220 #[ae b] w (adu Q)
def y8:=bA (.o .l)
def HT:=λb c d e f g w (Q:L3 WP)=>au P 221 #[.agg #[ae b,ae c,.slice d e f],ae g] w (y8 Q)
def EZ:=bA (.o .l)
def B8:=λb c d w (Q:L3 WP)=>au P 222 #[ae b,ae c,ae d] w (EZ Q)
def cA:=gg []
def fg:=λb c d e f g i w (Q:WP)=>au P 223 #[.slice b c d,ae e,ae f,ae g,i] w (cA Q)
def XV:=bA (.o (.i .i64))
def vH:=λb w (Q:Int->WP)=>au P 224 #[.int .u64 b] w (XV Q)
def PZ:=bA (.o (.i .i64))
def E0:=λb c d w (Q:Int->WP)=>au P 225 #[.slice b c d] w (PZ Q)
def Uo:=bA (.o (.i .i64))
def ot:=λb c w (Q:Int->WP)=>au P 226 #[ae b,ae c] w (Uo Q)
def CT:=gg [.o .l,.o (.i .i64)]
def E1:=λb c d e f g i j w (Q:L3 (Int->WP))=>au P 227 #[.agg #[ae b,ae c,.slice d e f],.slice g i j] w (CT Q)
def Lv:=gg []
def B9:=λb w (Q:WP)=>au P 228 #[.pointer b] w (Lv Q)
def XW:=gg [.o (.i .i64),.o (.i .i64),.o .b]
def A6:=λb w (Q:Int->Int->Bool->WP)=>au P 229 #[.pointer b] w (XW Q)
def ou:=gg []
def Af:=λb w (Q:WP)=>au P 230 #[.pointer b] w (ou Q)
def VF:=gg [.o .p,.o (.i .i64),.o .b]
def t_:=λb c w (Q:OA->Int->Bool->WP)=>au P 231 #[.pointer b,ae c] w (VF Q)
def P0:=bA (.o (.i .i64))
def wD:=λb c d w (Q:Int->WP)=>au P 232 #[.pointer b,ae c,ae d] w (P0 Q)
def qF:=bA (.o (.i .i64))
def pI:=λb c d e w (Q:Int->WP)=>au P 233 #[.slice b c d,e] w (qF Q)
def ah8:=bA (.o .p)
def CU:=λb w (Q:OA->WP)=>au P 234 #[ae b] w (ah8 Q)
def ug:=bA (.o .l)
def ko:=λb c d e w (Q:L3 WP)=>au P 235 #[.slice b c d,ae e] w (ug Q)
def Fv:=gg []
def Dn:=λb w (Q:WP)=>au P 236 #[.pointer b] w (Fv Q)
def CV:=bA (.o (.i .i64))
def Ag:=λb c d e f w (Q:Int->WP)=>au P 237 #[.slice b c d,ae e,ae f] w (CV Q)
def uh:=bA (.o (.i .i64))
def D0:=λb c d w (Q:Int->WP)=>au P 238 #[.pointer b,ae c,ae d] w (uh Q)
def Up:=gg [.o (.i .u64),.o (.i .u64)]
def Fw:=λb c w (Q:Int->Int->WP)=>au P 240 #[.int .u64 b,.int .u64 c] w (Up Q)
def D1:=bA (.o .b)
def mT:=λb c d e w (Q:Bool->WP)=>au P 241 #[.slice b c d,e] w (D1 Q)
def adv:=bA (.o .b)
def Lw:=λb c w (Q:Bool->WP)=>au P 242 #[.int .u8 b,.pointer c] w (adv Q)
def ir:=gg []
def jM:=λb c d e f g w (Q:WP)=>au P 243 #[.slice b c d,ae e,ae f,g] w (ir Q)
def mU:=gg []
def lQ:=λb c d e f g w (Q:WP)=>au P 244 #[.slice b c d,ae e,ae f,g] w (mU Q)
def iv:=gg []
def jN:=λb c d e f g w (Q:WP)=>au P 245 #[.slice b c d,ae e,ae f,g] w (iv Q)
def lz:=gg [.o (.i .i64),.o (.i .i64)]
def kH:=λb c d e f g w (Q:Int->Int->WP)=>au P 246 #[.slice b c d,ae e,ae f,g] w (lz Q)
def qe:=gg []
def j8:=λb c d e f g w (Q:WP)=>au P 247 #[.slice b c d,ae e,ae f,g] w (qe Q)
def bq:=bA (.o .b)
def iC:=λb c d e f g w (Q:Bool->WP)=>au P 248 #[.slice b c d,ae e,ae f,g] w (bq Q)
def eE:=bA (.o (.i .i64))
def jD:=λb c d e f g i w (Q:Int->WP)=>au P 249 #[.slice b c d,ae e,ae f,ae g,i] w (eE Q)
def cL:=gg [.o (.i .i64),.o .b]
def lA:=λb c d e f g i w (Q:Int->Bool->WP)=>au P 250 #[.slice b c d,ae e,ae f,ae g,i] w (cL Q)
def vJ:=bA (.o (.i .i64))
def Fx:=λb w (Q:Int->WP)=>au P 252 #[.int .u64 b] w (vJ Q)
def XX:=bA (.o .b)
def qG:=λb w (Q:Bool->WP)=>au P 253 #[ae b] w (XX Q)
def TL:=bA (.o .b)
def Gm:=λb c d e f g i j w (Q:Bool->WP)=>au P 254 #[.agg #[ae b,ae c,.slice d e f],.slice g i j] w (TL Q)
def ah9:=gg [.o .l,.o (.i .i64)]
def HU:=λb c d e f g w (Q:L3 (Int->WP))=>au P 255 #[.agg #[ae b,ae c,.slice d e f],ae g] w (ah9 Q)
def Uq:=bA (.o .b)
def sv:=λb c d e w (Q:Bool->WP)=>au P 256 #[.agg #[ae b,ae c],.agg #[ae d,ae e]] w (Uq Q)
def XY:=bA (.o (.i .i64))
def A7:=λb w (Q:Int->WP)=>au P 257 #[.pointer b] w (XY Q)
def Ur:=gg [.o (.i .i64),.o .b]
def Fy:=λb c w (Q:Int->Bool->WP)=>au P 258 #[.pointer b,ae c] w (Ur Q)
def D2:=gg []
def jO:=λb w (Q:WP)=>au P 259 #[.pointer b] w (D2 Q)
def XZ:=bA (.o (.i .i64))
def qH:=λb w (Q:Int->WP)=>au P 260 #[.pointer b] w (XZ Q)
def J7:=gg [.o (.i .i64),.o (.i .i64),.o .b]
def A8:=λb w (Q:Int->Int->Bool->WP)=>au P 261 #[.pointer b] w (J7 Q)
def pJ:=gg []
def sU:=λb c w (Q:WP)=>au P 262 #[.pointer b,ae c] w (pJ Q)
def X0:=bA (.o .b)
def nH:=λb c d w (Q:Bool->WP)=>au P 263 #[.pointer b,ae c,ae d] w (X0 Q)
def xh:=bA (.o (.i .i64))
def uZ:=λb c d e w (Q:Int->WP)=>au P 264 #[.slice b c d,e] w (xh Q)
def jw:=gg []
def iZ:=λb c d e f g i w (Q:WP)=>au P 265 #[.slice b c d,ae e,ae f,ae g,i] w (jw Q)
def Ko:=bA (.o (.i .u64))
def zQ:=λb w (Q:Int->WP)=>au P 266 #[ae b] w (Ko Q)
def Lx:=bA (.o (.i .u64))
def sV:=λb w (Q:Int->WP)=>au P 267 #[.pointer b] w (Lx Q)
def zK:=bA (.o (.i .i64))
def ff:=λb c d e f g w (Q:Int->WP)=>au P 268 #[.slice b c d,ae e,.pointer f,g] w (zK Q)
def D3:=bA (.o (.i .i64))
def jx:=λb c d e f g i j w (Q:Int->WP)=>au P 269 #[.slice b c d,ae e,ae f,ae g,.pointer i,j] w (D3 Q)
def aj8:=bA (.o (.i .i64))
def JE:=λb c d e f g w (Q:Int->WP)=>au P 270 #[.agg #[ae b,ae c,.slice d e f],ae g] w (aj8 Q)
def vY:=gg [.o (.i .i64),.o .b]
def nN:=λb c d e w (Q:Int->Bool->WP)=>au P 271 #[.slice b c d,ae e] w (vY Q)
def VG:=bA (.o .b)
def Ah:=λb c w (Q:Bool->WP)=>au P 272 #[.pointer b,ae c] w (VG Q)
def X1:=bA (.o .b)
def vK:=λb c d w (Q:Bool->WP)=>au P 273 #[.pointer b,ae c,ae d] w (X1 Q)
def P9:=bA (.o .b)
def qA:=λb w (Q:Bool->WP)=>au P 274 #[.pointer b] w (P9 Q)
def Us:=bA (.o (.i .i64))
def y9:=λb w (Q:Int->WP)=>au P 275 #[.pointer b] w (Us Q)
def MJ:=gg []
def iw:=λb c d w (Q:WP)=>au P 276 #[.pointer b,ae c,ae d] w (MJ Q)
def vL:=bA (.o (.i .i64))
def y_:=λb c d w (Q:Int->WP)=>au P 277 #[.pointer b,ae c,ae d] w (vL Q)
def D4:=gg [.o (.i .i64),.o (.i .i64)]
def gR:=λb c d e f g i w (Q:Int->Int->WP)=>au P 278 #[.slice b c d,ae e,ae f,.pointer g,i] w (D4 Q)
def aj9:=bA (.o .b)
def JF:=λb c d e f g w (Q:Bool->WP)=>au P 279 #[.agg #[ae b,ae c,.slice d e f],ae g] w (aj9 Q)
def ZA:=bA (.o .b)
def I6:=λb c w (Q:Bool->WP)=>au P 280 #[ae b,ae c] w (ZA Q)
def Sj:=bA (.o .b)
def nO:=λb w (Q:Bool->WP)=>au P 281 #[ae b] w (Sj Q)
def Ut:=gg []
def za:=λb c w (Q:WP)=>au P 282 #[.pointer b,ae c] w (Ut Q)
def VH:=bA (.o .w)
def Gn:=λb w (Q:Value->WP)=>au P 302 #[.pointer b] w (VH Q)
def P_:=bA (.o .w)
def Dp:=λb w (Q:Value->WP)=>au P 321 #[.pointer b] w (P_ Q)
def Uu:=bA (.o .w)
def Fz:=λb w (Q:Value->WP)=>au P 325 #[.pointer b] w (Uu Q)
def uj:=λa b c w Q=>bB (a_ a b c w Q) (NZ (IntKind.wrap .i64 ((IntKind.wrap .i64 (c-b))+1))<|cond (decide ((Int.tmod a (IntKind.wrap .i64 ((IntKind.wrap .i64 (c-b))+1)))<0)) (Q (IntKind.wrap .i64 (b+(IntKind.wrap .i64 ((IntKind.wrap .i64 ((IntKind.wrap .i64 ((Int.tmod a (IntKind.wrap .i64 ((IntKind.wrap .i64 (c-b))+1)))+c))-b))+1)))) w) (Q (IntKind.wrap .i64 (b+(Int.tmod a (IntKind.wrap .i64 ((IntKind.wrap .i64 (c-b))+1))))) w)) (ok 24) [] [] Tryz.func10
def Uv:=λa w Q=>bB (vD a w Q) (cond (!a.isNone) (cM P 180 none w λb w=>wA a λc=>St (c.add 1) (.slice none 0 0) w λw=>wA a λd=>St (d.add 2) (.map b) w λw=>wA a λe=>St (e.add 3) (ae (-1)) w λw=>wA a λf=>St (f.add 4) (ae (-1)) w λw=>Q w) (Q w)) (ok 17) [] [] Tryz.func108
def ago:=λa w Q=>bB (JA a w Q) (cond (decide (a<1)) (Q none w) (Bx [ae a,.slice none 0 0,.map none,ae 0,ae 0] 182 w λb w=>vD (some b) w λw=>Q (some b) w)) (ok 12) [] [] Tryz.func74
def abl:=λa w Q=>bB (Gb a w Q) (cond (decide (a<1)) (Q none w) (JA a w λb w=>Bx [.pointer b,.slice none 0 0,.int .u64 0,.int .u64 0,.int .u64 0,.int .u64 0,.int .u64 0,.int .u64 0] 135 w λc w=>Q (some c) w)) (ok 9) [] [] Tryz.func47
def agp:=λa w Q=>bB (Jx a w Q) (cond (decide (a<1)) (Q none w) (Gb a w λb w=>Bx [.pointer none,.pointer none,.pointer none,.pointer b,.int .u64 0,.int .u64 0,.int .u64 0,.int .u64 0,.int .u64 0,.int .u64 0] 106 w λc w=>Q (some c) w)) (ok 9) [] [] Tryz.func27
def agq:=λa b w Q=>bB (wL a b w Q) (cond (decide (a<1)) (Q none w) (cond (decide (b<1)) (Q none w) (cond (decide (b>65536)) (Q none w) (Jx a w λc w=>Bx [ae b,.pointer c,.pointer none] 72 w λd w=>Q (some d) w)))) (ok 20) [] [] Tryz.func11
def FA:=λa w Q=>bB (yO a w Q) (cond a.isNone (Q none w) (wA a λb=>bp (b.add 1) w λc=>Q c w)) (ok 9) [] [] Tryz.func39
def VI:=λa b c d e f w Q=>bB (cU a b c d e f w Q) (Bx [.int .u64 a,.int .u64 b,.int .u64 c,.int .u64 d,.int .u64 e,.int .u64 f] 32 w λg w=>Al T 175 w λi w=>af .u64 g w λj=>af .u64 (g.add 1) w λl=>af .u64 (g.add 2) w λm=>af .u64 (g.add 3) w λn=>af .u64 (g.add 4) w λo=>af .u64 (g.add 5) w λp=>St (i.add 0) (.int .u64 j) w λw=>St (i.add 1) (.int .u64 l) w λw=>St (i.add 2) (.int .u64 m) w λw=>St (i.add 3) (.int .u64 n) w λw=>St (i.add 4) (.int .u64 o) w λw=>St (i.add 5) (.int .u64 p) w λw=>af .u64 (i.add 0) w λq=>af .u64 (i.add 1) w λr=>af .u64 (i.add 2) w λs=>af .u64 (i.add 3) w λt=>af .u64 (i.add 4) w λu=>af .u64 (i.add 5) w λv=>Q q r s t u v w) (ok 16) [] [] Tryz.func104
def abm:=λa b w Q=>bB (r9 a b w Q) (cond (decide (a>(IntKind.wrap .u64 (18446744073709551615-b)))) (Q 18446744073709551615 w) (Q (IntKind.wrap .u64 (a+b)) w)) (ok 12) [] [] Tryz.func105
def sW (Q:Int->Int->Int->Int->Int->Int->WP)(R3:Addr->Addr->Addr->Int->WP)(a b c:Addr)(d:Int)(w:World):Prop:=cond (decide (d<6)) (aK d 6<|af .u64 (b.add (d.toNat*1)) w.drew λe=>aK d 6<|af .u64 (c.add (d.toNat*1)) w.drew λf=>r9 e f w.drew λg w=>aK d 6<|St (b.add (d.toNat*1)) (.int .u64 g) w λw=>R3 a b c (IntKind.wrap .i64 (d+1)) w) (aK 0 6<|af .u64 (b.add (((0:Int).toNat)*1)) w λi=>aK 1 6<|af .u64 (b.add (((1:Int).toNat)*1)) w λj=>aK 2 6<|af .u64 (b.add (((2:Int).toNat)*1)) w λl=>aK 3 6<|af .u64 (b.add (((3:Int).toNat)*1)) w λm=>aK 4 6<|af .u64 (b.add (((4:Int).toNat)*1)) w λn=>aK 5 6<|af .u64 (b.add (((5:Int).toNat)*1)) w λo=>St (a.add 0) (.int .u64 i) w λw=>St (a.add 1) (.int .u64 j) w λw=>St (a.add 2) (.int .u64 l) w λw=>St (a.add 3) (.int .u64 m) w λw=>St (a.add 4) (.int .u64 n) w λw=>St (a.add 5) (.int .u64 o) w λw=>af .u64 (a.add 0) w λp=>af .u64 (a.add 1) w λq=>af .u64 (a.add 2) w λr=>af .u64 (a.add 3) w λs=>af .u64 (a.add 4) w λt=>af .u64 (a.add 5) w λu=>Q p q r s t u w)
def qf (Q:Int->Int->Int->Int->Int->Int->WP):Nat->Addr->Addr->Addr->Int->WP
 |0,_,_,_,_,_=>False
 |k+1,a,b,c,d,w=>sW Q (qf Q k) a b c d w
def gZ (Q:Int->Int->Int->Int->Int->Int->WP)(a b c:Addr)(w:World):Prop:=∃k',qf Q k' a b c 0 w
noncomputable def HV:cm:=[(1,.op 0 (.op 2 (.br (.op 1 (.br (.op 3 (.br (.op 4 (.op 5 (.op 6 (.op 7 .done)))) (.op 5 (.op 4 (.op 6 (.op 7 .done)))))) (.br (.op 4 (.br (.op 3 (.op 5 (.op 6 (.op 7 .done)))) (.op 5 (.op 3 (.op 6 (.op 7 .done)))))) (.op 5 (.br (.op 3 (.op 4 (.op 6 (.op 7 .done)))) (.op 4 (.op 3 (.op 6 (.op 7 .done))))))))) (.br (.op 4 (.br (.op 1 (.br (.op 3 (.op 5 (.op 6 (.op 7 .done)))) (.op 5 (.op 3 (.op 6 (.op 7 .done)))))) (.op 5 (.op 1 (.op 3 (.op 6 (.op 7 .done))))))) (.op 5 (.br (.op 1 (.br (.op 3 (.op 4 (.op 6 (.op 7 .done)))) (.op 4 (.op 3 (.op 6 (.op 7 .done)))))) (.op 4 (.op 1 (.op 3 (.op 6 (.op 7 .done))))))))))),(5,sp 0 7 (.op 7 (.op 8 (.op 9 .done))))]
def agr (Q):∀k,Bk 38 Tryz.f70 (Jz Q) 3 [(4,.a),(5,.a),(6,.a),(12,.i .i64)] (qf Q k):=bH λk h=>aS (ok 38) HV [aO h]
def ags (Q):Bk 38 Tryz.f70 (Jz Q) 2 [(4,.a),(5,.a),(6,.a)] (gZ Q):=aS (ok 38) HV [cg (agr Q)]
def abn:=λa b c d e f g i j l m n w Q=>bB (wV a b c d e f g i j l m n w Q) (Bx [.int .u64 a,.int .u64 b,.int .u64 c,.int .u64 d,.int .u64 e,.int .u64 f] 32 w λo w=>Bx [.int .u64 g,.int .u64 i,.int .u64 j,.int .u64 l,.int .u64 m,.int .u64 n] 32 w λp w=>Al T 32 w λq w=>af .u64 (o.add 0) w.drew λr=>af .u64 (o.add 1) w.drew λs=>af .u64 (o.add 2) w.drew λt=>af .u64 (o.add 3) w.drew λu=>af .u64 (o.add 4) w.drew λv=>af .u64 (o.add 5) w.drew λx=>af .u64 (p.add 0) w.drew λy=>af .u64 (p.add 1) w.drew λz=>af .u64 (p.add 2) w.drew λa1=>af .u64 (p.add 3) w.drew λb1=>af .u64 (p.add 4) w.drew λc1=>af .u64 (p.add 5) w.drew λd1=>(cU r s t u v x w.drew λe1 f1 g1 i1 j1 l1 w=>w.cell? (p.add 0)=some (.int .u64 y)/\w.cell? (p.add 1)=some (.int .u64 z)/\w.cell? (p.add 2)=some (.int .u64 a1)/\w.cell? (p.add 3)=some (.int .u64 b1)/\w.cell? (p.add 4)=some (.int .u64 c1)/\w.cell? (p.add 5)=some (.int .u64 d1)/\(cU y z a1 b1 c1 d1 w λm1 n1 o1 p1 q1 r1 w=>(Al T 175 w λs1 w=>w.cell? (p.add 0)=some (.int .u64 y)/\w.cell? (p.add 1)=some (.int .u64 z)/\w.cell? (p.add 2)=some (.int .u64 a1)/\w.cell? (p.add 3)=some (.int .u64 b1)/\w.cell? (p.add 4)=some (.int .u64 c1)/\w.cell? (p.add 5)=some (.int .u64 d1)/\w.cell? (o.add 0)=some (.int .u64 r)/\w.cell? (o.add 1)=some (.int .u64 s)/\w.cell? (o.add 2)=some (.int .u64 t)/\w.cell? (o.add 3)=some (.int .u64 u)/\w.cell? (o.add 4)=some (.int .u64 v)/\w.cell? (o.add 5)=some (.int .u64 x)/\Al T 175 w λt1 w=>w.cell? (p.add 0)=some (.int .u64 y)/\w.cell? (p.add 1)=some (.int .u64 z)/\w.cell? (p.add 2)=some (.int .u64 a1)/\w.cell? (p.add 3)=some (.int .u64 b1)/\w.cell? (p.add 4)=some (.int .u64 c1)/\w.cell? (p.add 5)=some (.int .u64 d1)/\w.cell? (o.add 0)=some (.int .u64 r)/\w.cell? (o.add 1)=some (.int .u64 s)/\w.cell? (o.add 2)=some (.int .u64 t)/\w.cell? (o.add 3)=some (.int .u64 u)/\w.cell? (o.add 4)=some (.int .u64 v)/\w.cell? (o.add 5)=some (.int .u64 x)/\St (s1.add 0) (.int .u64 e1) w λw=>St (s1.add 1) (.int .u64 f1) w λw=>St (s1.add 2) (.int .u64 g1) w λw=>St (s1.add 3) (.int .u64 i1) w λw=>St (s1.add 4) (.int .u64 j1) w λw=>St (s1.add 5) (.int .u64 l1) w λw=>St (t1.add 0) (.int .u64 m1) w λw=>St (t1.add 1) (.int .u64 n1) w λw=>St (t1.add 2) (.int .u64 o1) w λw=>St (t1.add 3) (.int .u64 p1) w λw=>St (t1.add 4) (.int .u64 q1) w λw=>St (t1.add 5) (.int .u64 r1) w λw=>gZ Q q s1 t1 w)/\(Al T 175 w λu1 w=>w.cell? (p.add 0)=some (.int .u64 y)/\w.cell? (p.add 1)=some (.int .u64 z)/\w.cell? (p.add 2)=some (.int .u64 a1)/\w.cell? (p.add 3)=some (.int .u64 b1)/\w.cell? (p.add 4)=some (.int .u64 c1)/\w.cell? (p.add 5)=some (.int .u64 d1)/\w.cell? (o.add 0)=some (.int .u64 r)/\w.cell? (o.add 1)=some (.int .u64 s)/\w.cell? (o.add 2)=some (.int .u64 t)/\w.cell? (o.add 3)=some (.int .u64 u)/\w.cell? (o.add 4)=some (.int .u64 v)/\w.cell? (o.add 5)=some (.int .u64 x)/\Al T 175 w λv1 w=>w.cell? (p.add 0)=some (.int .u64 y)/\w.cell? (p.add 1)=some (.int .u64 z)/\w.cell? (p.add 2)=some (.int .u64 a1)/\w.cell? (p.add 3)=some (.int .u64 b1)/\w.cell? (p.add 4)=some (.int .u64 c1)/\w.cell? (p.add 5)=some (.int .u64 d1)/\w.cell? (o.add 0)=some (.int .u64 r)/\w.cell? (o.add 1)=some (.int .u64 s)/\w.cell? (o.add 2)=some (.int .u64 t)/\w.cell? (o.add 3)=some (.int .u64 u)/\w.cell? (o.add 4)=some (.int .u64 v)/\w.cell? (o.add 5)=some (.int .u64 x)/\St (v1.add 0) (.int .u64 e1) w λw=>St (v1.add 1) (.int .u64 f1) w λw=>St (v1.add 2) (.int .u64 g1) w λw=>St (v1.add 3) (.int .u64 i1) w λw=>St (v1.add 4) (.int .u64 j1) w λw=>St (v1.add 5) (.int .u64 l1) w λw=>St (u1.add 0) (.int .u64 m1) w λw=>St (u1.add 1) (.int .u64 n1) w λw=>St (u1.add 2) (.int .u64 o1) w λw=>St (u1.add 3) (.int .u64 p1) w λw=>St (u1.add 4) (.int .u64 q1) w λw=>St (u1.add 5) (.int .u64 r1) w λw=>gZ Q q v1 u1 w))/\((Al T 175 w λx1 w=>w.cell? (p.add 0)=some (.int .u64 y)/\w.cell? (p.add 1)=some (.int .u64 z)/\w.cell? (p.add 2)=some (.int .u64 a1)/\w.cell? (p.add 3)=some (.int .u64 b1)/\w.cell? (p.add 4)=some (.int .u64 c1)/\w.cell? (p.add 5)=some (.int .u64 d1)/\w.cell? (o.add 0)=some (.int .u64 r)/\w.cell? (o.add 1)=some (.int .u64 s)/\w.cell? (o.add 2)=some (.int .u64 t)/\w.cell? (o.add 3)=some (.int .u64 u)/\w.cell? (o.add 4)=some (.int .u64 v)/\w.cell? (o.add 5)=some (.int .u64 x)/\(cU y z a1 b1 c1 d1 w λy1 z1 a2 b2 c2 d2 w=>Al T 175 w λe2 w=>w.cell? (p.add 0)=some (.int .u64 y)/\w.cell? (p.add 1)=some (.int .u64 z)/\w.cell? (p.add 2)=some (.int .u64 a1)/\w.cell? (p.add 3)=some (.int .u64 b1)/\w.cell? (p.add 4)=some (.int .u64 c1)/\w.cell? (p.add 5)=some (.int .u64 d1)/\w.cell? (o.add 0)=some (.int .u64 r)/\w.cell? (o.add 1)=some (.int .u64 s)/\w.cell? (o.add 2)=some (.int .u64 t)/\w.cell? (o.add 3)=some (.int .u64 u)/\w.cell? (o.add 4)=some (.int .u64 v)/\w.cell? (o.add 5)=some (.int .u64 x)/\St (x1.add 0) (.int .u64 e1) w λw=>St (x1.add 1) (.int .u64 f1) w λw=>St (x1.add 2) (.int .u64 g1) w λw=>St (x1.add 3) (.int .u64 i1) w λw=>St (x1.add 4) (.int .u64 j1) w λw=>St (x1.add 5) (.int .u64 l1) w λw=>St (e2.add 0) (.int .u64 y1) w λw=>St (e2.add 1) (.int .u64 z1) w λw=>St (e2.add 2) (.int .u64 a2) w λw=>St (e2.add 3) (.int .u64 b2) w λw=>St (e2.add 4) (.int .u64 c2) w λw=>St (e2.add 5) (.int .u64 d2) w λw=>gZ Q q x1 e2 w)/\(Al T 175 w λf2 w=>w.cell? (p.add 0)=some (.int .u64 y)/\w.cell? (p.add 1)=some (.int .u64 z)/\w.cell? (p.add 2)=some (.int .u64 a1)/\w.cell? (p.add 3)=some (.int .u64 b1)/\w.cell? (p.add 4)=some (.int .u64 c1)/\w.cell? (p.add 5)=some (.int .u64 d1)/\w.cell? (o.add 0)=some (.int .u64 r)/\w.cell? (o.add 1)=some (.int .u64 s)/\w.cell? (o.add 2)=some (.int .u64 t)/\w.cell? (o.add 3)=some (.int .u64 u)/\w.cell? (o.add 4)=some (.int .u64 v)/\w.cell? (o.add 5)=some (.int .u64 x)/\cU y z a1 b1 c1 d1 w λg2 i2 j2 l2 m2 n2 w=>St (x1.add 0) (.int .u64 e1) w λw=>St (x1.add 1) (.int .u64 f1) w λw=>St (x1.add 2) (.int .u64 g1) w λw=>St (x1.add 3) (.int .u64 i1) w λw=>St (x1.add 4) (.int .u64 j1) w λw=>St (x1.add 5) (.int .u64 l1) w λw=>St (f2.add 0) (.int .u64 g2) w λw=>St (f2.add 1) (.int .u64 i2) w λw=>St (f2.add 2) (.int .u64 j2) w λw=>St (f2.add 3) (.int .u64 l2) w λw=>St (f2.add 4) (.int .u64 m2) w λw=>St (f2.add 5) (.int .u64 n2) w λw=>gZ Q q x1 f2 w))/\(Al T 175 w λo2 w=>w.cell? (p.add 0)=some (.int .u64 y)/\w.cell? (p.add 1)=some (.int .u64 z)/\w.cell? (p.add 2)=some (.int .u64 a1)/\w.cell? (p.add 3)=some (.int .u64 b1)/\w.cell? (p.add 4)=some (.int .u64 c1)/\w.cell? (p.add 5)=some (.int .u64 d1)/\w.cell? (o.add 0)=some (.int .u64 r)/\w.cell? (o.add 1)=some (.int .u64 s)/\w.cell? (o.add 2)=some (.int .u64 t)/\w.cell? (o.add 3)=some (.int .u64 u)/\w.cell? (o.add 4)=some (.int .u64 v)/\w.cell? (o.add 5)=some (.int .u64 x)/\(cU y z a1 b1 c1 d1 w λp2 q2 r2 s2 t2 u2 w=>Al T 175 w λv2 w=>w.cell? (p.add 0)=some (.int .u64 y)/\w.cell? (p.add 1)=some (.int .u64 z)/\w.cell? (p.add 2)=some (.int .u64 a1)/\w.cell? (p.add 3)=some (.int .u64 b1)/\w.cell? (p.add 4)=some (.int .u64 c1)/\w.cell? (p.add 5)=some (.int .u64 d1)/\w.cell? (o.add 0)=some (.int .u64 r)/\w.cell? (o.add 1)=some (.int .u64 s)/\w.cell? (o.add 2)=some (.int .u64 t)/\w.cell? (o.add 3)=some (.int .u64 u)/\w.cell? (o.add 4)=some (.int .u64 v)/\w.cell? (o.add 5)=some (.int .u64 x)/\St (v2.add 0) (.int .u64 e1) w λw=>St (v2.add 1) (.int .u64 f1) w λw=>St (v2.add 2) (.int .u64 g1) w λw=>St (v2.add 3) (.int .u64 i1) w λw=>St (v2.add 4) (.int .u64 j1) w λw=>St (v2.add 5) (.int .u64 l1) w λw=>St (o2.add 0) (.int .u64 p2) w λw=>St (o2.add 1) (.int .u64 q2) w λw=>St (o2.add 2) (.int .u64 r2) w λw=>St (o2.add 3) (.int .u64 s2) w λw=>St (o2.add 4) (.int .u64 t2) w λw=>St (o2.add 5) (.int .u64 u2) w λw=>gZ Q q v2 o2 w)/\(Al T 175 w λx2 w=>w.cell? (p.add 0)=some (.int .u64 y)/\w.cell? (p.add 1)=some (.int .u64 z)/\w.cell? (p.add 2)=some (.int .u64 a1)/\w.cell? (p.add 3)=some (.int .u64 b1)/\w.cell? (p.add 4)=some (.int .u64 c1)/\w.cell? (p.add 5)=some (.int .u64 d1)/\w.cell? (o.add 0)=some (.int .u64 r)/\w.cell? (o.add 1)=some (.int .u64 s)/\w.cell? (o.add 2)=some (.int .u64 t)/\w.cell? (o.add 3)=some (.int .u64 u)/\w.cell? (o.add 4)=some (.int .u64 v)/\w.cell? (o.add 5)=some (.int .u64 x)/\cU y z a1 b1 c1 d1 w λy2 z2 a3 b3 c3 d3 w=>St (x2.add 0) (.int .u64 e1) w λw=>St (x2.add 1) (.int .u64 f1) w λw=>St (x2.add 2) (.int .u64 g1) w λw=>St (x2.add 3) (.int .u64 i1) w λw=>St (x2.add 4) (.int .u64 j1) w λw=>St (x2.add 5) (.int .u64 l1) w λw=>St (o2.add 0) (.int .u64 y2) w λw=>St (o2.add 1) (.int .u64 z2) w λw=>St (o2.add 2) (.int .u64 a3) w λw=>St (o2.add 3) (.int .u64 b3) w λw=>St (o2.add 4) (.int .u64 c3) w λw=>St (o2.add 5) (.int .u64 d3) w λw=>gZ Q q x2 o2 w))))/\((Al T 175 w.drew λe3 w=>w.cell? (p.add 0)=some (.int .u64 y)/\w.cell? (p.add 1)=some (.int .u64 z)/\w.cell? (p.add 2)=some (.int .u64 a1)/\w.cell? (p.add 3)=some (.int .u64 b1)/\w.cell? (p.add 4)=some (.int .u64 c1)/\w.cell? (p.add 5)=some (.int .u64 d1)/\w.cell? (o.add 0)=some (.int .u64 r)/\w.cell? (o.add 1)=some (.int .u64 s)/\w.cell? (o.add 2)=some (.int .u64 t)/\w.cell? (o.add 3)=some (.int .u64 u)/\w.cell? (o.add 4)=some (.int .u64 v)/\w.cell? (o.add 5)=some (.int .u64 x)/\(cU r s t u v x w λf3 g3 i3 j3 l3 m3 w=>w.cell? (p.add 0)=some (.int .u64 y)/\w.cell? (p.add 1)=some (.int .u64 z)/\w.cell? (p.add 2)=some (.int .u64 a1)/\w.cell? (p.add 3)=some (.int .u64 b1)/\w.cell? (p.add 4)=some (.int .u64 c1)/\w.cell? (p.add 5)=some (.int .u64 d1)/\(cU y z a1 b1 c1 d1 w λn3 o3 p3 q3 r3 s3 w=>Al T 175 w λt3 w=>w.cell? (p.add 0)=some (.int .u64 y)/\w.cell? (p.add 1)=some (.int .u64 z)/\w.cell? (p.add 2)=some (.int .u64 a1)/\w.cell? (p.add 3)=some (.int .u64 b1)/\w.cell? (p.add 4)=some (.int .u64 c1)/\w.cell? (p.add 5)=some (.int .u64 d1)/\w.cell? (o.add 0)=some (.int .u64 r)/\w.cell? (o.add 1)=some (.int .u64 s)/\w.cell? (o.add 2)=some (.int .u64 t)/\w.cell? (o.add 3)=some (.int .u64 u)/\w.cell? (o.add 4)=some (.int .u64 v)/\w.cell? (o.add 5)=some (.int .u64 x)/\St (e3.add 0) (.int .u64 f3) w λw=>St (e3.add 1) (.int .u64 g3) w λw=>St (e3.add 2) (.int .u64 i3) w λw=>St (e3.add 3) (.int .u64 j3) w λw=>St (e3.add 4) (.int .u64 l3) w λw=>St (e3.add 5) (.int .u64 m3) w λw=>St (t3.add 0) (.int .u64 n3) w λw=>St (t3.add 1) (.int .u64 o3) w λw=>St (t3.add 2) (.int .u64 p3) w λw=>St (t3.add 3) (.int .u64 q3) w λw=>St (t3.add 4) (.int .u64 r3) w λw=>St (t3.add 5) (.int .u64 s3) w λw=>gZ Q q e3 t3 w)/\(Al T 175 w λu3 w=>w.cell? (p.add 0)=some (.int .u64 y)/\w.cell? (p.add 1)=some (.int .u64 z)/\w.cell? (p.add 2)=some (.int .u64 a1)/\w.cell? (p.add 3)=some (.int .u64 b1)/\w.cell? (p.add 4)=some (.int .u64 c1)/\w.cell? (p.add 5)=some (.int .u64 d1)/\w.cell? (o.add 0)=some (.int .u64 r)/\w.cell? (o.add 1)=some (.int .u64 s)/\w.cell? (o.add 2)=some (.int .u64 t)/\w.cell? (o.add 3)=some (.int .u64 u)/\w.cell? (o.add 4)=some (.int .u64 v)/\w.cell? (o.add 5)=some (.int .u64 x)/\cU y z a1 b1 c1 d1 w λv3 x3 y3 z3 a4 b4 w=>St (e3.add 0) (.int .u64 f3) w λw=>St (e3.add 1) (.int .u64 g3) w λw=>St (e3.add 2) (.int .u64 i3) w λw=>St (e3.add 3) (.int .u64 j3) w λw=>St (e3.add 4) (.int .u64 l3) w λw=>St (e3.add 5) (.int .u64 m3) w λw=>St (u3.add 0) (.int .u64 v3) w λw=>St (u3.add 1) (.int .u64 x3) w λw=>St (u3.add 2) (.int .u64 y3) w λw=>St (u3.add 3) (.int .u64 z3) w λw=>St (u3.add 4) (.int .u64 a4) w λw=>St (u3.add 5) (.int .u64 b4) w λw=>gZ Q q e3 u3 w))/\(Al T 175 w λc4 w=>w.cell? (p.add 0)=some (.int .u64 y)/\w.cell? (p.add 1)=some (.int .u64 z)/\w.cell? (p.add 2)=some (.int .u64 a1)/\w.cell? (p.add 3)=some (.int .u64 b1)/\w.cell? (p.add 4)=some (.int .u64 c1)/\w.cell? (p.add 5)=some (.int .u64 d1)/\w.cell? (o.add 0)=some (.int .u64 r)/\w.cell? (o.add 1)=some (.int .u64 s)/\w.cell? (o.add 2)=some (.int .u64 t)/\w.cell? (o.add 3)=some (.int .u64 u)/\w.cell? (o.add 4)=some (.int .u64 v)/\w.cell? (o.add 5)=some (.int .u64 x)/\cU r s t u v x w λd4 e4 f4 g4 i4 j4 w=>w.cell? (p.add 0)=some (.int .u64 y)/\w.cell? (p.add 1)=some (.int .u64 z)/\w.cell? (p.add 2)=some (.int .u64 a1)/\w.cell? (p.add 3)=some (.int .u64 b1)/\w.cell? (p.add 4)=some (.int .u64 c1)/\w.cell? (p.add 5)=some (.int .u64 d1)/\cU y z a1 b1 c1 d1 w λl4 m4 n4 o4 p4 q4 w=>St (e3.add 0) (.int .u64 d4) w λw=>St (e3.add 1) (.int .u64 e4) w λw=>St (e3.add 2) (.int .u64 f4) w λw=>St (e3.add 3) (.int .u64 g4) w λw=>St (e3.add 4) (.int .u64 i4) w λw=>St (e3.add 5) (.int .u64 j4) w λw=>St (c4.add 0) (.int .u64 l4) w λw=>St (c4.add 1) (.int .u64 m4) w λw=>St (c4.add 2) (.int .u64 n4) w λw=>St (c4.add 3) (.int .u64 o4) w λw=>St (c4.add 4) (.int .u64 p4) w λw=>St (c4.add 5) (.int .u64 q4) w λw=>gZ Q q e3 c4 w))/\(Al T 175 w.drew λr4 w=>w.cell? (p.add 0)=some (.int .u64 y)/\w.cell? (p.add 1)=some (.int .u64 z)/\w.cell? (p.add 2)=some (.int .u64 a1)/\w.cell? (p.add 3)=some (.int .u64 b1)/\w.cell? (p.add 4)=some (.int .u64 c1)/\w.cell? (p.add 5)=some (.int .u64 d1)/\w.cell? (o.add 0)=some (.int .u64 r)/\w.cell? (o.add 1)=some (.int .u64 s)/\w.cell? (o.add 2)=some (.int .u64 t)/\w.cell? (o.add 3)=some (.int .u64 u)/\w.cell? (o.add 4)=some (.int .u64 v)/\w.cell? (o.add 5)=some (.int .u64 x)/\(cU r s t u v x w λs4 t4 u4 v4 x4 y4 w=>w.cell? (p.add 0)=some (.int .u64 y)/\w.cell? (p.add 1)=some (.int .u64 z)/\w.cell? (p.add 2)=some (.int .u64 a1)/\w.cell? (p.add 3)=some (.int .u64 b1)/\w.cell? (p.add 4)=some (.int .u64 c1)/\w.cell? (p.add 5)=some (.int .u64 d1)/\(cU y z a1 b1 c1 d1 w λz4 a5 b5 c5 d5 e5 w=>Al T 175 w λf5 w=>w.cell? (p.add 0)=some (.int .u64 y)/\w.cell? (p.add 1)=some (.int .u64 z)/\w.cell? (p.add 2)=some (.int .u64 a1)/\w.cell? (p.add 3)=some (.int .u64 b1)/\w.cell? (p.add 4)=some (.int .u64 c1)/\w.cell? (p.add 5)=some (.int .u64 d1)/\w.cell? (o.add 0)=some (.int .u64 r)/\w.cell? (o.add 1)=some (.int .u64 s)/\w.cell? (o.add 2)=some (.int .u64 t)/\w.cell? (o.add 3)=some (.int .u64 u)/\w.cell? (o.add 4)=some (.int .u64 v)/\w.cell? (o.add 5)=some (.int .u64 x)/\St (f5.add 0) (.int .u64 s4) w λw=>St (f5.add 1) (.int .u64 t4) w λw=>St (f5.add 2) (.int .u64 u4) w λw=>St (f5.add 3) (.int .u64 v4) w λw=>St (f5.add 4) (.int .u64 x4) w λw=>St (f5.add 5) (.int .u64 y4) w λw=>St (r4.add 0) (.int .u64 z4) w λw=>St (r4.add 1) (.int .u64 a5) w λw=>St (r4.add 2) (.int .u64 b5) w λw=>St (r4.add 3) (.int .u64 c5) w λw=>St (r4.add 4) (.int .u64 d5) w λw=>St (r4.add 5) (.int .u64 e5) w λw=>gZ Q q f5 r4 w)/\(Al T 175 w λg5 w=>w.cell? (p.add 0)=some (.int .u64 y)/\w.cell? (p.add 1)=some (.int .u64 z)/\w.cell? (p.add 2)=some (.int .u64 a1)/\w.cell? (p.add 3)=some (.int .u64 b1)/\w.cell? (p.add 4)=some (.int .u64 c1)/\w.cell? (p.add 5)=some (.int .u64 d1)/\w.cell? (o.add 0)=some (.int .u64 r)/\w.cell? (o.add 1)=some (.int .u64 s)/\w.cell? (o.add 2)=some (.int .u64 t)/\w.cell? (o.add 3)=some (.int .u64 u)/\w.cell? (o.add 4)=some (.int .u64 v)/\w.cell? (o.add 5)=some (.int .u64 x)/\cU y z a1 b1 c1 d1 w λi5 j5 l5 m5 n5 o5 w=>St (g5.add 0) (.int .u64 s4) w λw=>St (g5.add 1) (.int .u64 t4) w λw=>St (g5.add 2) (.int .u64 u4) w λw=>St (g5.add 3) (.int .u64 v4) w λw=>St (g5.add 4) (.int .u64 x4) w λw=>St (g5.add 5) (.int .u64 y4) w λw=>St (r4.add 0) (.int .u64 i5) w λw=>St (r4.add 1) (.int .u64 j5) w λw=>St (r4.add 2) (.int .u64 l5) w λw=>St (r4.add 3) (.int .u64 m5) w λw=>St (r4.add 4) (.int .u64 n5) w λw=>St (r4.add 5) (.int .u64 o5) w λw=>gZ Q q g5 r4 w))/\(Al T 175 w λp5 w=>w.cell? (p.add 0)=some (.int .u64 y)/\w.cell? (p.add 1)=some (.int .u64 z)/\w.cell? (p.add 2)=some (.int .u64 a1)/\w.cell? (p.add 3)=some (.int .u64 b1)/\w.cell? (p.add 4)=some (.int .u64 c1)/\w.cell? (p.add 5)=some (.int .u64 d1)/\w.cell? (o.add 0)=some (.int .u64 r)/\w.cell? (o.add 1)=some (.int .u64 s)/\w.cell? (o.add 2)=some (.int .u64 t)/\w.cell? (o.add 3)=some (.int .u64 u)/\w.cell? (o.add 4)=some (.int .u64 v)/\w.cell? (o.add 5)=some (.int .u64 x)/\cU r s t u v x w λq5 r5 s5 t5 u5 v5 w=>w.cell? (p.add 0)=some (.int .u64 y)/\w.cell? (p.add 1)=some (.int .u64 z)/\w.cell? (p.add 2)=some (.int .u64 a1)/\w.cell? (p.add 3)=some (.int .u64 b1)/\w.cell? (p.add 4)=some (.int .u64 c1)/\w.cell? (p.add 5)=some (.int .u64 d1)/\cU y z a1 b1 c1 d1 w λx5 y5 z5 a6 b6 c6 w=>St (p5.add 0) (.int .u64 q5) w λw=>St (p5.add 1) (.int .u64 r5) w λw=>St (p5.add 2) (.int .u64 s5) w λw=>St (p5.add 3) (.int .u64 t5) w λw=>St (p5.add 4) (.int .u64 u5) w λw=>St (p5.add 5) (.int .u64 v5) w λw=>St (r4.add 0) (.int .u64 x5) w λw=>St (r4.add 1) (.int .u64 y5) w λw=>St (r4.add 2) (.int .u64 z5) w λw=>St (r4.add 3) (.int .u64 a6) w λw=>St (r4.add 4) (.int .u64 b6) w λw=>St (r4.add 5) (.int .u64 c6) w λw=>gZ Q q p5 r4 w)))) (ok 38) HV [aO (ags Q)] Tryz.func70
def FB:=λa w Q=>bB (r_ a w Q) (cond a.isNone (Q 0 w) (wA a λb=>af .u64 (b.add 3) w λc=>Q c w)) (ok 9) [] [] Tryz.func106
def Ca:=λa w Q=>bB (pH a w Q) (cond a.isNone (Q 0 w) (wA a λb=>af .u64 (b.add 3) w λc=>Q c w)) (ok 9) [] [] Tryz.func107
noncomputable def Uw:cm:=[(1,sp 0 4 (sp 5 4 (.op 4 (.op 9 (.op 10 (.op 11 .done))))))]
def Sk:=λa w Q=>bB (tS a w Q) (Al T 32 w λb w=>wA a λc=>bp (c.add 1) w.drew λd=>wA a λe=>bp (e.add 2) w.drew λf=>r_ d w.drew λg w=>w.cell? (e.add 2)=some (.pointer f)/\pH f w λi w=>St (b.add 0) (.int .u64 g) w λw=>St (b.add 1) (.int .u64 i) w λw=>St (b.add 2) (.int .u64 0) w λw=>St (b.add 3) (.int .u64 0) w λw=>St (b.add 4) (.int .u64 0) w λw=>St (b.add 5) (.int .u64 0) w λw=>af .u64 (b.add 0) w λj=>af .u64 (b.add 1) w λl=>af .u64 (b.add 2) w λm=>af .u64 (b.add 3) w λn=>af .u64 (b.add 4) w λo=>af .u64 (b.add 5) w λp=>Q j l m n o p w) (ok 14) Uw [] Tryz.func71
def MK:=λa w Q=>bB (wm a w Q) (Al T 32 w λb w=>cond a.isNone (St (b.add 0) (.int .u64 0) w λw=>St (b.add 1) (.int .u64 0) w λw=>St (b.add 2) (.int .u64 0) w λw=>St (b.add 3) (.int .u64 0) w λw=>St (b.add 4) (.int .u64 0) w λw=>St (b.add 5) (.int .u64 0) w λw=>af .u64 (b.add 0) w λc=>af .u64 (b.add 1) w λd=>af .u64 (b.add 2) w λe=>af .u64 (b.add 3) w λf=>af .u64 (b.add 4) w λg=>af .u64 (b.add 5) w λi=>Q c d e f g i w) (wA a λj=>af .u64 ((j.add 2).add 0) w λl=>af .u64 ((j.add 2).add 1) w λm=>af .u64 ((j.add 2).add 2) w λn=>af .u64 ((j.add 2).add 3) w λo=>af .u64 ((j.add 2).add 4) w λp=>af .u64 ((j.add 2).add 5) w λq=>St (b.add 0) (.int .u64 l) w λw=>St (b.add 1) (.int .u64 m) w λw=>St (b.add 2) (.int .u64 n) w λw=>St (b.add 3) (.int .u64 o) w λw=>St (b.add 4) (.int .u64 p) w λw=>St (b.add 5) (.int .u64 q) w λw=>af .u64 (b.add 0) w λr=>af .u64 (b.add 1) w λs=>af .u64 (b.add 2) w λt=>af .u64 (b.add 3) w λu=>af .u64 (b.add 4) w λv=>af .u64 (b.add 5) w λx=>Q r s t u v x w)) (ok 10) [] [] Tryz.func72
noncomputable def VJ:cm:=[(3,sp 0 5 (sp 7 4 (.op 5 (.op 6 (.op 11 (.op 12 (.op 13 .done)))))))]
def Ux:=λa w Q=>bB (A4 a w Q) (Al T 32 w λb w=>cond a.isNone (St (b.add 0) (.int .u64 0) w λw=>St (b.add 1) (.int .u64 0) w λw=>St (b.add 2) (.int .u64 0) w λw=>St (b.add 3) (.int .u64 0) w λw=>St (b.add 4) (.int .u64 0) w λw=>St (b.add 5) (.int .u64 0) w λw=>af .u64 (b.add 0) w λc=>af .u64 (b.add 1) w λd=>af .u64 (b.add 2) w λe=>af .u64 (b.add 3) w λf=>af .u64 (b.add 4) w λg=>af .u64 (b.add 5) w λi=>Q c d e f g i w) (wA a λj=>af .u64 ((j.add 4).add 0) w.drew λl=>af .u64 ((j.add 4).add 1) w.drew λm=>af .u64 ((j.add 4).add 2) w.drew λn=>af .u64 ((j.add 4).add 3) w.drew λo=>af .u64 ((j.add 4).add 4) w.drew λp=>af .u64 ((j.add 4).add 5) w.drew λq=>wA a λr=>bp (r.add 3) w.drew λs=>tS a w.drew λt u v x y z w=>w.cell? (r.add 3)=some (.pointer s)/\w.cell? ((j.add 4).add 0)=some (.int .u64 l)/\w.cell? ((j.add 4).add 1)=some (.int .u64 m)/\w.cell? ((j.add 4).add 2)=some (.int .u64 n)/\w.cell? ((j.add 4).add 3)=some (.int .u64 o)/\w.cell? ((j.add 4).add 4)=some (.int .u64 p)/\w.cell? ((j.add 4).add 5)=some (.int .u64 q)/\wV l m n o p q t u v x y z w λa1 b1 c1 d1 e1 f1 w=>w.cell? (r.add 3)=some (.pointer s)/\wm s w λg1 i1 j1 l1 m1 n1 w=>wV a1 b1 c1 d1 e1 f1 g1 i1 j1 l1 m1 n1 w λo1 p1 q1 r1 s1 t1 w=>St (b.add 0) (.int .u64 o1) w λw=>St (b.add 1) (.int .u64 p1) w λw=>St (b.add 2) (.int .u64 q1) w λw=>St (b.add 3) (.int .u64 r1) w λw=>St (b.add 4) (.int .u64 s1) w λw=>St (b.add 5) (.int .u64 t1) w λw=>af .u64 (b.add 0) w λu1=>af .u64 (b.add 1) w λv1=>af .u64 (b.add 2) w λx1=>af .u64 (b.add 3) w λy1=>af .u64 (b.add 4) w λz1=>af .u64 (b.add 5) w λa2=>Q u1 v1 x1 y1 z1 a2 w)) (ok 19) VJ [] Tryz.func43
def ML:=λa w Q=>bB (v9 a w Q) (Al T 32 w λb w=>yO a w λc w=>A4 c w λd e f g i j w=>St (b.add 0) (.int .u64 d) w λw=>St (b.add 1) (.int .u64 e) w λw=>St (b.add 2) (.int .u64 f) w λw=>St (b.add 3) (.int .u64 g) w λw=>St (b.add 4) (.int .u64 i) w λw=>St (b.add 5) (.int .u64 j) w λw=>af .u64 (b.add 0) w λl=>af .u64 (b.add 1) w λm=>af .u64 (b.add 2) w λn=>af .u64 (b.add 3) w λo=>af .u64 (b.add 4) w λp=>af .u64 (b.add 5) w λq=>Q l m n o p q w) (ok 6) [] [] Tryz.func22
def mV (Q:Int->Int->Bool->Bool->WP)(a b:Addr)(w:World):Prop:=af .i64 (b.add 0) w λc=>af .i64 (b.add 1) w λd=>cQ (b.add 2) w λe=>St (a.add 0) (ae c) w λw=>St (a.add 1) (ae d) w λw=>St (a.add 2) (.bool e) w λw=>af .i64 (a.add 0) w λf=>af .i64 (a.add 1) w λg=>cQ (a.add 2) w λi=>Q f g i true w
def uQ (Q:Int->Int->Bool->Bool->WP)(a b:Addr)(w:World):Prop:=St (b.add 1) (ae 4) w λw=>St b (ae 4) w λw=>mV Q a b w
def Qa (Q):Bk 26 Tryz.f76 (JB Q) 16 [(2,.a),(4,.a)] (mV Q):=aS (ok 26) [] []
def adw (Q):Bk 26 Tryz.f76 (JB Q) 13 [(2,.a),(4,.a)] (uQ Q):=aS (ok 26) [] [aO (Qa Q)]
def abr:=λa w Q=>bB (wW a w Q) (Al T 137 w λb w=>Al T 137 w λc w=>cond (a==1) (St (c.add 2) (.bool true) w λw=>mV Q b c w) (cond (a==2) (St c (ae 4) w λw=>St (c.add 1) (ae 1) w λw=>mV Q b c w) (cond (a==3) (uQ Q b c w) (cond (a==4) (uQ Q b c w) (cond (a==6) (uQ Q b c w) (cond (a==5) (St c (ae 4) w λw=>mV Q b c w) (cond (a==7) (mV Q b c w) (cond (a==8) (mV Q b c w) (St (b.add 0) (ae 0) w λw=>St (b.add 1) (ae 0) w λw=>St (b.add 2) (.bool false) w λw=>af .i64 (b.add 0) w λd=>af .i64 (b.add 1) w λe=>cQ (b.add 2) w λf=>Q d e f false w))))))))) (ok 26) [] [aO (adw Q),aO (Qa Q)] Tryz.func76
def AL (Q:Int->WP)(R3:Int->L3 (Int->Int->WP))(a:Int)(b:OA)(c d:Nat)(e f:Int)(w:World):Prop:=cond (decide (f<e)) (aK f c<|wA b λg=>af .u8 (g.add (f.toNat*1)) w λi=>DW (IntKind.wrap .i64 (8*f))<|R3 (ior .i64 a (BL .i64 (IntKind.wrap .i64 i) (IntKind.wrap .i64 (8*f)))) b c d e (IntKind.wrap .i64 (f+1)) w) (Q a w)
def wN (Q:Int->WP):Nat->Int->L3 (Int->Int->WP)
 |0,_,_,_,_,_,_,_=>False
 |k+1,a,b,c,d,e,f,w=>AL Q (wN Q k) a b c d e f w
def agt (Q):∀k,Bk 22 Tryz.f140 (TJ Q) 3 [(3,.i .i64),(6,.l),(7,.i .i64),(8,.i .i64)] (wN Q k):=bH λk h=>aS (ok 22) [] [aO h]
def abt:=λa b c w Q=>bB (wZ a b c w Q) (∃k',wN Q k' 0 a b c (b:Int) 0 w) (ok 22) [] [cg (agt Q)] Tryz.func140
noncomputable def aib:cm:=[(1,sp 0 6 (.op 6 (.op 7 .done))),(14,sp 0 5 (sp 6 9 (sp 17 6 (.op 5 (.op 15 (.op 16 (.op 23 (.op 24 .done))))))))]
def agu:=λa b c w Q=>bB (JD a b c w Q) (Al T 38 w λd w=>aK 0 b<|wA a λe=>af .u8 (e.add (((0:Int).toNat)*1)) w.drew λf=>cj a b c 1 (some 1) none λg i j=>wW (IntKind.wrap .i64 f) w.drew λl m n o w=>Al T 137 w λp w=>St (p.add 0) (ae l) w λw=>St (p.add 1) (ae m) w λw=>St (p.add 2) (.bool n) w λw=>cond (!o) (St (d.add 0) (ae 0) w λw=>St (d.add 1) (ae (IntKind.wrap .i64 f)) w λw=>St (d.add 2) (ae 0) w λw=>St (d.add 3) (.slice none 0 0) w λw=>af .i64 (d.add 0) w λq=>af .i64 (d.add 1) w λr=>af .i64 (d.add 2) w λs=>aA (d.add 3) w λt u v=>Q q r s t u v 1 w) (cQ (p.add 2) w λx=>cond x (cond (decide ((i:Int)<4)) (St (d.add 0) (ae 0) w λw=>St (d.add 1) (ae 0) w λw=>St (d.add 2) (ae 0) w λw=>St (d.add 3) (.slice none 0 0) w λw=>af .i64 (d.add 0) w λy=>af .i64 (d.add 1) w λz=>af .i64 (d.add 2) w λa1=>aA (d.add 3) w λb1 c1 d1=>Q y z a1 b1 c1 d1 0 w) (cj g i j 1 none (some 4) λe1 f1 g1=>wZ e1 f1 g1 w λi1 w=>cond (decide ((IntKind.wrap .i64 ((i:Int)-4))<i1)) (St (d.add 0) (ae 0) w λw=>St (d.add 1) (ae 0) w λw=>St (d.add 2) (ae 0) w λw=>St (d.add 3) (.slice none 0 0) w λw=>af .i64 (d.add 0) w λj1=>af .i64 (d.add 1) w λl1=>af .i64 (d.add 2) w λm1=>aA (d.add 3) w λn1 o1 p1=>Q j1 l1 m1 n1 o1 p1 0 w) (cj g i j 1 (some 4) (some (IntKind.wrap .i64 (4+i1))) λq1 r1 s1=>App P #[22,22] 22 (.slice none 0 0) (.slice q1 r1 s1) w λt1 u1 v1 w=>St (d.add 0) (ae (IntKind.wrap .i64 f)) w λw=>St (d.add 1) (ae 0) w λw=>St (d.add 2) (ae 0) w λw=>St (d.add 3) (.slice t1 u1 v1) w λw=>af .i64 (d.add 0) w λx1=>af .i64 (d.add 1) w λy1=>af .i64 (d.add 2) w λz1=>aA (d.add 3) w λa2 b2 c2=>Q x1 y1 z1 a2 b2 c2 (IntKind.wrap .i64 (5+i1)) w))) (af .i64 p w λd2=>af .i64 (p.add 1) w λe2=>cond (decide ((i:Int)<(IntKind.wrap .i64 (d2+e2)))) (St (d.add 0) (ae 0) w λw=>St (d.add 1) (ae 0) w λw=>St (d.add 2) (ae 0) w λw=>St (d.add 3) (.slice none 0 0) w λw=>af .i64 (d.add 0) w λf2=>af .i64 (d.add 1) w λg2=>af .i64 (d.add 2) w λi2=>aA (d.add 3) w λj2 l2 m2=>Q f2 g2 i2 j2 l2 m2 0 w) (af .i64 p w.drew λn2=>cj g i j 1 none (some n2) λo2 p2 q2=>af .i64 p w.drew λr2=>af .i64 p w.drew λs2=>af .i64 (p.add 1) w.drew λt2=>cj g i j 1 (some r2) (some (IntKind.wrap .i64 (s2+t2))) λu2 v2 x2=>af .i64 p w.drew λy2=>af .i64 (p.add 1) w.drew λz2=>wZ o2 p2 q2 w.drew λa3 w=>w.cell? (p.add 1)=some (ae z2)/\w.cell? p=some (ae y2)/\w.cell? (p.add 1)=some (ae t2)/\w.cell? p=some (ae s2)/\w.cell? p=some (ae r2)/\wZ u2 v2 x2 w λb3 w=>w.cell? (p.add 1)=some (ae z2)/\w.cell? p=some (ae y2)/\St (d.add 0) (ae (IntKind.wrap .i64 f)) w λw=>St (d.add 1) (ae a3) w λw=>St (d.add 2) (ae b3) w λw=>St (d.add 3) (.slice none 0 0) w λw=>w.cell? (p.add 1)=some (ae z2)/\w.cell? p=some (ae y2)/\af .i64 (d.add 0) w λc3=>af .i64 (d.add 1) w λd3=>af .i64 (d.add 2) w λe3=>aA (d.add 3) w λf3 g3 i3=>Q c3 d3 e3 f3 g3 i3 (IntKind.wrap .i64 ((IntKind.wrap .i64 (1+y2))+z2)) w)))) (ok 80) aib [] Tryz.func109
def aic:=λa b c w Q=>bB (Ll a b c w Q) (cond ((b:Int)==0) (Q false w) (JD a b c w λd e f g i j l w=>Al T 38 w λm w=>St (m.add 0) (ae d) w λw=>St (m.add 1) (ae e) w λw=>St (m.add 2) (ae f) w λw=>St (m.add 3) (.slice g i j) w λw=>Q (l==0) w)) (ok 15) [] [] Tryz.func75
def agv:=λa b w Q=>bB (AJ a b w Q) (cond (decide (a≥0)) (DW (IntKind.wrap .i64 (8*b))<|Q (decide (a<(BL .i64 1 (IntKind.wrap .i64 (8*b))))) w) (Q false w)) (ok 14) [] [] Tryz.func77
def aid:=λa b c d e f w Q=>bB (Lh a b c d e f w Q) (Bx [ae a,ae b,ae c,.slice d e f] 38 w λg w=>af .i64 g w λi=>cond (i==0) (af .i64 (g.add 1) w λj=>cond (j==(-1)) (af .i64 (g.add 2) w λl=>cond (l==0) (aA (g.add 3) w λm n o=>Ll m n o w λp w=>Q p w) (Q false w)) (af .i64 (g.add 1) w λq=>wW q w λr s t u w=>Al T 137 w λv w=>St (v.add 0) (ae r) w λw=>St (v.add 1) (ae s) w λw=>St (v.add 2) (.bool t) w λw=>af .i64 (g.add 1) w λx=>AJ x 1 w λy w=>cond y (cond (!u) (af .i64 (g.add 2) w λz=>cond (z==0) (aA (g.add 3) w λa1 b1 c1=>Q ((b1:Int)==0) w) (Q false w)) (Q false w)) (Q false w))) (af .i64 g w λd1=>wW d1 w λe1 f1 g1 i1 w=>Al T 137 w λj1 w=>St (j1.add 0) (ae e1) w λw=>St (j1.add 1) (ae f1) w λw=>St (j1.add 2) (.bool g1) w λw=>cond i1 (af .i64 (g.add 1) w λl1=>af .i64 j1 w λm1=>AJ l1 m1 w λn1 w=>cond n1 (af .i64 (g.add 2) w λo1=>af .i64 (j1.add 1) w λp1=>AJ o1 p1 w λq1 w=>cond q1 (aA (g.add 3) w λr1 s1 t1=>cond ((s1:Int)==0) (Q true w) (cQ (j1.add 2) w λu1=>cond u1 (aA (g.add 3) w λv1 x1 y1=>Q (decide ((x1:Int)<=4294967295)) w) (Q false w))) (Q false w)) (Q false w)) (Q false w))) (ok 82) [] [] Tryz.func48
def Sm:=λa b w Q=>bB (e9 a b w Q) (cond a.isNone (Q 0 w) (cond (decide (b<0)) (Q 0 w) (wA a λc=>aA (c.add 2) w λd e f=>cond (decide (b≥(e:Int))) (Q 0 w) (wA a λg=>aA (g.add 2) w λi j l=>aK b j<|wA i λm=>af .u8 (m.add (b.toNat*1)) w λn=>Q (IntKind.wrap .i64 n) w)))) (ok 30) [] [] Tryz.func110
def VK:=λa b w Q=>bB (rM a b w Q) (cond a.isNone (Q 0 w) (wA a λc=>bp c w λd=>e9 d b w λe w=>Q e w)) (ok 13) [] [] Tryz.func78
def sw (Q:Value->WP)(a:OA)(b:Addr)(w:World):Prop:=wA a λc=>bp (c.add 1) w.drew λd=>af .i64 (b.add 1) w.drew λe=>rM d e w.drew λf w=>cond (f==0) (Q (.iface 108 (ae 7)) w) (Q (.nilIface) w)
noncomputable def D5:cm:=[(4,sp 0 6 (.op 6 (.op 7 .done))),(6,sp 0 6 (.op 6 (.op 7 .done)))]
def Qb (Q):Bk 29 Tryz.f49 (Fq Q) 6 [(0,.p),(3,.a)] (sw Q):=aS (ok 29) D5 []
def MM:=λa b c d e f g w Q=>bB (we a b c d e f g w Q) (Bx [ae b,ae c,ae d,.slice e f g] 38 w λi w=>af .i64 i w λj=>cond (j==3) (wA a λl=>bp (l.add 1) w.drew λm=>af .i64 (i.add 2) w.drew λn=>rM m n w.drew λo w=>cond (o==0) (Q (.iface 108 (ae 7)) w) (sw Q a i w)) (cond (j==2) (sw Q a i w) (Q (.nilIface) w))) (ok 29) D5 [aO (Qb Q)] Tryz.func49
def E2:=λa w Q=>bB (gm a w Q) (cond (a==0) (Q (.nilIface) w) (Q (.iface 108 (ae a)) w)) (ok 7) [] [] Tryz.func54
def adx (P1:Value->Value->Value->Addr->WP)(Q:Bool->WP)(R18:Value->Value->Addr->L3 (Int->Int->WP))(a b:Value)(c:Addr)(d:OA)(e f:Nat)(g i:Int)(w:World):Prop:=cond (decide (i<g)) (aK i e<|wA d λj=>cw (j.add (i.toNat*1)) w λl=>BM l λm=>cond m (R18 a b c d e f g (IntKind.wrap .i64 (i+1)) w) (bp (c.add 0) w λn=>bp (c.add 1) w λo=>af .u64 (c.add 2) w λp=>Gf l a n o p b w λq w=>cond q (Q true w) (R18 a b c d e f g (IntKind.wrap .i64 (i+1)) w))) (Q false w)
def HW (P1:Value->Value->Value->Addr->WP)(Q:Bool->WP):Nat->Value->Value->Addr->L3 (Int->Int->WP)
 |0,_,_,_,_,_,_,_,_,_=>False
 |k+1,a,b,c,d,e,f,g,i,w=>adx P1 Q (HW P1 Q k) a b c d e f g i w
def JG (P1:Value->Value->Value->Addr->WP)(Q:Bool->WP)(a b c:Value)(d:Addr)(w:World):Prop:=aQ P (Instr.typeAssert a 74 224 true) w λe w=>dT e λf=>dD f λg i=>dV g λj=>dD i λl m=>dB l λn=>kN m<|cond n (yJ (cx 62) j "Unwrap" [] w λo w=>dV o λp=>BM p λq=>cond q (Q false w) (P1 p b c d w)) (aQ P (Instr.typeAssert a 74 226 true) w λr w=>dT r λs=>dD s λt u=>dV t λv=>dD u λx y=>dB x λz=>kN y<|cond z (yJ (cx 62) v "Unwrap" [] w λa1 w=>dS a1 λb1 c1 d1=>∃k',HW P1 Q k' b c d b1 c1 d1 (c1:Int) 0 w) (Q false w))
def wO (Q:Bool->WP)(R1:Value->Value->Value->Addr->WP)(a b c:Value)(d:Addr)(w:World):Prop:=tJ P 95 #[a] w λe w=>dV e λf=>yJ (cx 62) f "AssignableTo" [c] w λg w=>dB g λi=>cond i (bp (d.add 0) w λj=>bp (d.add 1) w λl=>af .u64 (d.add 2) w λm=>tJ P 138 #[.agg #[.pointer j,.pointer l,.int .u64 m]] w λn w=>dL n λo=>dD o λp q=>dP p λr=>dD q λs t=>dP s λu=>dD t λv x=>dI .u64 v λy=>kN x<|tJ P 97 #[a] w λz w=>dL z λa1=>dD a1 λb1 c1=>dP b1 λd1=>dD c1 λe1 f1=>dP e1 λg1=>dD f1 λi1 j1=>dI .u64 i1 λl1=>kN j1<|tJ P 139 #[.agg #[.pointer r,.pointer u,.int .u64 y],.agg #[.pointer d1,.pointer g1,.int .u64 l1]] w λm1 w=>dT m1 λn1=>kN n1<|Q true w) (aQ P (Instr.typeAssert a 74 231 true) w λo1 w=>dT o1 λp1=>dD p1 λq1 r1=>dV q1 λs1=>dD r1 λt1 u1=>dB t1 λv1=>kN u1<|cond v1 (yJ (cx 62) s1 "As" [b] w λx1 w=>dB x1 λy1=>cond y1 (Q true w) (JG R1 Q a b c d w)) (JG R1 Q a b c d w))
def jf (Q:Bool->WP):Nat->Value->Value->Value->Addr->WP
 |0,_,_,_,_,_=>False
 |k+1,a,b,c,d,w=>wO Q (jf Q k) a b c d w
def ady {P1}(Q)(H1:Bk 62 Tryz.f100 (wM Q) 1 [(0,.v),(1,.v),(3,.v),(6,.a)] P1):∀k,Bk 62 Tryz.f100 (wM Q) 18 [(1,.v),(3,.v),(6,.a),(48,.l),(49,.i .i64),(50,.i .i64)] (HW P1 Q k):=bH λk h=>aS (ok 62) [] [aO h]
def agw {P1}(Q)(H1:Bk 62 Tryz.f100 (wM Q) 1 [(0,.v),(1,.v),(3,.v),(6,.a)] P1):Bk 62 Tryz.f100 (wM Q) 7 [(0,.v),(1,.v),(3,.v),(6,.a)] (JG P1 Q):=aS (ok 62) [] [aO H1,cg (ady Q H1)]
def agx (Q):∀k,Bk 62 Tryz.f100 (wM Q) 1 [(0,.v),(1,.v),(3,.v),(6,.a)] (jf Q k):=bH λk h=>aS (ok 62) [] [aO (agw Q h)]
def Gp:=λa b c d e f w Q=>bB (Gf a b c d e f w Q) (Bx [.pointer c,.pointer d,.int .u64 e] 161 w λg w=>∃k',jf Q k' a b f g w) (ok 62) [] [cg (agx Q)] Tryz.func100
def HX (Q:Bool->WP)(a b:Value)(c:Addr)(d:Value)(w:World):Prop:=bp (c.add 0) w λe=>bp (c.add 1) w λf=>af .u64 (c.add 2) w λg=>Gf a b e f g d w λi w=>Q i w
def JH (Q:Bool->WP)(a b:Value)(c:Addr)(d:Value)(w:World):Prop:=False
def Qc (Q):Bk 42 Tryz.f60 (Jy Q) 12 [(0,.v),(1,.v),(5,.a),(7,.v)] (HX Q):=aS (ok 42) [] []
def agy (Q):Bk 42 Tryz.f60 (Jy Q) 8 [(0,.v),(1,.v),(5,.a),(6,.v)] (JH Q):=aS (ok 42) [] [aO (Qc Q)]
def Bp:=λa b w Q=>bB (nA a b w Q) (BM a λc=>cond c (Q false w) (BM b λd=>cond d (False) (tJ P 97 #[b] w λe w=>dL e λf=>dD f λg i=>dP g λj=>dD i λl m=>dP l λn=>dD m λo p=>dI .u64 o λq=>kN p<|Al T 161 w λr w=>St (r.add 0) (.pointer j) w λw=>St (r.add 1) (.pointer n) w λw=>St (r.add 2) (.int .u64 q) w λw=>bp (r.add 0) w λs=>bp (r.add 1) w λt=>af .u64 (r.add 2) w λu=>tJ P 98 #[.agg #[.pointer s,.pointer t,.int .u64 u]] w λv w=>dV v λx=>yJ (cx 42) x "Kind" [] w λy w=>dI .u8 y λz=>cond (z !=22) (JH Q a b r x w) (bp (r.add 0) w λa1=>bp (r.add 1) w λb1=>af .u64 (r.add 2) w λc1=>tJ P 99 #[.agg #[.pointer a1,.pointer b1,.int .u64 c1]] w λd1 w=>dB d1 λe1=>cond e1 (JH Q a b r x w) (yJ (cx 42) x "Elem" [] w λf1 w=>dV f1 λg1=>yJ (cx 42) g1 "Kind" [] w λi1 w=>dI .u8 i1 λj1=>cond (j1 !=20) (cw (aZ 1) w λl1=>yJ (cx 42) g1 "Implements" [l1] w λm1 w=>dB m1 λn1=>cond (!n1) (False) (HX Q a b r g1 w)) (HX Q a b r g1 w)))))) (ok 42) [] [aO (agy Q),aO (Qc Q)] Tryz.func60
def abu:=λa b w Q=>bB (lH a b w Q) (cond (decide (a≥1)) (cond (decide (a<=1024)) (cond (decide (b≥1)) (Q (decide (b<=1024)) w) (Q false w)) (Q false w)) (Q false w)) (ok 19) [] [] Tryz.func69
def Uz:=λa b w Q=>bB (lq a b w Q) (lH a b w λc w=>cond (!c) (Q 0 0 w) (NZ 16<|NZ 16<|Q (IntKind.wrap .i64 (Int.tdiv (IntKind.wrap .i64 ((IntKind.wrap .i64 (a+16))-1)) 16)) (IntKind.wrap .i64 (Int.tdiv (IntKind.wrap .i64 ((IntKind.wrap .i64 (b+16))-1)) 16)) w)) (ok 18) [] [] Tryz.func146
def ZB:=λa b w Q=>bB (EU a b w Q) (lq a b w λc d w=>Q (IntKind.wrap .i64 (c*d)) w) (ok 16) [] [] Tryz.func141
noncomputable def X2:cm:=[(4,sp 0 8 (.op 8 (.op 9 (.op 10 .done))))]
def VL:=λa b c w Q=>bB (w8 a b c w Q) (lq a b w λd e w=>cond (decide (c<0)) (Q 0 0 false w) (cond (decide (c≥(IntKind.wrap .i64 (d*e)))) (Q 0 0 false w) (NZ d<|NZ d<|Q (IntKind.wrap .i64 ((Int.tmod c d)*16)) (IntKind.wrap .i64 ((IntKind.wrap .i64 (Int.tdiv c d))*16)) true w.drew))) (ok 34) X2 [] Tryz.func157
def ZC:=λa b c w Q=>bB (n8 a b c w Q) (w8 a b c w λd e f w=>cond (!f) (Q 0 0 w) (Q (Dy 16 (IntKind.wrap .i64 (a-d))) (Dy 16 (IntKind.wrap .i64 (b-e))) w)) (ok 29) [] [] Tryz.func142
def adz (P1:Value->Value->Bool->WP)(Q:Bool->WP)(R17:Value->Bool->L3 (Int->Int->WP))(a:Value)(b:Bool)(c:OA)(d e:Nat)(f g:Int)(w:World):Prop:=cond (decide (g<f)) (aK g d<|wA c λi=>cw (i.add (g.toNat*1)) w λj=>wX j a b w λl w=>cond l (Q true w) (R17 a b c d e f (IntKind.wrap .i64 (g+1)) w)) (Q false w)
def HY (P1:Value->Value->Bool->WP)(Q:Bool->WP):Nat->Value->Bool->L3 (Int->Int->WP)
 |0,_,_,_,_,_,_,_,_=>False
 |k+1,a,b,c,d,e,f,g,w=>adz P1 Q (HY P1 Q k) a b c d e f g w
def JI (P1:Value->Value->Bool->WP)(Q:Bool->WP)(a b:Value)(c:Bool)(w:World):Prop:=aQ P (Instr.typeAssert a 74 224 true) w λd w=>dT d λe=>dD e λf g=>dV f λi=>dD g λj l=>dB j λm=>kN l<|cond m (yJ (cx 54) i "Unwrap" [] w λn w=>dV n λo=>BM o λp=>cond p (Q false w) (P1 o b c w)) (aQ P (Instr.typeAssert a 74 226 true) w λq w=>dT q λr=>dD r λs t=>dV s λu=>dD t λv x=>dB v λy=>kN x<|cond y (yJ (cx 54) u "Unwrap" [] w λz w=>dS z λa1 b1 c1=>∃k',HY P1 Q k' b c a1 b1 c1 (b1:Int) 0 w) (Q false w))
def JJ (P1:Value->Value->Bool->WP)(Q:Bool->WP)(a b:Value)(c:Bool)(w:World):Prop:=aQ P (Instr.typeAssert a 74 221 true) w λd w=>dT d λe=>dD e λf g=>dV f λi=>dD g λj l=>dB j λm=>kN l<|cond m (yJ (cx 54) i "Is" [b] w λn w=>dB n λo=>cond o (Q true w) (JI P1 Q a b c w)) (JI P1 Q a b c w)
def AM (Q:Bool->WP)(R1:Value->Value->Bool->WP)(a b:Value)(c:Bool)(w:World):Prop:=cond c (bZ P .eql 74 (.tmp 16) (.tmp 17) a b w λd w=>cond d (Q true w) (JJ R1 Q a b c w)) (JJ R1 Q a b c w)
def qg (Q:Bool->WP):Nat->Value->Value->Bool->WP
 |0,_,_,_,_=>False
 |k+1,a,b,c,w=>AM Q (qg Q k) a b c w
def adA {P1}(Q)(H1:Bk 54 Tryz.f96 (qd Q) 1 [(0,.v),(1,.v),(2,.b)] P1):∀k,Bk 54 Tryz.f96 (qd Q) 17 [(1,.v),(2,.b),(43,.l),(44,.i .i64),(45,.i .i64)] (HY P1 Q k):=bH λk h=>aS (ok 54) [] [aO h]
def agz {P1}(Q)(H1:Bk 54 Tryz.f96 (qd Q) 1 [(0,.v),(1,.v),(2,.b)] P1):Bk 54 Tryz.f96 (qd Q) 6 [(0,.v),(1,.v),(2,.b)] (JI P1 Q):=aS (ok 54) [] [aO H1,cg (adA Q H1)]
def agA {P1}(Q)(H1:Bk 54 Tryz.f96 (qd Q) 1 [(0,.v),(1,.v),(2,.b)] P1):Bk 54 Tryz.f96 (qd Q) 3 [(0,.v),(1,.v),(2,.b)] (JJ P1 Q):=aS (ok 54) [] [aO (agz Q H1)]
def agB (Q):∀k,Bk 54 Tryz.f96 (qd Q) 1 [(0,.v),(1,.v),(2,.b)] (qg Q k):=bH λk h=>aS (ok 54) [] [aO (agA Q h)]
def ND:=λa b c w Q=>bB (wX a b c w Q) (∃k',qg Q k' a b c w) (ok 54) [] [cg (agB Q)] Tryz.func96
def NF:=λa b w Q=>bB (pF a b w Q) (BM a λc=>cond c (bZ P .eql 74 (.tmp 12) (.tmp 13) a b w λd w=>Q d w) (BM b λe=>cond e (bZ P .eql 74 (.tmp 12) (.tmp 13) a b w λf w=>Q f w) (tJ P 95 #[b] w λg w=>dV g λi=>yJ (cx 22) i "Comparable" [] w λj w=>dB j λl=>wX a b l w λm w=>Q m w))) (ok 22) [] [] Tryz.func59
def HZ:=λa b c w Q=>bB (jL a b c w Q) (cond a.isNone (Q none 0 0 w) (Bx [] 5 w λd w=>App P #[22,22] 22 (.slice (some d) 0 0) (.slice a b c) w λe f g w=>Q e f g w)) (ok 8) [] [] Tryz.func103
noncomputable def Qd:cm:=[(1,sp 0 12 .done),(2,.op 0 (.op 1 (.op 2 .done))),(4,sp 0 15 (.op 15 (.op 16 .done)))]
def OF:=λa b w Q=>bB (nM a b w Q) (wA a λc=>aA c w.drew λd e f=>wA a λg=>af .i64 (g.add 1) w.drew λi=>cond (decide ((IntKind.wrap .i64 ((e:Int)-i))<b)) (cw (aZ 6) w.drew.drew λj=>w.drew.drew.cell? (aZ 6)=some j/\dV j λl=>Q none 0 0 l w.drew.drew) (wA a λm=>af .i64 (m.add 1) w.drew λn=>wA a λo=>St (o.add 1) (ae (IntKind.wrap .i64 (n+b))) w.drew λw=>wA a λp=>aA p w.drew λq r s=>wA a λt=>af .i64 (t.add 1) w.drew λu=>wA a λv=>af .i64 (v.add 1) w.drew λx=>cj q r s 1 (some (IntKind.wrap .i64 (u-b))) (some x) λy z a1=>Q y z a1 (.nilIface) w.drew)) (ok 42) Qd [] Tryz.func186
def kS (Q:Int->WP)(R2:L3 (Int->Int->Int->WP))(a:OA)(b c:Nat)(d e f:Int)(w:World):Prop:=cond (decide (f<e)) (aK f b<|wA a λg=>af .u8 (g.add (f.toNat*1)) w λi=>cond (d==i) (Q f w) (R2 a b c d e (IntKind.wrap .i64 (f+1)) w)) (Q (-1) w)
def jg (Q:Int->WP):Nat->L3 (Int->Int->Int->WP)
 |0,_,_,_,_,_,_,_=>False
 |k+1,a,b,c,d,e,f,w=>kS Q (jg Q k) a b c d e f w
def JK (Q):∀k,Bk 19 Tryz.f160 (AK Q) 2 [(0,.l),(1,.i .u8),(7,.i .i64),(8,.i .i64)] (jg Q k):=bH λk h=>aS (ok 19) [] [aO h]
def H9:=λa b c d w Q=>bB (yX a b c d w Q) (∃k',jg Q k' a b c d (b:Int) 0 w) (ok 19) [] [cg (JK Q)] Tryz.func160
def FX:=λa b c d w Q=>bB (iW a b c d w Q) (yX a b c d w λe w=>Q (decide (e≥0)) w) (ok 9) [] [] Tryz.func145
def MN:=λa b w Q=>bB (qz a b w Q) (nM a b w λc d e f w=>BM f λg=>cond g (iW c d e 0 w λi w=>cond i (cw (aZ 5) w λj=>dV j λl=>Q c d e l w) (dV f λm=>Q c d e m w)) (dV f λn=>Q c d e n w)) (ok 23) [] [] Tryz.func187
def Qf:=λa b w Q=>bB (Fw a b w Q) (DW 32<|DW 32<|DW 32<|DW 32<|DW 32<|Q (IntKind.wrap .u64 ((IntKind.wrap .u64 ((IntKind.wrap .u64 ((o_ .u64 a 32)*(o_ .u64 b 32)))+(o_ .u64 (IntKind.wrap .u64 ((IntKind.wrap .u64 ((o_ .u64 a 32)*(BK .u64 b 4294967295)))+(o_ .u64 (IntKind.wrap .u64 ((BK .u64 a 4294967295)*(BK .u64 b 4294967295))) 32))) 32)))+(o_ .u64 (IntKind.wrap .u64 ((BK .u64 (IntKind.wrap .u64 ((IntKind.wrap .u64 ((o_ .u64 a 32)*(BK .u64 b 4294967295)))+(o_ .u64 (IntKind.wrap .u64 ((BK .u64 a 4294967295)*(BK .u64 b 4294967295))) 32))) 4294967295)+(IntKind.wrap .u64 ((BK .u64 a 4294967295)*(o_ .u64 b 32))))) 32))) (IntKind.wrap .u64 (a*b)) w) (ok 51) [] [] Tryz.func240
def UA:=λa b w Q=>bB (qE a b w Q) (Fw a b w λc d w=>Q c d w) (ok 30) [] [] Tryz.func218
def tj (Q:L3 WP)(R18:Int->Int->L3 (Int->WP))(a b:Int)(c:OA)(d e:Nat)(f:Int)(w:World):Prop:=cond (decide (f<a)) (cj c d e 1 (some f) none λg i j=>cj c d e 1 none (some (Dy f b)) λl m n=>cV P #[22,22] 3 (.slice g i j) (.slice l m n) w.drew λo w=>R18 a b c d e (IntKind.wrap .i64 (f+o)) w) (Q c d e w)
def tq (Q:L3 WP):Nat->Int->Int->L3 (Int->WP)
 |0,_,_,_,_,_,_,_=>False
 |k+1,a,b,c,d,e,f,w=>tj Q (tq Q k) a b c d e f w
def yA (Q:L3 WP)(a:OA)(b c:Nat)(d e:Int)(w:World):Prop:=tJ P 219 #[ae d] w λf w=>dS f λg i j=>aQ P (Instr.sliceAt 22 (.slice g i j) none (some (ae d)) (some (ae d))) w λo w=>dS o λl m n=>cV P #[22,22] 3 (.slice l m n) (.slice a b c) w λp w=>∃k',tq Q k' d e l m n p w
def E3 (Q:L3 WP)(a:OA)(b c:Nat)(d:Int)(w:World):Prop:=False
noncomputable def yB:cm:=[(20,sp 0 7 (.op 7 (.op 8 (.op 9 .done))))]
def X3 (Q):∀k,Bk 77 Tryz.f188 (Aa Q) 18 [(7,.i .i64),(8,.i .i64),(9,.l),(10,.i .i64)] (tq Q k):=bH λk h=>aS (ok 77) yB [aO h]
def J8 (Q):Bk 77 Tryz.f188 (Aa Q) 16 [(0,.l),(7,.i .i64),(8,.i .i64)] (yA Q):=aS (ok 77) yB [cg (X3 Q)]
def ZD (Q):Bk 77 Tryz.f188 (Aa Q) 7 [(0,.l),(6,.i .u64)] (E3 Q):=aS (ok 77) yB [aO (J8 Q)]
def I8:=λa b c d w Q=>bB (rN a b c d w Q) (cond (d==0) (Bx [] 5 w λe w=>Q (some e) 0 0 w) (cond (decide (d<0)) (False) (qE (IntKind.wrap .u64 (b:Int)) (IntKind.wrap .u64 d) w λf g w=>cond (decide (f>0)) (E3 Q a b c g w) (cond (decide (g>9223372036854775807)) (E3 Q a b c g w) (cond ((b:Int)==0) (Bx [] 5 w λi w=>Q (some i) 0 0 w) (cond (decide ((IntKind.wrap .i64 g)>8192)) (NZ (b:Int)<|cond ((IntKind.wrap .i64 ((IntKind.wrap .i64 (Int.tdiv 8192 (b:Int)))*(b:Int)))==0) (yA Q a b c (IntKind.wrap .i64 g) (b:Int) w) (yA Q a b c (IntKind.wrap .i64 g) (IntKind.wrap .i64 ((IntKind.wrap .i64 (Int.tdiv 8192 (b:Int)))*(b:Int))) w)) (yA Q a b c (IntKind.wrap .i64 g) (IntKind.wrap .i64 g) w))))))) (ok 77) yB [aO (ZD Q),aO (J8 Q)] Tryz.func188
def uk (P2:OA->Int->L3 WP)(Q:L3 (Value->WP))(a:OA)(b:Int)(c:OA)(d e:Nat)(f g:Int)(w:World):Prop:=Bx [.int .u8 g] 5 w λi w=>rN (some i) 1 1 f w λj l m w=>App P #[22,22] 22 (.slice c d e) (.slice j l m) w λn o p w=>P2 a b n o p w
def pK (Q:L3 (Value->WP))(R2:OA->Int->L3 WP)(a:OA)(b:Int)(c:OA)(d e:Nat)(w:World):Prop:=cond (decide ((d:Int)<b)) (nM a 2 w λf g i j w=>BM j λl=>cond (!l) (dV j λm=>Q none 0 0 m w) (aK 0 g<|wA f λn=>af .u8 (n.add (((0:Int).toNat)*1)) w.drew λo=>aK 1 g<|wA f λp=>af .u8 (p.add (((1:Int).toNat)*1)) w.drew λq=>w.drew.cell? (p.add (((1:Int).toNat)*1))=some (.int .u8 q)/\cond (q==0) (cw (aZ 5) w.drew.drew λr=>w.drew.drew.cell? (aZ 5)=some r/\dV r λs=>Q none 0 0 s w.drew.drew) (cond (decide ((IntKind.wrap .i64 ((IntKind.wrap .i64 o)+1))>(IntKind.wrap .i64 (b-(d:Int))))) (cw (aZ 5) w.drew.drew λt=>w.drew.drew.cell? (aZ 5)=some t/\dV t λu=>Q none 0 0 u w.drew.drew) (cond (decide ((d:Int)>0)) (aK (IntKind.wrap .i64 ((d:Int)-1)) d<|wA c λv=>af .u8 (v.add (((IntKind.wrap .i64 ((d:Int)-1))).toNat*1)) w.drew λx=>cond (x==q) (cw (aZ 5) w.drew.drew λy=>w.drew.drew.cell? (aZ 5)=some y/\dV y λz=>Q none 0 0 z w.drew.drew) (uk R2 Q a b c d e (IntKind.wrap .i64 ((IntKind.wrap .i64 o)+1)) q w.drew)) (uk R2 Q a b c d e (IntKind.wrap .i64 ((IntKind.wrap .i64 o)+1)) q w.drew))))) (Q c d e (.nilIface) w)
def pL (Q:L3 (Value->WP)):Nat->OA->Int->L3 WP
 |0,_,_,_,_,_,_=>False
 |k+1,a,b,c,d,e,w=>pK Q (pL Q k) a b c d e w
noncomputable def ze:cm:=[(6,sp 0 8 (.op 8 (.op 9 .done))),(8,.op 0 (.op 1 (.op 2 .done)))]
def Sn {P2}(Q)(H2:Bk 64 Tryz.f189 (tX Q) 2 [(0,.p),(1,.i .i64),(6,.l)] P2):Bk 64 Tryz.f189 (tX Q) 9 [(0,.p),(1,.i .i64),(6,.l),(9,.i .i64),(10,.i .u8)] (uk P2 Q):=aS (ok 64) ze [aO H2]
def So (Q):∀k,Bk 64 Tryz.f189 (tX Q) 2 [(0,.p),(1,.i .i64),(6,.l)] (pL Q k):=bH λk h=>aS (ok 64) ze [aO (Sn Q h)]
def OG:=λa b w Q=>bB (xZ a b w Q) (∃k',pL Q k' a b none 0 0 w) (ok 64) ze [cg (So Q)] Tryz.func189
noncomputable def Qg:cm:=[(12,.op 0 (.op 1 (.op 2 .done)))]
def OH:=λa b w Q=>bB (xX a b w Q) (nM a 1 w λc d e f w=>BM f λg=>cond (!g) (dV f λi=>Q none 0 0 i w) (aK 0 d<|wA c λj=>af .u8 (j.add (((0:Int).toNat)*1)) w λl=>cond (l==0) (qz a 1 w λm n o p w=>rN m n o b w λq r s w=>dV p λt=>Q q r s t w) (cond (l==1) (qz a b w λu v x y w=>dV y λz=>Q u v x z w) (cond (l==2) (xZ a b w λa1 b1 c1 d1 w=>dV d1 λe1=>Q a1 b1 c1 e1 w) (cw (aZ 5) w.drew λf1=>w.drew.cell? (aZ 5)=some f1/\dV f1 λg1=>Q none 0 0 g1 w.drew))))) (ok 47) Qg [] Tryz.func167
def ZE:=λa w Q=>bB (Ae a w Q) (cond (decide (a≥1)) (Q (decide (a<=16)) w) (Q false w)) (ok 9) [] [] Tryz.func220
def adB:=λa b c d e w Q=>bB (uP a b c d e w Q) (Bx [ae a,ae b,.slice c d e] 84 w λf w=>af .i64 f w λg=>Ae g w λi w=>cond i (af .i64 (f.add 1) w λj=>Ae j w λl w=>cond l (aA (f.add 2) w λm n o=>af .i64 f w λp=>af .i64 (f.add 1) w λq=>cond ((n:Int)==(IntKind.wrap .i64 (p*q))) (aA (f.add 2) w λr s t=>iW r s t 0 w λu w=>Q (!u) w) (Q false w)) (Q false w)) (Q false w)) (ok 28) [] [] Tryz.func190
def jk (Q:Int->WP)(R2:L3 (Value->Int->Int->WP))(a:OA)(b c:Nat)(d:Value)(e f:Int)(w:World):Prop:=cond (decide (f<e)) (aK f b<|wA a λg=>af .u8 (g.add (f.toNat*1)) w λi=>ik (cx 19) d [.int .u8 i] w λj w=>dB j λl=>cond l (Q f w) (R2 a b c d e (IntKind.wrap .i64 (f+1)) w)) (Q (-1) w)
def jl (Q:Int->WP):Nat->L3 (Value->Int->Int->WP)
 |0,_,_,_,_,_,_,_=>False
 |k+1,a,b,c,d,e,f,w=>jk Q (jl Q k) a b c d e f w
def Gq (Q):∀k,Bk 19 Tryz.f264 (xh Q) 2 [(0,.l),(1,.v),(7,.i .i64),(8,.i .i64)] (jl Q k):=bH λk h=>aS (ok 19) [] [aO h]
def E4:=λa b c d w Q=>bB (uZ a b c d w Q) (∃k',jl Q k' a b c d (b:Int) 0 w) (ok 19) [] [cg (Gq Q)] Tryz.func264
def CW:=λa b c d w Q=>bB (mT a b c d w Q) (uZ a b c d w λe w=>Q (decide (e≥0)) w) (ok 9) [] [] Tryz.func241
def ZF:=λa b w Q=>bB (Lw a b w Q) (wA b λc=>aA (c.add 2) w λd e f=>aK 0 e<|wA d λg=>af .u8 (g.add (((0:Int).toNat)*1)) w λi=>Q (a !=i) w) (ok 10) [] [] Tryz.func242
def Ev (u6:Addr->L3 (Int->WP))(Q:L3 WP)(a:Addr)(b:OA)(c d:Nat)(e f:Int)(w:World):Prop:=aA (a.add 2) w λg i j=>aK e i<|wA g λl=>af .u8 (l.add (e.toNat*1)) w λm=>Bx [.int .u8 (IntKind.wrap .u8 (IntKind.wrap .i64 (f-1))),.int .u8 m] 5 w λn w=>App P #[22,22] 22 (.slice b c d) (.slice (some n) 2 2) w λo p q w=>u6 a o p q (IntKind.wrap .i64 (e+f)) w
def JL (u6:Addr->L3 (Int->WP))(Q:L3 WP)(R12:Addr->L3 (Int->Int->WP))(a:Addr)(b:OA)(c d:Nat)(e f:Int)(w:World):Prop:=aA (a.add 2) w.drew λg i j=>cond (decide ((IntKind.wrap .i64 (e+f))<(i:Int))) (aA (a.add 2) w.drew λl m n=>aK (IntKind.wrap .i64 (e+f)) m<|wA l λo=>af .u8 (o.add (((IntKind.wrap .i64 (e+f))).toNat*1)) w.drew λp=>aA (a.add 2) w.drew λq r s=>aK e r<|wA q λt=>af .u8 (t.add (e.toNat*1)) w.drew λu=>cond (p==u) (R12 a b c d e (IntKind.wrap .i64 (f+1)) w.drew) (Ev u6 Q a b c d e f w.drew)) (Ev u6 Q a b c d e f w.drew)
def wP (u6:Addr->L3 (Int->WP))(Q:L3 WP):Nat->Addr->L3 (Int->Int->WP)
 |0,_,_,_,_,_,_,_=>False
 |k+1,a,b,c,d,e,f,w=>JL u6 Q (wP u6 Q k) a b c d e f w
def JM (Q:L3 WP)(R10:Addr->L3 (Int->WP))(a:Addr)(b:OA)(c d:Nat)(e:Int)(w:World):Prop:=aA (a.add 2) w λf g i=>cond (decide (e<(g:Int))) (∃k',wP R10 Q k' a b c d e 1 w) (Q b c d w)
def wQ (Q:L3 WP):Nat->Addr->L3 (Int->WP)
 |0,_,_,_,_,_,_=>False
 |k+1,a,b,c,d,e,w=>JM Q (wQ Q k) a b c d e w
noncomputable def Ew:cm:=[(12,sp 0 22 .done)]
def agC {u6}(Q)(H10:Bk 75 Tryz.f221 (y8 Q) 10 [(2,.a),(5,.l),(6,.i .i64)] u6):Bk 75 Tryz.f221 (y8 Q) 14 [(2,.a),(5,.l),(6,.i .i64),(7,.i .i64)] (Ev u6 Q):=aS (ok 75) Ew [aO H10]
def agD {u6}(Q)(H10:Bk 75 Tryz.f221 (y8 Q) 10 [(2,.a),(5,.l),(6,.i .i64)] u6):∀k,Bk 75 Tryz.f221 (y8 Q) 12 [(2,.a),(5,.l),(6,.i .i64),(7,.i .i64)] (wP u6 Q k):=bH λk h=>aS (ok 75) Ew [aO h,aO (agC Q H10)]
def agE (Q):∀k,Bk 75 Tryz.f221 (y8 Q) 10 [(2,.a),(5,.l),(6,.i .i64)] (wQ Q k):=bH λk h=>aS (ok 75) Ew [cg (agD Q h)]
def adC:=λa b c d e f w Q=>bB (HT a b c d e f w Q) (Bx [ae a,ae b,.slice c d e] 84 w λg w=>Bx [.int .u8 (IntKind.wrap .u8 f)] 5 w λi w=>cond (f==0) (aA (g.add 2) w λj l m=>mT j l m (.func (.func 242) #[] #[.pointer (some g)]) w λn w=>cond n (Q none 0 0 w) (aA (g.add 2) w λo p q=>aK 0 p<|wA o λr=>af .u8 (r.add (((0:Int).toNat)*1)) w λs=>Bx [.int .u8 s] 5 w λt w=>App P #[22,22] 22 (.slice (some i) 1 1) (.slice (some t) 1 1) w λu v x w=>Q u v x w)) (cond (f==1) (aA (g.add 2) w λy z a1=>App P #[22,22] 22 (.slice (some i) 1 1) (.slice y z a1) w λb1 c1 d1 w=>Q b1 c1 d1 w) (∃k',wQ Q k' g (some i) 1 1 0 w))) (ok 75) Ew [cg (agE Q)] Tryz.func221
def zf (P3:Addr->Int->L3 (Int->WP))(Q:Int->L3 WP)(a:Addr)(b:Int)(c:OA)(d e:Nat)(f:Int)(w:World):Prop:=P3 a b c d e (IntKind.wrap .i64 (f+1)) w
def jP (Q:Int->L3 WP)(R3:Addr->Int->L3 (Int->WP))(a:Addr)(b:Int)(c:OA)(d e:Nat)(f:Int)(w:World):Prop:=cond (decide (f<3)) (af .i64 (a.add 0) w λg=>af .i64 (a.add 1) w λi=>aA (a.add 2) w λj l m=>HT g i j l m f w λn o p w=>cond (!n.isNone) (cond c.isNone (zf R3 Q a f n o p f w) (cond (decide ((o:Int)<(d:Int))) (zf R3 Q a f n o p f w) (R3 a b c d e (IntKind.wrap .i64 (f+1)) w))) (R3 a b c d e (IntKind.wrap .i64 (f+1)) w)) (Q b c d e w)
def ow (Q:Int->L3 WP):Nat->Addr->Int->L3 (Int->WP)
 |0,_,_,_,_,_,_,_=>False
 |k+1,a,b,c,d,e,f,w=>jP Q (ow Q k) a b c d e f w
def adD {P3}(Q)(H3:Bk 32 Tryz.f191 (CR Q) 3 [(1,.a),(4,.i .i64),(5,.l),(8,.i .i64)] P3):Bk 32 Tryz.f191 (CR Q) 7 [(1,.a),(6,.i .i64),(7,.l),(8,.i .i64)] (zf P3 Q):=aS (ok 32) [] [aO H3]
def adE (Q):∀k,Bk 32 Tryz.f191 (CR Q) 3 [(1,.a),(4,.i .i64),(5,.l),(8,.i .i64)] (ow Q k):=bH λk h=>aS (ok 32) [] [aO h,aO (adD Q h)]
def ZG:=λa b c d e w Q=>bB (EY a b c d e w Q) (Bx [ae a,ae b,.slice c d e] 84 w λf w=>∃k',ow Q k' f (-1) none 0 0 0 w) (ok 32) [] [cg (adE Q)] Tryz.func191
def adF:=λa b c d e w Q=>bB (HS a b c d e w Q) (Bx [ae a,ae b,.slice c d e] 84 w λf w=>af .i64 (f.add 0) w λg=>af .i64 (f.add 1) w λi=>aA (f.add 2) w λj l m=>uP g i j l m w λn w=>cond (!n) (Q none 0 0 1 w) (af .i64 (f.add 0) w λo=>af .i64 (f.add 1) w λp=>aA (f.add 2) w λq r s=>EY o p q r s w λt u v x w=>Q u v x 0 w)) (ok 15) [] [] Tryz.func168
def X4:=λa b c d e f w Q=>bB (DB a b c d e f w Q) (aQ P (convert 22 9 (.slice a b c)) w λg w=>RH g λi=>aQ P (convert 22 9 (.slice d e f)) w λj w=>RH j λl=>Q (i.toList==l.toList) w) (ok 10) [] [] Tryz.func169
def zg (Q:Int->Int->L3 (Value->WP))(a b:Addr)(w:World):Prop:=St (a.add 0) (ae 0) w λw=>St (a.add 1) (ae 0) w λw=>St (a.add 2) (.slice none 0 0) w λw=>af .i64 (a.add 0) w λc=>af .i64 (a.add 1) w λd=>aA (a.add 2) w λe f g=>Q c d e f g (.iface 268 (.pointer (some b))) w
def mW (Q:Int->Int->L3 (Value->WP))(a:OA)(b:Addr)(c:Value)(d:Addr)(w:World):Prop:=BM c λe=>cond e (af .i64 (d.add 0) w λf=>af .i64 (d.add 1) w λg=>aA (d.add 2) w λi j l=>St (b.add 0) (ae f) w λw=>St (b.add 1) (ae g) w λw=>St (b.add 2) (.slice i j l) w λw=>af .i64 (b.add 0) w λm=>af .i64 (b.add 1) w λn=>aA (b.add 2) w λo p q=>Q m n o p q (.nilIface) w) (wA a λr=>af .i64 (r.add 1) w λs=>dV c λt=>Bx [ae s,ae 3,t] 271 w λu w=>cw (aZ 6) w λv=>pF c v w λx w=>cond x (St (u.add 1) (ae 2) w λw=>zg Q b u w) (zg Q b u w))
noncomputable def zh:cm:=[(5,sp 0 10 (.op 10 (.op 11 .done)))]
def Qh (Q):Bk 66 Tryz.f158 (z8 Q) 12 [(6,.a),(13,.a)] (zg Q):=aS (ok 66) zh []
def Sp (Q):Bk 66 Tryz.f158 (z8 Q) 7 [(0,.p),(6,.a),(9,.v),(10,.a)] (mW Q):=aS (ok 66) zh [aO (Qh Q)]
def OI:=λa b c w Q=>bB (xW a b c w Q) (Al T 84 w λd w=>xX a (IntKind.wrap .i64 (b*c)) w λe f g i w=>jL e f g w λj l m w=>Al T 84 w λn w=>St (n.add 0) (ae b) w λw=>St (n.add 1) (ae c) w λw=>St (n.add 2) (.slice j l m) w λw=>BM i λo=>cond o (af .i64 (n.add 0) w λp=>af .i64 (n.add 1) w λq=>aA (n.add 2) w λr s t=>HS p q r s t w λu v x y w=>wA a λz=>aA z w.drew λa1 b1 c1=>wA a λd1=>af .i64 (d1.add 1) w.drew λe1=>cj a1 b1 c1 1 none (some e1) λf1 g1 i1=>DB u v x f1 g1 i1 w.drew λj1 w=>cond (!j1) (cw (aZ 5) w λl1=>mW Q a d l1 n w) (mW Q a d i n w)) (mW Q a d i n w)) (ok 66) zh [aO (Sp Q)] Tryz.func158
def Cb (Q:Int->Int->L3 (Int->Int->WP))(a:Addr)(w:World):Prop:=St (a.add 0) (ae 0) w λw=>St (a.add 1) (ae 0) w λw=>St (a.add 2) (.slice none 0 0) w λw=>af .i64 (a.add 0) w λb=>af .i64 (a.add 1) w λc=>aA (a.add 2) w λd e f=>Q b c d e f 0 1 w
noncomputable def TM:cm:=[(7,sp 0 5 (.op 5 (.op 6 (.op 7 .done)))),(8,sp 0 5 (.op 5 (.op 6 (.op 7 .done))))]
def aif (Q):Bk 50 Tryz.f143 (Vy Q) 2 [(6,.a)] (Cb Q):=aS (ok 50) TM []
def adG:=λa b c d e w Q=>bB (HR a b c d e w Q) (Al T 84 w λf w=>cond (decide (d<1)) (Cb Q f w) (cond (decide (d>16)) (Cb Q f w) (cond (decide (e<1)) (Cb Q f w) (cond (decide (e>16)) (Cb Q f w) (Bx [.slice a b c,ae 0] 265 w λg w=>xW (some g) d e w λi j l m n o w=>St (f.add 0) (ae i) w λw=>St (f.add 1) (ae j) w λw=>St (f.add 2) (.slice l m n) w λw=>Al T 268 w λp w=>St p (.pointer none) w λw=>nA o (.iface 269 (.pointer (some p))) w λq w=>cond q (bp p w.drew λr=>wA r λs=>af .i64 (s.add 1) w.drew λt=>St (f.add 0) (ae 0) w.drew λw=>St (f.add 1) (ae 0) w λw=>St (f.add 2) (.slice none 0 0) w λw=>w.cell? (s.add 1)=some (ae t)/\w.cell? p=some (.pointer r)/\w.cell? (s.add 1)=some (ae t)/\w.cell? p=some (.pointer r)/\af .i64 (f.add 0) w λu=>af .i64 (f.add 1) w λv=>aA (f.add 2) w λx y z=>Q u v x y z 0 t w) (af .i64 (f.add 0) w.drew λa1=>af .i64 (f.add 1) w.drew λb1=>aA (f.add 2) w.drew λc1 d1 e1=>af .i64 (g.add 1) w.drew λf1=>St (f.add 0) (ae a1) w.drew λw=>St (f.add 1) (ae b1) w λw=>St (f.add 2) (.slice c1 d1 e1) w λw=>w.cell? (g.add 1)=some (ae f1)/\af .i64 (f.add 0) w λg1=>af .i64 (f.add 1) w λi1=>aA (f.add 2) w λj1 l1 m1=>Q g1 i1 j1 l1 m1 f1 0 w)))))) (ok 50) TM [aO (aif Q)] Tryz.func143
def ZH:=λa b c d w Q=>bB (z6 a b c d w Q) (lH a b w λe w=>cond (!e) (Q (-1) w) (cond (decide (c<0)) (Q (-1) w) (cond (decide (c≥a)) (Q (-1) w) (cond (decide (d<0)) (Q (-1) w) (cond (decide (d≥b)) (Q (-1) w) (Q (IntKind.wrap .i64 ((IntKind.wrap .i64 (d*a))+c)) w)))))) (ok 36) [] [] Tryz.func42
noncomputable def X5:cm:=[(5,sp 0 12 (.op 12 (.op 13 .done)))]
def VM:=λa b c d w Q=>bB (om a b c d w Q) (w8 a b c w λe f g w=>n8 a b c w λi j w=>cond (!g) (Q (-1) w) (cond (decide (d<0)) (Q (-1) w) (cond (decide (d≥(IntKind.wrap .i64 (i*j)))) (Q (-1) w) (NZ i<|NZ i<|z6 a b (IntKind.wrap .i64 (e+(Int.tmod d i))) (IntKind.wrap .i64 (f+(IntKind.wrap .i64 (Int.tdiv d i)))) w.drew λl w=>Q l w)))) (ok 55) X5 [] Tryz.func159
def AN (Q:WP)(R3:Addr->Addr->Int->Int->Int->WP)(a b:Addr)(c d e:Int)(w:World):Prop:=cond (decide (e<d)) (aA (a.add 2) w.drew λf g i=>af .i64 a w.drew λj=>cj f g i 1 (some (IntKind.wrap .i64 (c+(IntKind.wrap .i64 (e*j))))) none λl m n=>aA (b.add 2) w.drew λo p q=>af .i64 b w.drew λr=>af .i64 b w.drew λs=>cj o p q 1 (some (IntKind.wrap .i64 (e*r))) (some (IntKind.wrap .i64 ((IntKind.wrap .i64 (e+1))*s))) λt u v=>cV P #[22,22] 3 (.slice l m n) (.slice t u v) w.drew λx w=>R3 a b c d (IntKind.wrap .i64 (e+1)) w) (Q w)
def Ex (Q:WP):Nat->Addr->Addr->Int->Int->Int->WP
 |0,_,_,_,_,_,_=>False
 |k+1,a,b,c,d,e,w=>AN Q (Ex Q k) a b c d e w
noncomputable def Qi:cm:=[(5,sp 0 21 (.op 21 .done))]
def agF (Q):∀k,Bk 42 Tryz.f144 (TK Q) 3 [(3,.a),(5,.a),(6,.i .i64),(15,.i .i64),(16,.i .i64)] (Ex Q k):=bH λk h=>aS (ok 42) Qi [aO h]
def abv:=λa b c d e f g i j l m w Q=>bB (Gj a b c d e f g i j l m w Q) (Bx [ae a,ae b,.slice c d e] 25 w λn w=>Bx [ae g,ae i,.slice j l m] 84 w λo w=>af .i64 n w λp=>af .i64 (n.add 1) w λq=>om p q f 0 w λr w=>af .i64 (o.add 1) w λs=>∃k',Ex Q k' n o r s 0 w) (ok 42) Qi [cg (agF Q)] Tryz.func144
def zi (Q:Int->Int->L3 (Value->WP))(R9:L3 (Addr->Addr->Int->Int->WP))(a:OA)(b c:Nat)(d e:Addr)(f g:Int)(w:World):Prop:=cond (decide (g<f)) (af .i64 e w λi=>af .i64 (e.add 1) w λj=>n8 i j g w λl m w=>HR a b c l m w λn o p q r s t w=>Al T 84 w λu w=>St (u.add 0) (ae n) w λw=>St (u.add 1) (ae o) w λw=>St (u.add 2) (.slice p q r) w λw=>cond (t !=0) (Bx [ae g,.iface 187 (ae t)] 242 w λv w=>St (d.add 0) (ae 0) w λw=>St (d.add 1) (ae 0) w λw=>St (d.add 2) (.slice none 0 0) w λw=>af .i64 (d.add 0) w λx=>af .i64 (d.add 1) w λy=>aA (d.add 2) w λz a1 b1=>Q x y z a1 b1 (.iface 240 (.pointer (some v))) w) (af .i64 (e.add 0) w λc1=>af .i64 (e.add 1) w λd1=>aA (e.add 2) w λe1 f1 g1=>af .i64 (u.add 0) w λi1=>af .i64 (u.add 1) w λj1=>aA (u.add 2) w λl1 m1 n1=>Gj c1 d1 e1 f1 g1 g i1 j1 l1 m1 n1 w λw=>cj a b c 1 (some s) none λo1 p1 q1=>R9 o1 p1 q1 d e f (IntKind.wrap .i64 (g+1)) w)) (cond (decide ((b:Int)>0)) (St (d.add 0) (ae 0) w λw=>St (d.add 1) (ae 0) w λw=>St (d.add 2) (.slice none 0 0) w λw=>af .i64 (d.add 0) w λr1=>af .i64 (d.add 1) w λs1=>aA (d.add 2) w λt1 u1 v1=>Q r1 s1 t1 u1 v1 (.iface 187 (ae 3)) w) (af .i64 (e.add 0) w λx1=>af .i64 (e.add 1) w λy1=>aA (e.add 2) w λz1 a2 b2=>St (d.add 0) (ae x1) w λw=>St (d.add 1) (ae y1) w λw=>St (d.add 2) (.slice z1 a2 b2) w λw=>af .i64 (d.add 0) w λc2=>af .i64 (d.add 1) w λd2=>aA (d.add 2) w λe2 f2 g2=>Q c2 d2 e2 f2 g2 (.nilIface) w))
def CX (Q:Int->Int->L3 (Value->WP)):Nat->L3 (Addr->Addr->Int->Int->WP)
 |0,_,_,_,_,_,_,_,_=>False
 |k+1,a,b,c,d,e,f,g,w=>zi Q (CX Q k) a b c d e f g w
noncomputable def NG:cm:=[(3,sp 0 21 (.op 21 (.op 22 .done)))]
def adH (Q):∀k,Bk 102 Tryz.f111 (PR Q) 9 [(0,.l),(2,.a),(4,.a),(58,.i .i64),(59,.i .i64)] (CX Q k):=bH λk h=>aS (ok 102) NG [aO h]
def ZI:=λa b c w Q=>bB (ES a b c w Q) (Al T 25 w λd w=>cond (decide ((b:Int)<4)) (St (d.add 0) (ae 0) w λw=>St (d.add 1) (ae 0) w λw=>St (d.add 2) (.slice none 0 0) w λw=>af .i64 (d.add 0) w λe=>af .i64 (d.add 1) w λf=>aA (d.add 2) w λg i j=>Q e f g i j (.iface 187 (ae 2)) w) (aK 0 b<|wA a λl=>af .u8 (l.add (((0:Int).toNat)*1)) w.drew λm=>aK 1 b<|wA a λn=>af .u8 (n.add (((1:Int).toNat)*1)) w.drew λo=>DW 8<|aK 2 b<|wA a λp=>af .u8 (p.add (((2:Int).toNat)*1)) w.drew λq=>aK 3 b<|wA a λr=>af .u8 (r.add (((3:Int).toNat)*1)) w.drew λs=>DW 8<|Al T 25 w.drew λt w=>w.cell? (r.add (((3:Int).toNat)*1))=some (.int .u8 s)/\w.cell? (p.add (((2:Int).toNat)*1))=some (.int .u8 q)/\w.cell? (n.add (((1:Int).toNat)*1))=some (.int .u8 o)/\w.cell? (l.add (((0:Int).toNat)*1))=some (.int .u8 m)/\St (t.add 0) (ae (ior .i64 (IntKind.wrap .i64 m) (BL .i64 (IntKind.wrap .i64 o) 8))) w λw=>St (t.add 1) (ae (ior .i64 (IntKind.wrap .i64 q) (BL .i64 (IntKind.wrap .i64 s) 8))) w λw=>St (t.add 2) (.slice none 0 0) w λw=>af .i64 t w λu=>af .i64 (t.add 1) w λv=>lH u v w λx w=>cond (!x) (St (d.add 0) (ae 0) w λw=>St (d.add 1) (ae 0) w λw=>St (d.add 2) (.slice none 0 0) w λw=>af .i64 (d.add 0) w λy=>af .i64 (d.add 1) w λz=>aA (d.add 2) w λa1 b1 c1=>Q y z a1 b1 c1 (.iface 187 (ae 3)) w) (cj a b c 1 (some 4) none λd1 e1 f1=>af .i64 t w λg1=>af .i64 (t.add 1) w λi1=>cO P 22 (ae (IntKind.wrap .i64 (g1*i1))) (ae (IntKind.wrap .i64 (g1*i1))) w λj1 l1 m1 w=>St (t.add 2) (.slice j1 l1 m1) w λw=>af .i64 t w λn1=>af .i64 (t.add 1) w λo1=>EU n1 o1 w λp1 w=>∃k',CX Q k' d1 e1 f1 d t p1 0 w))) (ok 102) NG [cg (adH Q)] Tryz.func111
noncomputable def adI:cm:=[(4,sp 0 2 (.op 2 (.op 3 .done)))]
def abw:=λa b c w Q=>bB (Gd a b c w Q) (Al T 25 w λd w=>ES a b c w λe f g i j l w=>Al T 25 w λm w=>St (m.add 0) (ae e) w λw=>St (m.add 1) (ae f) w λw=>St (m.add 2) (.slice g i j) w λw=>Al T 187 w λn w=>St n (ae 0) w λw=>nA l (.iface 188 (.pointer (some n))) w λo w=>cond o (af .i64 n w.drew λp=>St (d.add 0) (ae 0) w.drew λw=>St (d.add 1) (ae 0) w λw=>St (d.add 2) (.slice none 0 0) w λw=>w.cell? n=some (ae p)/\af .i64 (d.add 0) w λq=>af .i64 (d.add 1) w λr=>aA (d.add 2) w λs t u=>Q q r s t u p w) (af .i64 (m.add 0) w λv=>af .i64 (m.add 1) w λx=>aA (m.add 2) w λy z a1=>St (d.add 0) (ae v) w λw=>St (d.add 1) (ae x) w λw=>St (d.add 2) (.slice y z a1) w λw=>af .i64 (d.add 0) w λb1=>af .i64 (d.add 1) w λc1=>aA (d.add 2) w λd1 e1 f1=>Q b1 c1 d1 e1 f1 0 w)) (ok 18) adI [] Tryz.func79
def MO:=λa w Q=>bB (qw a w Q) (cond (!a.isNone) (wA a λb=>bp b w λc=>vD c w λw=>wA a λd=>St (d.add 1) (.slice none 0 0) w λw=>Q w) (Q w)) (ok 12) [] [] Tryz.func82
def abx:=λa b c d e w Q=>bB (Bm a b c d e w Q) (Bx [ae a,ae b,.slice c d e] 25 w λf w=>af .i64 f w λg=>af .i64 (f.add 1) w λi=>lH g i w λj w=>cond j (aA (f.add 2) w λl m n=>af .i64 f w λo=>af .i64 (f.add 1) w λp=>cond ((m:Int)==(IntKind.wrap .i64 (o*p))) (aA (f.add 2) w λq r s=>iW q r s 0 w λt w=>Q (!t) w) (Q false w)) (Q false w)) (ok 25) [] [] Tryz.func112
def Cc (Q:OA->WP)(R7:Addr->Int->Int->WP)(a:Addr)(b c:Int)(w:World):Prop:=cond (decide (c<b)) (aA (a.add 4) w.drew λd e f=>af .i64 (a.add 3) w.drew λg=>aK c e<|wA d λi=>St (i.add (c.toNat*1)) (ae g) w.drew λw=>R7 a b (IntKind.wrap .i64 (c+1)) w) (Q (some a) w)
def zj (Q:OA->WP):Nat->Addr->Int->Int->WP
 |0,_,_,_,_=>False
 |k+1,a,b,c,w=>Cc Q (zj Q k) a b c w
noncomputable def TN:cm:=[(5,sp 0 6 (.op 6 (.op 7 (.op 8 (.op 9 .done))))),(9,sp 0 10 (.op 10 .done))]
def aih (Q):∀k,Bk 61 Tryz.f113 (Vw Q) 7 [(7,.a),(45,.i .i64),(46,.i .i64)] (zj Q k):=bH λk h=>aS (ok 61) TN [aO h]
def adJ:=λa b c d e f w Q=>bB (HO a b c d e f w Q) (Bx [ae a,ae b,.slice c d e] 25 w λg w=>af .i64 (g.add 0) w λi=>af .i64 (g.add 1) w λj=>aA (g.add 2) w λl m n=>Bm i j l m n w λo w=>cond (!o) (Q none w) (cond (decide (f<0)) (Q none w) (cond (decide (f>4611686018427387904)) (Q none w) (aA (g.add 2) w λp q r=>jL p q r w λs t u w=>St (g.add 2) (.slice s t u) w λw=>af .i64 g w λv=>af .i64 (g.add 1) w λx=>lq v x w λy z w=>af .i64 (g.add 0) w.drew λa1=>af .i64 (g.add 1) w.drew λb1=>aA (g.add 2) w.drew λc1 d1 e1=>cO P 172 (ae (IntKind.wrap .i64 (y*z))) (ae (IntKind.wrap .i64 (y*z))) w.drew λf1 g1 i1 w=>w.cell? (g.add 0)=some (ae a1)/\w.cell? (g.add 1)=some (ae b1)/\w.cell? (g.add 2)=some (.slice c1 d1 e1)/\Bx [ae a1,ae b1,.slice c1 d1 e1,ae (IntKind.wrap .i64 (f+1)),.slice f1 g1 i1] 174 w λj1 w=>aA (j1.add 4) w λl1 m1 n1=>∃k',zj Q k' j1 (m1:Int) 0 w)))) (ok 61) TN [cg (aih Q)] Tryz.func113
def FC:=λa w Q=>bB (f_ a w Q) (cond a.isNone (Q 0 w) (wA a λb=>af .i64 (b.add 3) w λc=>Q c w)) (ok 9) [] [] Tryz.func114
noncomputable def UB:cm:=[(3,sp 0 10 (.op 10 (.op 11 .done)))]
def Sq:=λa w Q=>bB (eL a w Q) (cond a.isNone (Q 0 0 w) (wA a λb=>af .i64 b w.drew λc=>wA a λd=>af .i64 (d.add 1) w.drew λe=>w.drew.cell? (d.add 1)=some (ae e)/\Q c e w.drew)) (ok 16) UB [] Tryz.func147
def adK:=λa w Q=>bB (HP a w Q) (cond a.isNone (Q none w) (eL a w λb c w=>lq b c w λd e w=>cO P 234 (ae (IntKind.wrap .i64 (d*e))) (ae (IntKind.wrap .i64 (d*e))) w λf g i w=>Bx [.pointer a,.slice f g i,ae 0,.int .u64 0] 236 w λj w=>Q (some j) w)) (ok 22) [] [] Tryz.func115
def aby:=λa b w Q=>bB (Gg a b w Q) (cond a.isNone (Q none w) (cond b.isNone (Q none w) (Bx [.pointer a,.pointer b,.pointer none,.int .u64 0] 197 w λc w=>Q (some c) w))) (ok 15) [] [] Tryz.func116
noncomputable def X6:cm:=[(5,sp 0 6 (.op 6 (.op 7 (sp 8 2 (.op 10 .done))))),(6,sp 0 6 (.op 6 (.op 7 (sp 8 2 (.op 10 .done))))),(8,sp 0 9 (.op 9 (sp 10 2 (.op 12 .done))))]
def VN:=λa b c d e f w Q=>bB (BY a b c d e f w Q) (Bx [ae b,ae c,.slice d e f] 25 w λg w=>cond a.isNone (Q 4 w) (af .i64 (g.add 0) w λi=>af .i64 (g.add 1) w λj=>aA (g.add 2) w λl m n=>Bm i j l m n w λo w=>cond (!o) (Q 6 w) (wA a λp=>af .u64 ((p.add 4).add 0) w.drew λq=>af .u64 ((p.add 4).add 1) w.drew λr=>af .u64 ((p.add 4).add 2) w.drew λs=>af .u64 ((p.add 4).add 3) w.drew λt=>af .u64 ((p.add 4).add 4) w.drew λu=>af .u64 ((p.add 4).add 5) w.drew λv=>tS a w.drew λx y z a1 b1 c1 w=>w.cell? ((p.add 4).add 0)=some (.int .u64 q)/\w.cell? ((p.add 4).add 1)=some (.int .u64 r)/\w.cell? ((p.add 4).add 2)=some (.int .u64 s)/\w.cell? ((p.add 4).add 3)=some (.int .u64 t)/\w.cell? ((p.add 4).add 4)=some (.int .u64 u)/\w.cell? ((p.add 4).add 5)=some (.int .u64 v)/\wV q r s t u v x y z a1 b1 c1 w λd1 e1 f1 g1 i1 j1 w=>wA a λl1=>St ((l1.add 4).add 0) (.int .u64 d1) w λw=>St ((l1.add 4).add 1) (.int .u64 e1) w λw=>St ((l1.add 4).add 2) (.int .u64 f1) w λw=>St ((l1.add 4).add 3) (.int .u64 g1) w λw=>St ((l1.add 4).add 4) (.int .u64 i1) w λw=>St ((l1.add 4).add 5) (.int .u64 j1) w λw=>af .i64 (g.add 0) w.drew λm1=>af .i64 (g.add 1) w.drew λn1=>aA (g.add 2) w.drew λo1 p1 q1=>wA a λr1=>bp r1 w.drew λs1=>f_ s1 w.drew λt1 w=>w.cell? (g.add 0)=some (ae m1)/\w.cell? (g.add 1)=some (ae n1)/\w.cell? (g.add 2)=some (.slice o1 p1 q1)/\HO m1 n1 o1 p1 q1 t1 w λu1 w=>wA a λv1=>St v1 (.pointer u1) w λw=>wA a λx1=>bp x1 w λy1=>HP y1 w λz1 w=>wA a λa2=>St (a2.add 1) (.pointer z1) w λw=>wA a λb2=>bp (b2.add 1) w.drew λc2=>wA a λd2=>bp d2 w.drew λe2=>Gg c2 e2 w.drew λf2 w=>wA a λg2=>St (g2.add 2) (.pointer f2) w λw=>wA a λi2=>bp (i2.add 3) w λj2=>qw j2 w λw=>Q 0 w))) (ok 57) X6 [] Tryz.func80
def abz:=λa w Q=>bB (Gh a w Q) (cond (decide (a<1)) (Q none w) (cond (decide (a>65536)) (Q none w) (cM P 169 none w λb w=>Bx [ae a,ae 0,.map b,.slice none 0 0] 171 w λc w=>Q (some c) w))) (ok 13) [] [] Tryz.func117
def abA:=λa w Q=>bB (Gi a w Q) (cond (decide (a<1)) (Q none w) (cond (decide (a>1048576)) (Q none w) (cO P 245 (ae a) (ae a) w λb c d w=>Bx [.slice b c d,ae 0] 247 w λe w=>Q (some e) w))) (ok 13) [] [] Tryz.func118
def abB:=λa b c w Q=>bB (Ge a b c w Q) (lH a b w λd w=>cond (!d) (Q none w) (cond (decide (c<1)) (Q none w) (cond (decide (c>65536)) (Q none w) (Gh c w λe w=>Gi (IntKind.wrap .i64 (a*b)) w λf w=>Bx [ae a,ae b,ae c,.pointer e,.pointer f] 125 w λg w=>Q (some g) w)))) (ok 30) [] [] Tryz.func81
noncomputable def Qj:cm:=[(4,sp 0 5 (.op 5 (.op 6 .done))),(6,sp 0 9 (.op 9 (sp 10 2 (.op 12 .done))))]
def OJ:=λa b c d w Q=>bB (xM a b c d w Q) (Gd b c d w λe f g i j l w=>Al T 25 w λm w=>St (m.add 0) (ae e) w λw=>St (m.add 1) (ae f) w λw=>St (m.add 2) (.slice g i j) w λw=>cond (l !=0) (Q (.iface 108 (ae 6)) w) (wA a λn=>bp (n.add 1) w.drew λo=>af .i64 (m.add 0) w.drew λp=>af .i64 (m.add 1) w.drew λq=>aA (m.add 2) w.drew λr s t=>BY o p q r s t w.drew λu w=>cond (u==0) (af .i64 m w.drew λv=>af .i64 (m.add 1) w.drew λx=>wA a λy=>af .i64 y w.drew λz=>Ge v x z w.drew λa1 w=>wA a λb1=>St (b1.add 2) (.pointer a1) w λw=>gm u w λc1 w=>dV c1 λd1=>Q d1 w) (gm u w λe1 w=>dV e1 λf1=>Q f1 w))) (ok 37) Qj [] Tryz.func50
def Dq:=λa w Q=>bB (qx a w Q) (cond (!a.isNone) (wA a λb=>St (b.add 2) (.pointer none) w λw=>Q w) (Q w)) (ok 7) [] [] Tryz.func83
def Hw:=λa w Q=>bB (vC a w Q) (cond (!a.isNone) (wA a λb=>bp (b.add 3) w λc=>qw c w λw=>wA a λd=>bp (d.add 2) w λe=>qx e w λw=>Q w) (Q w)) (ok 14) [] [] Tryz.func51
def Sr:=λa b w Q=>bB (tU a b w Q) (cond (!a.isNone) (cond (decide (b≥0)) (wA a λc=>aA c w λd e f=>Q (decide (b<(e:Int))) w) (Q false w)) (Q false w)) (ok 20) [] [] Tryz.func148
def Qk:=λa b w Q=>bB (lW a b w Q) (tU a b w λc w=>cond (!c) (Q (-1) w) (wA a λd=>aA d w λe f g=>aK b f<|wA e λi=>af .u32 (i.add (b.toNat*1)) w λj=>Q (IntKind.wrap .i64 ((IntKind.wrap .i64 j)-1)) w)) (ok 18) [] [] Tryz.func119
def Ql:=λa b w Q=>bB (yR a b w Q) (cond a.isNone (Q (-1) w) (wA a λc=>bp (c.add 4) w λd=>lW d b w λe w=>Q e w)) (ok 13) [] [] Tryz.func84
def adL:=λa b c w Q=>bB (yQ a b c w Q) (lH a b w λd w=>cond d (cond (decide (c≥0)) (Q (decide (c<(IntKind.wrap .i64 (a*b)))) w) (Q false w)) (Q false w)) (ok 21) [] [] Tryz.func68
noncomputable def ZJ:cm:=[(3,sp 0 6 (.op 6 (.op 7 .done)))]
def X7:=λa b c w Q=>bB (td a b c w Q) (yQ a b c w λd w=>cond (!d) (Q (-1) (-1) w) (NZ a<|NZ a<|Q (Int.tmod c a) (IntKind.wrap .i64 (Int.tdiv c a)) w.drew)) (ok 19) ZJ [] Tryz.func41
def VO:=λa b c w Q=>bB (dY a b c w Q) (td a b c w λd e w=>cond (decide (d<0)) (Q (-1) w) (lq a b w λf g w=>NZ 16<|NZ 16<|Q (IntKind.wrap .i64 ((IntKind.wrap .i64 ((IntKind.wrap .i64 (Int.tdiv e 16))*f))+(IntKind.wrap .i64 (Int.tdiv d 16)))) w)) (ok 33) [] [] Tryz.func123
noncomputable def UC:cm:=[(9,sp 0 15 (sp 16 4 (.op 15 (.op 20 (.op 21 .done)))))]
def Ss:=λa b c w Q=>bB (z7 a b c w Q) (cond a.isNone (Q 4 w) (cond (decide (b<0)) (Q 7 w) (wA a λd=>aA (d.add 2) w λe f g=>cond (decide (b≥(f:Int))) (Q 7 w) (cond (decide (c<1)) (Q 8 w) (cond (decide (c>255)) (Q 8 w) (wA a λi=>aA (i.add 2) w λj l m=>aK b l<|wA j λn=>St (n.add (b.toNat*1)) (.int .u8 (IntKind.wrap .u8 c)) w λw=>wA a λo=>af .i64 (o.add 3) w λp=>wA a λq=>St (q.add 3) (ae (IntKind.wrap .i64 (p+1))) w λw=>wA a λr=>aA (r.add 4) w.drew λs t u=>wA a λv=>af .i64 v w.drew λx=>wA a λy=>af .i64 (y.add 1) w.drew λz=>wA a λa1=>af .i64 (a1.add 3) w.drew λb1=>dY x z b w.drew λc1 w=>w.cell? (a1.add 3)=some (ae b1)/\w.cell? (r.add 4)=some (.slice s t u)/\(aK c1 t<|wA s λd1=>St (d1.add (c1.toNat*1)) (ae b1) w λw=>Q 0 w))))))) (ok 67) UC [] Tryz.func120
def VP:=λa b c w Q=>bB (BZ a b c w Q) (cond a.isNone (Q 4 w) (wA a λd=>bp d w λe=>z7 e b c w λf w=>Q f w)) (ok 16) [] [] Tryz.func85
def um (Q:Value->WP)(a:OA)(b c:Int)(w:World):Prop:=wA a λd=>bp (d.add 1) w λe=>BZ e b c w λf w=>gm f w λg w=>dV g λi=>Q i w
def Su (Q):Bk 36 Tryz.f52 (Gc Q) 5 [(0,.p),(1,.i .i64),(2,.i .i64)] (um Q):=aS (ok 36) [] []
def OK:=λa b c w Q=>bB (xN a b c w Q) (cond (decide (c<1)) (Q (.iface 108 (ae 8)) w) (cond (decide (c>255)) (Q (.iface 108 (ae 8)) w) (cond (c==255) (wA a λd=>bp (d.add 2) w λe=>yR e b w λf w=>cond (decide (f≥0)) (Q (.iface 108 (ae 10)) w) (um Q a b c w)) (um Q a b c w)))) (ok 36) [] [aO (Su Q)] Tryz.func52
noncomputable def UD:cm:=[(1,sp 0 9 (.op 9 (.op 10 (.op 11 .done))))]
def Sv:=λa b w Q=>bB (pG a b w Q) (wA a λc=>af .i64 c w.drew λd=>wA a λe=>af .i64 (e.add 1) w.drew λf=>dY d f b w.drew λg w=>Q (decide (g≥0)) w) (ok 16) UD [] Tryz.func88
def Qm:=λa w Q=>bB (yU a w Q) (cond a.isNone (Q 0 w) (wA a λb=>cE (b.add 2) w λc=>aQ P (Builtin.len_ #[169] 3 [.map c].toArray) w λd w=>dI .i64 d λe=>Q e w)) (ok 10) [] [] Tryz.func124
def nP (Q:Int->WP)(a b:Int)(w:World):Prop:=cond (a==b) (Q 13 w) (Q 0 w)
def x6 (Q:Int->WP)(a:OA)(b c:Int)(w:World):Prop:=wA a λd=>bp (d.add 3) w.drew λe=>wA a λf=>af .i64 (f.add 2) w.drew λg=>yU e w.drew λi w=>w.cell? (f.add 2)=some (ae g)/\cond (decide (i≥g)) (Q 11 w) (nP Q b c w)
def zk (Q:Int->WP)(a:OA)(b c:Int)(w:World):Prop:=wA a λd=>bp (d.add 4) w λe=>lW e b w λf w=>cond (f !=(-1)) (Q 10 w) (x6 Q a b c w)
noncomputable def rD:cm:=[(10,sp 0 4 (sp 5 4 (.op 4 (.op 9 .done))))]
def D6 (Q):Bk 48 Tryz.f89 (r8 Q) 12 [(2,.i .i64),(3,.i .i64)] (nP Q):=aS (ok 48) rD []
def D7 (Q):Bk 48 Tryz.f89 (r8 Q) 10 [(0,.p),(2,.i .i64),(3,.i .i64)] (x6 Q):=aS (ok 48) rD [aO (D6 Q)]
def Qn (Q):Bk 48 Tryz.f89 (r8 Q) 8 [(0,.p),(2,.i .i64),(3,.i .i64)] (zk Q):=aS (ok 48) rD [aO (D7 Q)]
def Dr:=λa b c d w Q=>bB (m8 a b c d w Q) (cond (b==0) (pG a c w λe w=>cond (!e) (Q 7 w) (pG a d w λf w=>cond (!f) (Q 7 w) (zk Q a c d w))) (cond (b==1) (zk Q a c d w) (cond (b==2) (x6 Q a c d w) (cond (b==3) (nP Q c d w) (Q 0 w))))) (ok 48) rD [aO (Qn Q),aO (D7 Q),aO (D6 Q)] Tryz.func89
noncomputable def Sw:cm:=[(1,sp 0 7 (sp 8 4 (.op 7 (sp 12 2 .done))))]
def Qo:=λa b c w Q=>bB (yT a b c w Q) (cond a.isNone (Q 0 false w.drew) (wA a λd=>cE (d.add 2) w.drew λe=>wA a λf=>af .i64 f w.drew λg=>aQ P (Builtin.len_ #[169] 3 [.map e].toArray) w.drew λi w=>dI .i64 i λj=>w.cell? f=some (ae g)/\cond (decide (j≥g)) (Q 0 false w) (wA a λl=>af .i64 (l.add 1) w λm=>wA a λn=>af .i64 (n.add 1) w λo=>wA a λp=>St (p.add 1) (ae (IntKind.wrap .i64 (o+1))) w λw=>wA a λq=>cE (q.add 2) w λr=>bI P (Instr.mapUpdate 169 (.map r) (ae m) (.agg #[ae m,ae b,ae c])) w λw=>wA a λs=>aA (s.add 3) w λt u v=>Bx [ae m] 3 w λx w=>App P #[29,29] 29 (.slice t u v) (.slice (some x) 1 1) w λy z a1 w=>wA a λb1=>St (b1.add 3) (.slice y z a1) w λw=>Q m true w))) (ok 54) Sw [] Tryz.func121
def OL:=λa b w Q=>bB (rB a b w Q) (tU a b w λc w=>cond c (wA a λd=>aA d w λe f g=>aK b f<|wA e λi=>af .u32 (i.add (b.toNat*1)) w λj=>Q (j==0) w) (Q false w)) (ok 18) [] [] Tryz.func149
def Qp:=λa b c w Q=>bB (sj a b c w Q) (rB a b w λd w=>cond (!d) (Q false w) (cond (decide (c<0)) (Q false w) (cond (decide (c≥4294967295)) (Q false w) (wA a λe=>aA e w λf g i=>aK b g<|wA f λj=>St (j.add (b.toNat*1)) (.int .u32 (IntKind.wrap .u32 (IntKind.wrap .i64 (c+1)))) w λw=>wA a λl=>af .i64 (l.add 1) w λm=>wA a λn=>St (n.add 1) (ae (IntKind.wrap .i64 (m+1))) w λw=>Q true w)))) (ok 35) [] [] Tryz.func122
def MP:=λa b c w Q=>bB (wq a b c w Q) (cond a.isNone (Q (-1) 1 w) (m8 a 0 b c w λd w=>cond (d !=0) (Q (-1) d w) (wA a λe=>bp (e.add 3) w λf=>yT f b c w λg i w=>wA a λj=>bp (j.add 4) w λl=>sj l b g w λm w=>Q g 0 w))) (ok 35) [] [] Tryz.func86
def MQ:=λa b c w Q=>bB (wg a b c w Q) (wA a λd=>bp (d.add 1) w λe=>rM e b w λf w=>cond (f==255) (Q (-1) (.iface 108 (ae 9)) w) (wA a λg=>bp (g.add 2) w λi=>wq i b c w λj l w=>gm l w λm w=>dV m λn=>Q j n w)) (ok 31) [] [] Tryz.func53
def Qq:=λa b w Q=>bB (iQ a b w Q) (Al T 43 w λc w=>cond a.isNone (St (c.add 0) (ae 0) w λw=>St (c.add 1) (ae 0) w λw=>St (c.add 2) (ae 0) w λw=>af .i64 (c.add 0) w λd=>af .i64 (c.add 1) w λe=>af .i64 (c.add 2) w λf=>Q d e f false w) (wA a λg=>cE (g.add 2) w λi=>aQ P (Instr.lookup 169 (.map i) (ae b) true) w λj w=>dT j λl=>dD l λm n=>dL m λo=>dD o λp q=>dI .i64 p λr=>dD q λs t=>dI .i64 s λu=>dD t λv x=>dI .i64 v λy=>kN x<|dD n λz a1=>dB z λb1=>kN a1<|Al T 43 w λc1 w=>St (c1.add 0) (ae r) w λw=>St (c1.add 1) (ae u) w λw=>St (c1.add 2) (ae y) w λw=>af .i64 (c1.add 0) w λd1=>af .i64 (c1.add 1) w λe1=>af .i64 (c1.add 2) w λf1=>St (c.add 0) (ae d1) w λw=>St (c.add 1) (ae e1) w λw=>St (c.add 2) (ae f1) w λw=>af .i64 (c.add 0) w λg1=>af .i64 (c.add 1) w λi1=>af .i64 (c.add 2) w λj1=>Q g1 i1 j1 b1 w)) (ok 22) [] [] Tryz.func87
def ox (Q:L3 WP)(R3:OA->L3 (L3 (Int->Int->WP)))(a b:OA)(c d:Nat)(e:OA)(f g:Nat)(i j:Int)(w:World):Prop:=cond (decide (j<i)) (aK j f<|wA e λl=>af .i64 (l.add (j.toNat*1)) w λm=>wA a λn=>cE (n.add 2) w λo=>aQ P (Instr.lookup 169 (.map o) (ae m) true) w λp w=>dT p λq=>dD q λr s=>dL r λt=>dD t λu v=>dI .i64 u λx=>dD v λy z=>dI .i64 y λa1=>dD z λb1 c1=>dI .i64 b1 λd1=>kN c1<|dD s λe1 f1=>dB e1 λg1=>kN f1<|Al T 43 w λi1 w=>St (i1.add 0) (ae x) w λw=>St (i1.add 1) (ae a1) w λw=>St (i1.add 2) (ae d1) w λw=>cond g1 (Bx [ae m] 3 w λj1 w=>App P #[29,29] 29 (.slice b c d) (.slice (some j1) 1 1) w λl1 m1 n1 w=>R3 a l1 m1 n1 e f g i (IntKind.wrap .i64 (j+1)) w) (R3 a b c d e f g i (IntKind.wrap .i64 (j+1)) w)) (Q b c d w)
def lX (Q:L3 WP):Nat->OA->L3 (L3 (Int->Int->WP))
 |0,_,_,_,_,_,_,_,_,_,_=>False
 |k+1,a,b,c,d,e,f,g,i,j,w=>ox Q (lX Q k) a b c d e f g i j w
def Qr (Q):∀k,Bk 33 Tryz.f102 (Ft Q) 3 [(0,.p),(3,.l),(11,.l),(12,.i .i64),(13,.i .i64)] (lX Q k):=bH λk h=>aS (ok 33) [] [aO h]
def MR:=λa w Q=>bB (qy a w Q) (wA a λb=>aA (b.add 3) w λc d e=>∃k',lX Q k' a none 0 0 c d e (d:Int) 0 w) (ok 33) [] [cg (Qr Q)] Tryz.func102
noncomputable def Qs:cm:=[(5,sp 0 9 (.op 9 (sp 10 2 .done)))]
def OM:=λa b w Q=>bB (xS a b w Q) (iQ a b w λc d e f w=>Al T 43 w λg w=>St (g.add 0) (ae c) w λw=>St (g.add 1) (ae d) w λw=>St (g.add 2) (ae e) w λw=>cond (!f) (Q false w) (wA a λi=>cE (i.add 2) w λj=>aQ P (Builtin.delete_ #[169,3] 0 [.map j,ae b].toArray) w λl w=>wA a λm=>aA (m.add 3) w.drew λn o p=>wA a λq=>cE (q.add 2) w.drew λr=>aQ P (Builtin.len_ #[169] 3 [.map r].toArray) w.drew λs w=>dI .i64 s λt=>w.cell? (m.add 3)=some (.slice n o p)/\cond (decide ((o:Int)>(IntKind.wrap .i64 (2*t)))) (qy a w λu v x w=>wA a λy=>St (y.add 3) (.slice u v x) w λw=>Q true w) (Q true w))) (ok 37) Qs [] Tryz.func125
def OO:=λa b w Q=>bB (rA a b w Q) (lW a b w λc w=>cond (c !=(-1)) (wA a λd=>aA d w λe f g=>aK b f<|wA e λi=>St (i.add (b.toNat*1)) (.int .u32 0) w λw=>wA a λj=>af .i64 (j.add 1) w λl=>wA a λm=>St (m.add 1) (ae (IntKind.wrap .i64 (l-1))) w λw=>Q c w) (Q c w)) (ok 25) [] [] Tryz.func126
noncomputable def Qt:cm:=[(1,sp 0 6 (.op 6 .done)),(2,sp 0 6 (.op 6 .done))]
def OP:=λa b c d w Q=>bB (nK a b c d w Q) (Bx [ae b,ae c,ae d] 43 w λe w=>wA a λf=>bp (f.add 3) w.drew λg=>af .i64 e w.drew λi=>xS g i w.drew λj w=>wA a λl=>bp (l.add 4) w.drew λm=>af .i64 (e.add 1) w.drew λn=>rA m n w.drew λo w=>Q w) (ok 18) Qt [] Tryz.func90
noncomputable def Sy:cm:=[(4,sp 0 6 (.op 6 .done))]
def Qu:=λa b c w Q=>bB (sq a b c w Q) (iQ a b w λd e f g w=>Al T 43 w λi w=>St (i.add 0) (ae d) w λw=>St (i.add 1) (ae e) w λw=>St (i.add 2) (ae f) w λw=>cond g (ik (cx 25) c [.pointer (some i)] w λj w=>dT j λl=>kN l<|wA a λm=>cE (m.add 2) w.drew λn=>af .i64 (i.add 0) w.drew λo=>af .i64 (i.add 1) w.drew λp=>af .i64 (i.add 2) w.drew λq=>bI P (Instr.mapUpdate 169 (.map n) (ae b) (.agg #[ae o,ae p,ae q])) w.drew λw=>Q g w) (Q g w)) (ok 25) Sy [] Tryz.func127
def MS:=λa b w Q=>bB (Dm a b w Q) (wA b λc=>af .i64 c w λd=>wA a λe=>St (e.add 2) (ae d) w λw=>Q w) (ok 7) [] [] Tryz.func128
def Qv:=λa b c w Q=>bB (yS a b c w Q) (Bx [ae c] 3 w λd w=>sq a b (.func (.func 128) #[] #[.pointer (some d)]) w λe w=>Q e w) (ok 11) [] [] Tryz.func91
def JN:=λa b c w Q=>bB (sS a b c w Q) (cond a.isNone (Q 1 w) (wA a λd=>bp (d.add 3) w λe=>iQ e b w λf g i j w=>Al T 43 w λl w=>St (l.add 0) (ae f) w λw=>St (l.add 1) (ae g) w λw=>St (l.add 2) (ae i) w λw=>cond (!j) (Q 12 w) (pG a c w λm w=>cond (!m) (Q 7 w) (af .i64 (l.add 1) w λn=>m8 a 3 n c w λo w=>cond (o !=0) (af .i64 (l.add 0) w λp=>af .i64 (l.add 1) w λq=>af .i64 (l.add 2) w λr=>nK a p q r w λw=>Q o w) (wA a λs=>bp (s.add 3) w λt=>yS t b c w λu w=>Q 0 w))))) (ok 47) [] [] Tryz.func55
def Kq:=λa b w Q=>bB (tQ a b w Q) (cond a.isNone (Q 1 w) (wA a λc=>bp (c.add 3) w λd=>iQ d b w λe f g i w=>Al T 43 w λj w=>St (j.add 0) (ae e) w λw=>St (j.add 1) (ae f) w λw=>St (j.add 2) (ae g) w λw=>cond (!i) (Q 12 w) (af .i64 (j.add 0) w λl=>af .i64 (j.add 1) w λm=>af .i64 (j.add 2) w λn=>nK a l m n w λw=>Q 0 w))) (ok 23) [] [] Tryz.func56
def VQ:=λa w Q=>bB (wY a w Q) (cond a.isNone (Q 0 0 w) (wA a λb=>bp b w λc=>eL c w λd e w=>Q d e w)) (ok 13) [] [] Tryz.func131
def X8:=λa b c w Q=>bB (nk a b c w Q) (td a b c w λd e w=>cond (decide (d<0)) (Q (-1) w) (dY a b c w λf w=>n8 a b f w λg i w=>NZ 16<|NZ 16<|Q (IntKind.wrap .i64 ((IntKind.wrap .i64 ((Int.tmod e 16)*g))+(Int.tmod d 16))) w)) (ok 37) [] [] Tryz.func132
def rP (Q:Int->Int->L3 (Bool->WP))(R7:OA->Int->Addr->Int->Int->Int->Addr->Int->Int->WP)(a:OA)(b:Int)(c:Addr)(d e f:Int)(g:Addr)(i j:Int)(w:World):Prop:=cond (decide (j<i)) (om d e b (IntKind.wrap .i64 (j*f)) w λl w=>aA (g.add 2) w.drew λm n o=>wA a λp=>aA (p.add 2) w.drew λq r s=>cj q r s 1 (some l) (some (IntKind.wrap .i64 (l+f))) λt u v=>App P #[22,22] 22 (.slice m n o) (.slice t u v) w.drew λx y z w=>St (g.add 2) (.slice x y z) w λw=>R7 a b c d e f g i (IntKind.wrap .i64 (j+1)) w) (af .i64 (g.add 0) w λa1=>af .i64 (g.add 1) w λb1=>aA (g.add 2) w λc1 d1 e1=>St (c.add 0) (ae a1) w λw=>St (c.add 1) (ae b1) w λw=>St (c.add 2) (.slice c1 d1 e1) w λw=>af .i64 (c.add 0) w λf1=>af .i64 (c.add 1) w λg1=>aA (c.add 2) w λi1 j1 l1=>Q f1 g1 i1 j1 l1 true w)
def oy (Q:Int->Int->L3 (Bool->WP)):Nat->OA->Int->Addr->Int->Int->Int->Addr->Int->Int->WP
 |0,_,_,_,_,_,_,_,_,_,_=>False
 |k+1,a,b,c,d,e,f,g,i,j,w=>rP Q (oy Q k) a b c d e f g i j w
noncomputable def Hx:cm:=[(10,sp 0 12 (.op 12 (.op 13 (.op 14 .done))))]
def VR (Q):∀k,Bk 58 Tryz.f161 (I4 Q) 7 [(0,.p),(1,.i .i64),(4,.a),(6,.i .i64),(7,.i .i64),(8,.i .i64),(10,.a),(31,.i .i64),(32,.i .i64)] (oy Q k):=bH λk h=>aS (ok 58) Hx [aO h]
def Sz:=λa b w Q=>bB (tV a b w Q) (Al T 84 w λc w=>eL a w λd e w=>n8 d e b w λf g w=>cond (f==0) (St (c.add 0) (ae 0) w λw=>St (c.add 1) (ae 0) w λw=>St (c.add 2) (.slice none 0 0) w λw=>af .i64 (c.add 0) w λi=>af .i64 (c.add 1) w λj=>aA (c.add 2) w λl m n=>Q i j l m n false w) (Al T 84 w λo w=>St (o.add 0) (ae f) w λw=>St (o.add 1) (ae g) w λw=>St (o.add 2) (.slice none 0 0) w λw=>∃k',oy Q k' a b c d e f o g 0 w)) (ok 58) Hx [cg (VR Q)] Tryz.func161
def MT:=λa w Q=>bB (wB a w Q) (cond a.isNone (Q 0 w) (wA a λb=>af .i64 (b.add 1) w λc=>Q c w)) (ok 9) [] [] Tryz.func170
def VS:=λw Q=>bB (w_ w Q) (Al T 314 w λa w=>St (a.add 0) (ae 0) w λw=>St (a.add 1) (ae 1) w λw=>St (a.add 2) (ae 2) w λw=>St (a.add 3) (ae 3) w λw=>af .i64 (a.add 0) w λb=>af .i64 (a.add 1) w λc=>af .i64 (a.add 2) w λd=>af .i64 (a.add 3) w λe=>Q b c d e w) (ok 2) [] [] Tryz.func194
def nB (Q:Int->WP)(a b c d:Int)(w:World):Prop:=z6 a b c d w λe w=>Q e w
def xk (Q:Int->WP)(a b c d e:Int)(w:World):Prop:=nB Q a b c (IntKind.wrap .i64 (d+e)) w
def xl (Q:Int->WP)(a b c d e:Int)(w:World):Prop:=nB Q a b (IntKind.wrap .i64 (c+e)) d w
def Gr (Q):Bk 43 Tryz.f21 (CO Q) 16 [(0,.i .i64),(1,.i .i64),(9,.i .i64),(10,.i .i64)] (nB Q):=aS (ok 43) [] []
def abC (Q):Bk 43 Tryz.f21 (CO Q) 12 [(0,.i .i64),(1,.i .i64),(9,.i .i64),(10,.i .i64),(11,.i .i64)] (xk Q):=aS (ok 43) [] [aO (Gr Q)]
def abD (Q):Bk 43 Tryz.f21 (CO Q) 14 [(0,.i .i64),(1,.i .i64),(9,.i .i64),(10,.i .i64),(11,.i .i64)] (xl Q):=aS (ok 43) [] [aO (Gr Q)]
def ZK:=λa b c d w Q=>bB (n7 a b c d w Q) (td a b c w λe f w=>cond (decide (e<0)) (Q (-1) w) (cond (d==0) (xk Q a b e f (-1) w) (cond (d==2) (xk Q a b e f 1 w) (cond (d==3) (xl Q a b e f (-1) w) (cond (d==1) (xl Q a b e f 1 w) (cond (d==4) (nB Q a b e f w) (Q (-1) w))))))) (ok 43) [] [aO (abC Q),aO (abD Q),aO (Gr Q)] Tryz.func21
def X9:=λa b c d w Q=>bB (yy a b c d w Q) (n7 a b c d w λe w=>cond (decide (e<0)) (Q (-1) w) (dY a b e w λf w=>dY a b c w λg w=>cond (f==g) (Q (-1) w) (Q e w))) (ok 29) [] [] Tryz.func195
def tu (Q:L3 WP)(R10:L3 (Int->Int->Int->WP))(a:OA)(b c:Nat)(d e f:Int)(w:World):Prop:=cond (decide (f<e)) (Bx [ae (IntKind.wrap .i64 (d+f))] 3 w λg w=>App P #[29,29] 29 (.slice a b c) (.slice (some g) 1 1) w λi j l w=>R10 i j l d e (IntKind.wrap .i64 (f+1)) w) (Q a b c w)
def nq (Q:L3 WP):Nat->L3 (Int->Int->Int->WP)
 |0,_,_,_,_,_,_,_=>False
 |k+1,a,b,c,d,e,f,w=>tu Q (nq Q k) a b c d e f w
def tA (Q:L3 WP)(R16:Int->L3 (Int->Int->Int->WP))(a:Int)(b:OA)(c d:Nat)(e f g:Int)(w:World):Prop:=cond (decide (g<f)) (Bx [ae (IntKind.wrap .i64 (e+(IntKind.wrap .i64 (g*a))))] 3 w λi w=>App P #[29,29] 29 (.slice b c d) (.slice (some i) 1 1) w λj l m w=>R16 a j l m e f (IntKind.wrap .i64 (g+1)) w) (Q b c d w)
def nu (Q:L3 WP):Nat->Int->L3 (Int->Int->Int->WP)
 |0,_,_,_,_,_,_,_,_=>False
 |k+1,a,b,c,d,e,f,g,w=>tA Q (nu Q k) a b c d e f g w
def X_ (Q):∀k,Bk 51 Tryz.f222 (EZ Q) 10 [(7,.l),(8,.i .i64),(24,.i .i64),(25,.i .i64)] (nq Q k):=bH λk h=>aS (ok 51) [] [aO h]
def Ya (Q):∀k,Bk 51 Tryz.f222 (EZ Q) 16 [(0,.i .i64),(7,.l),(8,.i .i64),(37,.i .i64),(38,.i .i64)] (nu Q k):=bH λk h=>aS (ok 51) [] [aO h]
def VT:=λa b c w Q=>bB (B8 a b c w Q) (cond (c==2) (∃k',nq Q k' none 0 0 (IntKind.wrap .i64 ((IntKind.wrap .i64 (b-1))*a)) a 0 w) (cond (c==0) (∃k',nq Q k' none 0 0 0 a 0 w) (cond (c==1) (∃k',nu Q k' a none 0 0 (IntKind.wrap .i64 (a-1)) b 0 w) (cond (c==3) (∃k',nu Q k' a none 0 0 0 b 0 w) (Q none 0 0 w))))) (ok 51) [] [cg (X_ Q),cg (Ya Q)] Tryz.func222
def u7 (P4:Int->Int->Int->Int->Int->L3 (Int->Int->Int->Int->Int->WP))(Q:L3 WP)(R9:Int->Int->Int->Int->Int->L3 (Int->Int->Int->Int->Int->L3 (Int->Int->WP)))(a b c d e:Int)(f:OA)(g i:Nat)(j l m n o:Int)(p:OA)(q r:Nat)(s t:Int)(w:World):Prop:=cond (decide (t<s)) (aK t q<|wA p λu=>af .i64 (u.add (t.toNat*1)) w λv=>aK v g<|wA f λx=>St (x.add (v.toNat*1)) (.bool true) w λw=>R9 a b c d e f g i j l m n o p q r s (IntKind.wrap .i64 (t+1)) w) (P4 a b c d e f g i j l m n (IntKind.wrap .i64 (o+1)) w)
def qV (P4:Int->Int->Int->Int->Int->L3 (Int->Int->Int->Int->Int->WP))(Q:L3 WP):Nat->Int->Int->Int->Int->Int->L3 (Int->Int->Int->Int->Int->L3 (Int->Int->WP))
 |0,_,_,_,_,_,_,_,_,_,_,_,_,_,_,_,_,_,_,_=>False
 |k+1,a,b,c,d,e,f,g,i,j,l,m,n,o,p,q,r,s,t,w=>u7 P4 Q (qV P4 Q k) a b c d e f g i j l m n o p q r s t w
def tB (Q:L3 WP)(R16:Int->Int->Int->L3 (L3 (Int->Int->WP)))(a b c:Int)(d:OA)(e f:Nat)(g:OA)(i j:Nat)(l m:Int)(w:World):Prop:=cond (decide (m<l)) (aK m i<|wA g λn=>cQ (n.add (m.toNat*1)) w λo=>cond o (om a b c m w λp w=>Bx [ae p] 3 w λq w=>App P #[29,29] 29 (.slice d e f) (.slice (some q) 1 1) w λr s t w=>R16 a b c r s t g i j l (IntKind.wrap .i64 (m+1)) w) (R16 a b c d e f g i j l (IntKind.wrap .i64 (m+1)) w)) (Q d e f w)
def pY (Q:L3 WP):Nat->Int->Int->Int->L3 (L3 (Int->Int->WP))
 |0,_,_,_,_,_,_,_,_,_,_,_,_=>False
 |k+1,a,b,c,d,e,f,g,i,j,l,m,w=>tB Q (pY Q k) a b c d e f g i j l m w
def u9 (Q:L3 WP)(R4:Int->Int->Int->Int->Int->L3 (Int->Int->Int->Int->Int->WP))(a b c d e:Int)(f:OA)(g i:Nat)(j l m n o:Int)(w:World):Prop:=cond (decide (o<4)) (aK o 4<|IxV [ae j,ae l,ae m,ae n] o.toNat λp=>dI .i64 p λq=>B8 d e q w λr s t w=>cond ((s:Int)==0) (R4 a b c d e f g i j l m n (IntKind.wrap .i64 (o+1)) w) (aK 0 s<|wA r λu=>af .i64 (u.add (((0:Int).toNat)*1)) w λv=>om a b c v w λx w=>yy a b x q w λy w=>cond (decide (y<0)) (R4 a b c d e f g i j l m n (IntKind.wrap .i64 (o+1)) w) (∃k',qV R4 Q k' a b c d e f g i j l m n o r s t (s:Int) 0 w))) (∃k',pY Q k' a b c none 0 0 f g i (g:Int) 0 w)
def qW (Q:L3 WP):Nat->Int->Int->Int->Int->Int->L3 (Int->Int->Int->Int->Int->WP)
 |0,_,_,_,_,_,_,_,_,_,_,_,_,_,_=>False
 |k+1,a,b,c,d,e,f,g,i,j,l,m,n,o,w=>u9 Q (qW Q k) a b c d e f g i j l m n o w
def ZL {P4}(Q)(H4:Bk 83 Tryz.f192 (uY Q) 4 [(0,.i .i64),(1,.i .i64),(2,.i .i64),(7,.i .i64),(8,.i .i64),(9,.l),(29,.g [.i64,.i64,.i64,.i64]),(30,.i .i64)] P4):∀k,Bk 83 Tryz.f192 (uY Q) 9 [(0,.i .i64),(1,.i .i64),(2,.i .i64),(7,.i .i64),(8,.i .i64),(9,.l),(29,.g [.i64,.i64,.i64,.i64]),(30,.i .i64),(54,.l),(55,.i .i64),(56,.i .i64)] (qV P4 Q k):=bH λk h=>aS (ok 83) [] [aO H4,aO h]
def Yb (Q):∀k,Bk 83 Tryz.f192 (uY Q) 16 [(0,.i .i64),(1,.i .i64),(2,.i .i64),(15,.l),(65,.l),(66,.i .i64),(67,.i .i64)] (pY Q k):=bH λk h=>aS (ok 83) [] [aO h]
def ZM (Q):∀k,Bk 83 Tryz.f192 (uY Q) 4 [(0,.i .i64),(1,.i .i64),(2,.i .i64),(7,.i .i64),(8,.i .i64),(9,.l),(29,.g [.i64,.i64,.i64,.i64]),(30,.i .i64)] (qW Q k):=bH λk h=>aS (ok 83) [] [aO h,cg (ZL Q h),cg (Yb Q)]
def VU:=λa b c w Q=>bB (B6 a b c w Q) (n8 a b c w λd e w=>cO P 49 (ae (IntKind.wrap .i64 (d*e))) (ae (IntKind.wrap .i64 (d*e))) w λf g i w=>w_ w λj l m n w=>∃k',qW Q k' a b c d e f g i j l m n 0 w) (ok 83) [] [cg (ZM Q)] Tryz.func192
def Yc:=λa b w Q=>bB (tf a b w Q) (e9 a b w λc w=>cond (decide (c>0)) (Q (decide (c<255)) w) (Q false w)) (ok 15) [] [] Tryz.func193
def u_ (Q:L3 WP)(R4:OA->L3 (L3 (Int->Int->WP)))(a b:OA)(c d:Nat)(e:OA)(f g:Nat)(i j:Int)(w:World):Prop:=cond (decide (j<i)) (aK j f<|wA e λl=>af .i64 (l.add (j.toNat*1)) w λm=>tf a m w λn w=>cond n (Bx [ae m] 3 w λo w=>App P #[29,29] 29 (.slice b c d) (.slice (some o) 1 1) w λp q r w=>R4 a p q r e f g i (IntKind.wrap .i64 (j+1)) w) (R4 a b c d e f g i (IntKind.wrap .i64 (j+1)) w)) (Q b c d w)
def qX (Q:L3 WP):Nat->OA->L3 (L3 (Int->Int->WP))
 |0,_,_,_,_,_,_,_,_,_,_=>False
 |k+1,a,b,c,d,e,f,g,i,j,w=>u_ Q (qX Q k) a b c d e f g i j w
def ZN (Q):∀k,Bk 33 Tryz.f171 (Lo Q) 4 [(0,.p),(7,.l),(18,.l),(19,.i .i64),(20,.i .i64)] (qX Q k):=bH λk h=>aS (ok 33) [] [aO h]
def VV:=λa b w Q=>bB (oq a b w Q) (eL a w λc d w=>B6 c d b w λe f g w=>∃k',qX Q k' a none 0 0 e f g (f:Int) 0 w) (ok 33) [] [cg (ZN Q)] Tryz.func171
def vg (Q:L3 WP)(R6:OA->Int->Int->Int->L3 (Int->Int->Int->Int->Int->WP))(a:OA)(b c d:Int)(e:OA)(f g:Nat)(i j l m n:Int)(w:World):Prop:=cond (decide (n<4)) (aK n 4<|IxV [ae i,ae j,ae l,ae m] n.toNat λo=>dI .i64 o λp=>yy c d b p w λq w=>cond (decide (q≥0)) (tf a q w λr w=>cond r (e9 a q w λs w=>Bx [ae q,ae s] 292 w λt w=>App P #[289,289] 289 (.slice e f g) (.slice (some t) 1 1) w λu v x w=>R6 a b c d u v x i j l m (IntKind.wrap .i64 (n+1)) w) (R6 a b c d e f g i j l m (IntKind.wrap .i64 (n+1)) w)) (R6 a b c d e f g i j l m (IntKind.wrap .i64 (n+1)) w)) (Q e f g w)
def n9 (Q:L3 WP):Nat->OA->Int->Int->Int->L3 (Int->Int->Int->Int->Int->WP)
 |0,_,_,_,_,_,_,_,_,_,_,_,_,_=>False
 |k+1,a,b,c,d,e,f,g,i,j,l,m,n,w=>vg Q (n9 Q k) a b c d e f g i j l m n w
def ZO (Q):∀k,Bk 46 Tryz.f172 (Lp Q) 6 [(0,.p),(1,.i .i64),(5,.i .i64),(6,.i .i64),(7,.l),(20,.g [.i64,.i64,.i64,.i64]),(21,.i .i64)] (n9 Q k):=bH λk h=>aS (ok 46) [] [aO h]
def VW:=λa b w Q=>bB (B5 a b w Q) (eL a w λc d w=>tf a b w λe w=>cond (!e) (Q none 0 0 w) (w_ w λf g i j w=>∃k',n9 Q k' a b c d none 0 0 f g i j 0 w)) (ok 46) [] [cg (ZO Q)] Tryz.func172
def SA:=λa b w Q=>bB (z_ a b w Q) (cond a.isNone (Q 1099511627776 w) (cond (decide (b<0)) (Q 1099511627776 w) (wA a λc=>aA (c.add 2) w λd e f=>cond (decide (b≥(e:Int))) (Q 1099511627776 w) (wA a λg=>aA (g.add 2) w λi j l=>aK b j<|wA i λm=>af .i32 (m.add (b.toNat*1)) w λn=>cond (n==2147483647) (Q 1099511627776 w) (wA a λo=>aA (o.add 2) w λp q r=>aK b q<|wA p λs=>af .i32 (s.add (b.toNat*1)) w λt=>Q (IntKind.wrap .i64 t) w))))) (ok 38) [] [] Tryz.func173
def iD (Q:Int->WP)(R4:Int->Int->Int->Int->Int->WP)(a b c d e:Int)(w:World):Prop:=cond (decide (e<=4)) (n7 a b c e w λf w=>cond (f==d) (Q e w) (R4 a b c d (IntKind.wrap .i64 (e+1)) w)) (Q 5 w)
def mX (Q:Int->WP):Nat->Int->Int->Int->Int->Int->WP
 |0,_,_,_,_,_,_=>False
 |k+1,a,b,c,d,e,w=>iD Q (mX Q k) a b c d e w
def adM (Q):∀k,Bk 34 Tryz.f174 (PX Q) 4 [(0,.i .i64),(1,.i .i64),(2,.i .i64),(3,.i .i64),(9,.i .i64)] (mX Q k):=bH λk h=>aS (ok 34) [] [aO h]
def ZP:=λa b c d w Q=>bB (EW a b c d w Q) (yQ a b c w λe w=>cond (!e) (Q 5 w) (yQ a b d w λf w=>cond (!f) (Q 5 w) (∃k',mX Q k' a b c d 0 w))) (ok 34) [] [cg (adM Q)] Tryz.func174
def OR:=λa w Q=>bB (xY a w Q) (cond a.isNone (Q (-1) w) (wA a λb=>af .i64 b w λc=>Q c w)) (ok 9) [] [] Tryz.func175
def Cd:=λa b c w Q=>bB (ji a b c w Q) (cond a.isNone (Q none 0 0 w) (Bx [] 294 w λd w=>App P #[278,278] 278 (.slice (some d) 0 0) (.slice a b c) w λe f g w=>Q e f g w)) (ok 8) [] [] Tryz.func185
def fL (P1:L3 (Int->Int->Value->Int->WP))(Q:WP)(R4:L3 (Int->Int->Value->Int->Int->WP))(a:OA)(b c:Nat)(d e:Int)(f:Value)(g i:Int)(w:World):Prop:=cond (decide (i>d)) (aK i b<|wA a λj=>af .i64 ((j.add (i.toNat*3)).add 0) w.drew λl=>af .i64 ((j.add (i.toNat*3)).add 1) w.drew λm=>af .i64 ((j.add (i.toNat*3)).add 2) w.drew λn=>aK (IntKind.wrap .i64 (i-1)) b<|wA a λo=>af .i64 ((o.add (((IntKind.wrap .i64 (i-1))).toNat*3)).add 0) w.drew λp=>af .i64 ((o.add (((IntKind.wrap .i64 (i-1))).toNat*3)).add 1) w.drew λq=>af .i64 ((o.add (((IntKind.wrap .i64 (i-1))).toNat*3)).add 2) w.drew λr=>ik (cx 53) f [.agg #[ae l,ae m,ae n],.agg #[ae p,ae q,ae r]] w.drew λs w=>dI .i64 s λt=>cond (decide (t<0)) (aK (IntKind.wrap .i64 (i-1)) b<|wA a λu=>af .i64 ((u.add (((IntKind.wrap .i64 (i-1))).toNat*3)).add 0) w.drew λv=>af .i64 ((u.add (((IntKind.wrap .i64 (i-1))).toNat*3)).add 1) w.drew λx=>af .i64 ((u.add (((IntKind.wrap .i64 (i-1))).toNat*3)).add 2) w.drew λy=>aK i b<|wA a λz=>af .i64 ((z.add (i.toNat*3)).add 0) w.drew λa1=>af .i64 ((z.add (i.toNat*3)).add 1) w.drew λb1=>af .i64 ((z.add (i.toNat*3)).add 2) w.drew λc1=>aK i b<|wA a λd1=>St ((d1.add (i.toNat*3)).add 0) (ae v) w.drew λw=>St ((d1.add (i.toNat*3)).add 1) (ae x) w λw=>St ((d1.add (i.toNat*3)).add 2) (ae y) w λw=>aK (IntKind.wrap .i64 (i-1)) b<|wA a λe1=>St ((e1.add (((IntKind.wrap .i64 (i-1))).toNat*3)).add 0) (ae a1) w λw=>St ((e1.add (((IntKind.wrap .i64 (i-1))).toNat*3)).add 1) (ae b1) w λw=>St ((e1.add (((IntKind.wrap .i64 (i-1))).toNat*3)).add 2) (ae c1) w λw=>R4 a b c d e f g (IntKind.wrap .i64 (i-1)) w) (P1 a b c d e f (IntKind.wrap .i64 (g+1)) w)) (P1 a b c d e f (IntKind.wrap .i64 (g+1)) w.drew)
def eM (P1:L3 (Int->Int->Value->Int->WP))(Q:WP):Nat->L3 (Int->Int->Value->Int->Int->WP)
 |0,_,_,_,_,_,_,_,_,_=>False
 |k+1,a,b,c,d,e,f,g,i,w=>fL P1 Q (eM P1 Q k) a b c d e f g i w
def fN (Q:WP)(R1:L3 (Int->Int->Value->Int->WP))(a:OA)(b c:Nat)(d e:Int)(f:Value)(g:Int)(w:World):Prop:=cond (decide (g<e)) (∃k',eM R1 Q k' a b c d e f g g w) (Q w)
def eN (Q:WP):Nat->L3 (Int->Int->Value->Int->WP)
 |0,_,_,_,_,_,_,_,_=>False
 |k+1,a,b,c,d,e,f,g,w=>fN Q (eN Q k) a b c d e f g w
noncomputable def j9:cm:=[(4,sp 0 14 (.op 14 (sp 15 2 .done))),(6,sp 0 15 (.op 15 (.op 16 (.op 17 .done))))]
def Ai {P1}(Q)(H1:Bk 53 Tryz.f243 (ir Q) 1 [(0,.l),(1,.i .i64),(2,.i .i64),(3,.v),(8,.i .i64)] P1):∀k,Bk 53 Tryz.f243 (ir Q) 4 [(0,.l),(1,.i .i64),(2,.i .i64),(3,.v),(8,.i .i64),(9,.i .i64)] (eM P1 Q k):=bH λk h=>aS (ok 53) j9 [aO H1,aO h]
def Aj (Q):∀k,Bk 53 Tryz.f243 (ir Q) 1 [(0,.l),(1,.i .i64),(2,.i .i64),(3,.v),(8,.i .i64)] (eN Q k):=bH λk h=>aS (ok 53) j9 [cg (Ai Q h)]
def zl:=λa b c d e f w Q=>bB (jM a b c d e f w Q) (∃k',eN Q k' a b c d e f (IntKind.wrap .i64 (d+1)) w) (ok 53) j9 [cg (Aj Q)] Tryz.func243
def fF (P1:L3 (Int->Int->Value->Int->WP))(Q:WP)(a:OA)(b c:Nat)(d e:Int)(f:Value)(g i:Int)(w:World):Prop:=aK (IntKind.wrap .i64 (e+g)) b<|wA a λj=>af .i64 ((j.add (((IntKind.wrap .i64 (e+g))).toNat*3)).add 0) w.drew λl=>af .i64 ((j.add (((IntKind.wrap .i64 (e+g))).toNat*3)).add 1) w.drew λm=>af .i64 ((j.add (((IntKind.wrap .i64 (e+g))).toNat*3)).add 2) w.drew λn=>aK (IntKind.wrap .i64 (e+i)) b<|wA a λo=>af .i64 ((o.add (((IntKind.wrap .i64 (e+i))).toNat*3)).add 0) w.drew λp=>af .i64 ((o.add (((IntKind.wrap .i64 (e+i))).toNat*3)).add 1) w.drew λq=>af .i64 ((o.add (((IntKind.wrap .i64 (e+i))).toNat*3)).add 2) w.drew λr=>ik (cx 82) f [.agg #[ae l,ae m,ae n],.agg #[ae p,ae q,ae r]] w.drew λs w=>dI .i64 s λt=>cond (!(decide (t<0))) (Q w) (aK (IntKind.wrap .i64 (e+i)) b<|wA a λu=>af .i64 ((u.add (((IntKind.wrap .i64 (e+i))).toNat*3)).add 0) w.drew λv=>af .i64 ((u.add (((IntKind.wrap .i64 (e+i))).toNat*3)).add 1) w.drew λx=>af .i64 ((u.add (((IntKind.wrap .i64 (e+i))).toNat*3)).add 2) w.drew λy=>aK (IntKind.wrap .i64 (e+g)) b<|wA a λz=>af .i64 ((z.add (((IntKind.wrap .i64 (e+g))).toNat*3)).add 0) w.drew λa1=>af .i64 ((z.add (((IntKind.wrap .i64 (e+g))).toNat*3)).add 1) w.drew λb1=>af .i64 ((z.add (((IntKind.wrap .i64 (e+g))).toNat*3)).add 2) w.drew λc1=>aK (IntKind.wrap .i64 (e+g)) b<|wA a λd1=>St ((d1.add (((IntKind.wrap .i64 (e+g))).toNat*3)).add 0) (ae v) w.drew λw=>St ((d1.add (((IntKind.wrap .i64 (e+g))).toNat*3)).add 1) (ae x) w λw=>St ((d1.add (((IntKind.wrap .i64 (e+g))).toNat*3)).add 2) (ae y) w λw=>aK (IntKind.wrap .i64 (e+i)) b<|wA a λe1=>St ((e1.add (((IntKind.wrap .i64 (e+i))).toNat*3)).add 0) (ae a1) w λw=>St ((e1.add (((IntKind.wrap .i64 (e+i))).toNat*3)).add 1) (ae b1) w λw=>St ((e1.add (((IntKind.wrap .i64 (e+i))).toNat*3)).add 2) (ae c1) w λw=>P1 a b c d e f i w)
def gS (Q:WP)(R1:L3 (Int->Int->Value->Int->WP))(a:OA)(b c:Nat)(d e:Int)(f:Value)(g:Int)(w:World):Prop:=cond (decide ((IntKind.wrap .i64 ((IntKind.wrap .i64 (2*g))+1))≥d)) (Q w) (cond (decide ((IntKind.wrap .i64 ((IntKind.wrap .i64 ((IntKind.wrap .i64 (2*g))+1))+1))<d)) (aK (IntKind.wrap .i64 (e+(IntKind.wrap .i64 ((IntKind.wrap .i64 (2*g))+1)))) b<|wA a λi=>af .i64 ((i.add (((IntKind.wrap .i64 (e+(IntKind.wrap .i64 ((IntKind.wrap .i64 (2*g))+1))))).toNat*3)).add 0) w.drew λj=>af .i64 ((i.add (((IntKind.wrap .i64 (e+(IntKind.wrap .i64 ((IntKind.wrap .i64 (2*g))+1))))).toNat*3)).add 1) w.drew λl=>af .i64 ((i.add (((IntKind.wrap .i64 (e+(IntKind.wrap .i64 ((IntKind.wrap .i64 (2*g))+1))))).toNat*3)).add 2) w.drew λm=>aK (IntKind.wrap .i64 ((IntKind.wrap .i64 (e+(IntKind.wrap .i64 ((IntKind.wrap .i64 (2*g))+1))))+1)) b<|wA a λn=>af .i64 ((n.add (((IntKind.wrap .i64 ((IntKind.wrap .i64 (e+(IntKind.wrap .i64 ((IntKind.wrap .i64 (2*g))+1))))+1))).toNat*3)).add 0) w.drew λo=>af .i64 ((n.add (((IntKind.wrap .i64 ((IntKind.wrap .i64 (e+(IntKind.wrap .i64 ((IntKind.wrap .i64 (2*g))+1))))+1))).toNat*3)).add 1) w.drew λp=>af .i64 ((n.add (((IntKind.wrap .i64 ((IntKind.wrap .i64 (e+(IntKind.wrap .i64 ((IntKind.wrap .i64 (2*g))+1))))+1))).toNat*3)).add 2) w.drew λq=>ik (cx 82) f [.agg #[ae j,ae l,ae m],.agg #[ae o,ae p,ae q]] w.drew λr w=>dI .i64 r λs=>cond (decide (s<0)) (fF R1 Q a b c d e f g (IntKind.wrap .i64 ((IntKind.wrap .i64 ((IntKind.wrap .i64 (2*g))+1))+1)) w) (fF R1 Q a b c d e f g (IntKind.wrap .i64 ((IntKind.wrap .i64 (2*g))+1)) w)) (fF R1 Q a b c d e f g (IntKind.wrap .i64 ((IntKind.wrap .i64 (2*g))+1)) w.drew))
def eO (Q:WP):Nat->L3 (Int->Int->Value->Int->WP)
 |0,_,_,_,_,_,_,_,_=>False
 |k+1,a,b,c,d,e,f,g,w=>gS Q (eO Q k) a b c d e f g w
noncomputable def mg:cm:=[(3,sp 0 19 (.op 19 (sp 20 2 .done))),(5,sp 0 13 (.op 13 (sp 14 2 .done))),(6,sp 0 21 (.op 21 (.op 22 (.op 23 .done))))]
def CY {P1}(Q)(H1:Bk 82 Tryz.f265 (jw Q) 1 [(0,.l),(2,.i .i64),(3,.i .i64),(4,.v),(10,.i .i64)] P1):Bk 82 Tryz.f265 (jw Q) 5 [(0,.l),(2,.i .i64),(3,.i .i64),(4,.v),(10,.i .i64),(11,.i .i64)] (fF P1 Q):=aS (ok 82) mg [aO H1]
def CZ (Q):∀k,Bk 82 Tryz.f265 (jw Q) 1 [(0,.l),(2,.i .i64),(3,.i .i64),(4,.v),(10,.i .i64)] (eO Q k):=bH λk h=>aS (ok 82) mg [aO (CY Q h)]
def BF:=λa b c d e f g w Q=>bB (iZ a b c d e f g w Q) (∃k',eO Q k' a b c e f g d w) (ok 82) mg [cg (CZ Q)] Tryz.func265
def gT (Q:WP)(R8:L3 (Value->Int->Int->Int->WP))(a:OA)(b c:Nat)(d:Value)(e f g:Int)(w:World):Prop:=cond (decide (g≥0)) (aK (IntKind.wrap .i64 (e+g)) b<|wA a λi=>af .i64 ((i.add (((IntKind.wrap .i64 (e+g))).toNat*3)).add 0) w.drew λj=>af .i64 ((i.add (((IntKind.wrap .i64 (e+g))).toNat*3)).add 1) w.drew λl=>af .i64 ((i.add (((IntKind.wrap .i64 (e+g))).toNat*3)).add 2) w.drew λm=>aK e b<|wA a λn=>af .i64 ((n.add (e.toNat*3)).add 0) w.drew λo=>af .i64 ((n.add (e.toNat*3)).add 1) w.drew λp=>af .i64 ((n.add (e.toNat*3)).add 2) w.drew λq=>aK e b<|wA a λr=>St ((r.add (e.toNat*3)).add 0) (ae j) w.drew λw=>St ((r.add (e.toNat*3)).add 1) (ae l) w λw=>St ((r.add (e.toNat*3)).add 2) (ae m) w λw=>aK (IntKind.wrap .i64 (e+g)) b<|wA a λs=>St ((s.add (((IntKind.wrap .i64 (e+g))).toNat*3)).add 0) (ae o) w λw=>St ((s.add (((IntKind.wrap .i64 (e+g))).toNat*3)).add 1) (ae p) w λw=>St ((s.add (((IntKind.wrap .i64 (e+g))).toNat*3)).add 2) (ae q) w λw=>iZ a b c f g e d w λw=>R8 a b c d e f (IntKind.wrap .i64 (g-1)) w) (Q w)
def fG (Q:WP):Nat->L3 (Value->Int->Int->Int->WP)
 |0,_,_,_,_,_,_,_,_=>False
 |k+1,a,b,c,d,e,f,g,w=>gT Q (fG Q k) a b c d e f g w
def gU (Q:WP)(R4:L3 (Value->Int->Int->Int->Int->WP))(a:OA)(b c:Nat)(d:Value)(e f g i:Int)(w:World):Prop:=cond (decide (i≥0)) (iZ a b c i g e d w λw=>R4 a b c d e f g (IntKind.wrap .i64 (i-1)) w) (∃k',fG Q k' a b c d e f (IntKind.wrap .i64 (g-1)) w)
def fH (Q:WP):Nat->L3 (Value->Int->Int->Int->Int->WP)
 |0,_,_,_,_,_,_,_,_,_=>False
 |k+1,a,b,c,d,e,f,g,i,w=>gU Q (fH Q k) a b c d e f g i w
noncomputable def mj:cm:=[(10,sp 0 17 (.op 17 (.op 18 (.op 19 .done))))]
def C0 (Q):∀k,Bk 60 Tryz.f244 (mU Q) 8 [(0,.l),(3,.v),(8,.i .i64),(9,.i .i64),(12,.i .i64)] (fG Q k):=bH λk h=>aS (ok 60) mj [aO h]
def C1 (Q):∀k,Bk 60 Tryz.f244 (mU Q) 4 [(0,.l),(3,.v),(8,.i .i64),(9,.i .i64),(10,.i .i64),(11,.i .i64)] (fH Q k):=bH λk h=>aS (ok 60) mj [aO h,cg (C0 Q)]
def BG:=λa b c d e f w Q=>bB (lQ a b c d e f w Q) (NZ 2<|∃k',fH Q k' a b c f d 0 (IntKind.wrap .i64 (e-d)) (IntKind.wrap .i64 (Int.tdiv (IntKind.wrap .i64 ((IntKind.wrap .i64 (e-d))-1)) 2)) w) (ok 60) mj [cg (C1 Q)] Tryz.func244
def uo (Q:Int->WP)(a b:Int)(w:World):Prop:=aK (IntKind.wrap .u8 a) (ByteArray.mk ((#[0,1,2,2,3,3,3,3,4,4,4,4,4,4,4,4,5,5,5,5,5,5,5,5,5,5,5,5,5,5,5,5,6,6,6,6,6,6,6,6,6,6,6,6,6,6,6,6,6,6,6,6,6,6,6,6,6,6,6,6,6,6,6,6]++#[7,7,7,7,7,7,7,7,7,7,7,7,7,7,7,7,7,7,7,7,7,7,7,7,7,7,7,7,7,7,7,7,7,7,7,7,7,7,7,7,7,7,7,7,7,7,7,7,7,7,7,7,7,7,7,7,7,7,7,7,7,7,7,7])++(#[8,8,8,8,8,8,8,8,8,8,8,8,8,8,8,8,8,8,8,8,8,8,8,8,8,8,8,8,8,8,8,8,8,8,8,8,8,8,8,8,8,8,8,8,8,8,8,8,8,8,8,8,8,8,8,8,8,8,8,8,8,8,8,8]++#[8,8,8,8,8,8,8,8,8,8,8,8,8,8,8,8,8,8,8,8,8,8,8,8,8,8,8,8,8,8,8,8,8,8,8,8,8,8,8,8,8,8,8,8,8,8,8,8,8,8,8,8,8,8,8,8,8,8,8,8,8,8,8,8]))).size<|Q (IntKind.wrap .i64 (b+(IntKind.wrap .i64 (sb (ByteArray.mk ((#[0,1,2,2,3,3,3,3,4,4,4,4,4,4,4,4,5,5,5,5,5,5,5,5,5,5,5,5,5,5,5,5,6,6,6,6,6,6,6,6,6,6,6,6,6,6,6,6,6,6,6,6,6,6,6,6,6,6,6,6,6,6,6,6]++#[7,7,7,7,7,7,7,7,7,7,7,7,7,7,7,7,7,7,7,7,7,7,7,7,7,7,7,7,7,7,7,7,7,7,7,7,7,7,7,7,7,7,7,7,7,7,7,7,7,7,7,7,7,7,7,7,7,7,7,7,7,7,7,7])++(#[8,8,8,8,8,8,8,8,8,8,8,8,8,8,8,8,8,8,8,8,8,8,8,8,8,8,8,8,8,8,8,8,8,8,8,8,8,8,8,8,8,8,8,8,8,8,8,8,8,8,8,8,8,8,8,8,8,8,8,8,8,8,8,8]++#[8,8,8,8,8,8,8,8,8,8,8,8,8,8,8,8,8,8,8,8,8,8,8,8,8,8,8,8,8,8,8,8,8,8,8,8,8,8,8,8,8,8,8,8,8,8,8,8,8,8,8,8,8,8,8,8,8,8,8,8,8,8,8,8]))) (((IntKind.wrap .u8 a)).toNat))))) w
def vM (Q:Int->WP)(a b:Int)(w:World):Prop:=cond (decide (a≥256)) (DW 8<|uo Q (o_ .u64 a 8) (IntKind.wrap .i64 (b+8)) w) (uo Q a b w)
def vN (Q:Int->WP)(a b:Int)(w:World):Prop:=cond (decide (a≥65536)) (DW 16<|vM Q (o_ .u64 a 16) (IntKind.wrap .i64 (b+16)) w) (vM Q a b w)
def SB (Q):Bk 25 Tryz.f252 (vJ Q) 10 [(0,.i .u64),(2,.i .i64)] (uo Q):=aS (ok 25) [] []
def UE (Q):Bk 25 Tryz.f252 (vJ Q) 7 [(0,.i .u64),(2,.i .i64)] (vM Q):=aS (ok 25) [] [aO (SB Q)]
def UF (Q):Bk 25 Tryz.f252 (vJ Q) 4 [(0,.i .u64),(2,.i .i64)] (vN Q):=aS (ok 25) [] [aO (UE Q)]
def Qw:=λa w Q=>bB (Fx a w Q) (cond (decide (a≥4294967296)) (DW 32<|vN Q (o_ .u64 a 32) 32 w) (vN Q a 0 w)) (ok 25) [] [aO (UF Q)] Tryz.func252
def UG:=λa w Q=>bB (vH a w Q) (Fx a w λb w=>Q b w) (ok 8) [] [] Tryz.func224
def I9:=λa w Q=>bB (zQ a w Q) (vH (IntKind.wrap .u64 a) w λb w=>DW b<|Q (BL .u64 1 b) w) (ok 7) [] [] Tryz.func266
noncomputable def Kr:cm:=[(1,sp 0 9 (.op 9 .done)),(2,sp 0 9 (.op 9 .done)),(3,sp 0 9 (.op 9 .done))]
def JO:=λa w Q=>bB (sV a w Q) (wA a λb=>af .u64 b w.drew λc=>wA a λd=>af .u64 d w.drew λe=>DW 13<|wA a λf=>St f (.int .u64 (ahh .u64 c (BL .u64 e 13))) w.drew λw=>wA a λg=>af .u64 g w.drew λi=>wA a λj=>af .u64 j w.drew λl=>DW 7<|wA a λm=>St m (.int .u64 (ahh .u64 i (o_ .u64 l 7))) w.drew λw=>wA a λn=>af .u64 n w.drew λo=>wA a λp=>af .u64 p w.drew λq=>DW 17<|wA a λr=>St r (.int .u64 (ahh .u64 o (BL .u64 q 17))) w.drew λw=>wA a λs=>af .u64 s w λt=>Q t w) (ok 33) Kr [] Tryz.func267
def fB (P5:L3 (Int->Int->Addr->Int->Int->WP))(Q:WP)(a:OA)(b c:Nat)(d e:Int)(f:Addr)(g i j:Int)(w:World):Prop:=aK (IntKind.wrap .i64 (d+j)) b<|wA a λl=>af .i64 ((l.add (((IntKind.wrap .i64 (d+j))).toNat*3)).add 0) w.drew λm=>af .i64 ((l.add (((IntKind.wrap .i64 (d+j))).toNat*3)).add 1) w.drew λn=>af .i64 ((l.add (((IntKind.wrap .i64 (d+j))).toNat*3)).add 2) w.drew λo=>aK i b<|wA a λp=>af .i64 ((p.add (i.toNat*3)).add 0) w.drew λq=>af .i64 ((p.add (i.toNat*3)).add 1) w.drew λr=>af .i64 ((p.add (i.toNat*3)).add 2) w.drew λs=>aK i b<|wA a λt=>St ((t.add (i.toNat*3)).add 0) (ae m) w.drew λw=>St ((t.add (i.toNat*3)).add 1) (ae n) w λw=>St ((t.add (i.toNat*3)).add 2) (ae o) w λw=>aK (IntKind.wrap .i64 (d+j)) b<|wA a λu=>St ((u.add (((IntKind.wrap .i64 (d+j))).toNat*3)).add 0) (ae q) w λw=>St ((u.add (((IntKind.wrap .i64 (d+j))).toNat*3)).add 1) (ae r) w λw=>St ((u.add (((IntKind.wrap .i64 (d+j))).toNat*3)).add 2) (ae s) w λw=>P5 a b c d e f g (IntKind.wrap .i64 (i+1)) w
def kI (Q:WP)(R5:L3 (Int->Int->Addr->Int->Int->WP))(a:OA)(b c:Nat)(d e:Int)(f:Addr)(g i:Int)(w:World):Prop:=NZ 4<|cond (decide (i<=(IntKind.wrap .i64 ((IntKind.wrap .i64 (d+(IntKind.wrap .i64 ((IntKind.wrap .i64 (Int.tdiv e 4))*2))))+1)))) (sV (some f) w λj w=>cond (decide ((IntKind.wrap .i64 (BK .u64 j (IntKind.wrap .u64 (g-1))))≥e)) (fB R5 Q a b c d e f g i (IntKind.wrap .i64 ((IntKind.wrap .i64 (BK .u64 j (IntKind.wrap .u64 (g-1))))-e)) w) (fB R5 Q a b c d e f g i (IntKind.wrap .i64 (BK .u64 j (IntKind.wrap .u64 (g-1)))) w)) (Q w)
def dG (Q:WP):Nat->L3 (Int->Int->Addr->Int->Int->WP)
 |0,_,_,_,_,_,_,_,_,_=>False
 |k+1,a,b,c,d,e,f,g,i,w=>kI Q (dG Q k) a b c d e f g i w
noncomputable def j_:cm:=[(10,sp 0 17 (.op 17 (.op 18 (.op 19 .done))))]
def zL {P5}(Q)(H5:Bk 67 Tryz.f245 (iv Q) 5 [(0,.l),(1,.i .i64),(8,.i .i64),(9,.a),(10,.i .u64),(11,.i .i64)] P5):Bk 67 Tryz.f245 (iv Q) 10 [(0,.l),(1,.i .i64),(8,.i .i64),(9,.a),(10,.i .u64),(11,.i .i64),(12,.i .i64)] (fB P5 Q):=aS (ok 67) j_ [aO H5]
def Ak (Q):∀k,Bk 67 Tryz.f245 (iv Q) 5 [(0,.l),(1,.i .i64),(8,.i .i64),(9,.a),(10,.i .u64),(11,.i .i64)] (dG Q k):=bH λk h=>aS (ok 67) j_ [aO (zL Q h)]
def zm:=λa b c d e f w Q=>bB (jN a b c d e f w Q) (cond (decide ((IntKind.wrap .i64 (e-d))≥8)) (Al T 390 w λg w=>St g (.int .u64 (IntKind.wrap .u64 (IntKind.wrap .i64 (e-d)))) w λw=>zQ (IntKind.wrap .i64 (e-d)) w λi w=>NZ 4<|∃k',dG Q k' a b c d (IntKind.wrap .i64 (e-d)) g i (IntKind.wrap .i64 ((IntKind.wrap .i64 (d+(IntKind.wrap .i64 ((IntKind.wrap .i64 (Int.tdiv (IntKind.wrap .i64 (e-d)) 4))*2))))-1)) w) (Q w)) (ok 67) j_ [cg (Ak Q)] Tryz.func245
noncomputable def DI:cm:=[(1,sp 0 9 (.op 9 (.op 10 .done)))]
def C2:=λa b c d e f g w Q=>bB (gR a b c d e f g w Q) (aK e b<|wA a λi=>af .i64 ((i.add (e.toNat*3)).add 0) w.drew λj=>af .i64 ((i.add (e.toNat*3)).add 1) w.drew λl=>af .i64 ((i.add (e.toNat*3)).add 2) w.drew λm=>aK d b<|wA a λn=>af .i64 ((n.add (d.toNat*3)).add 0) w.drew λo=>af .i64 ((n.add (d.toNat*3)).add 1) w.drew λp=>af .i64 ((n.add (d.toNat*3)).add 2) w.drew λq=>ik (cx 32) g [.agg #[ae j,ae l,ae m],.agg #[ae o,ae p,ae q]] w.drew λr w=>dI .i64 r λs=>cond (decide (s<0)) (wA f λt=>af .i64 t w λu=>wA f λv=>St v (ae (IntKind.wrap .i64 (u+1))) w λw=>Q e d w) (Q d e w)) (ok 32) DI [] Tryz.func278
def C3:=λa b c d e f g i w Q=>bB (jx a b c d e f g i w Q) (gR a b c d e g i w λj l w=>gR a b c l f g i w λm n w=>gR a b c j m g i w λo p w=>Q p w) (ok 41) [] [] Tryz.func269
def ym:=λa b c d e f w Q=>bB (ff a b c d e f w Q) (jx a b c (IntKind.wrap .i64 (d-1)) d (IntKind.wrap .i64 (d+1)) e f w λg w=>Q g w) (ok 18) [] [] Tryz.func268
def iE (Q:Int->Int->WP)(a:Addr)(b:Int)(w:World):Prop:=af .i64 a w λc=>cond (c==0) (Q b 1 w) (cond (c==12) (Q b 2 w) (Q b 0 w))
def iF (Q:Int->Int->WP)(a:OA)(b c:Nat)(d:Value)(e:Addr)(f g i:Int)(w:World):Prop:=jx a b c f g i (some e) d w λj w=>iE Q e j w
def qh (Q):Bk 63 Tryz.f246 (lz Q) 12 [(11,.a),(13,.i .i64)] (iE Q):=aS (ok 63) [] []
def AO (Q):Bk 63 Tryz.f246 (lz Q) 11 [(0,.l),(3,.v),(11,.a),(12,.i .i64),(13,.i .i64),(14,.i .i64)] (iF Q):=aS (ok 63) [] [aO (qh Q)]
def Am:=λa b c d e f w Q=>bB (kH a b c d e f w Q) (Al T 3 w λg w=>NZ 4<|NZ 4<|NZ 4<|cond (decide ((IntKind.wrap .i64 (e-d))≥8)) (cond (decide ((IntKind.wrap .i64 (e-d))≥50)) (ff a b c (IntKind.wrap .i64 (d+(IntKind.wrap .i64 ((IntKind.wrap .i64 (Int.tdiv (IntKind.wrap .i64 (e-d)) 4))*1)))) (some g) f w λi w=>ff a b c (IntKind.wrap .i64 (d+(IntKind.wrap .i64 ((IntKind.wrap .i64 (Int.tdiv (IntKind.wrap .i64 (e-d)) 4))*2)))) (some g) f w λj w=>ff a b c (IntKind.wrap .i64 (d+(IntKind.wrap .i64 ((IntKind.wrap .i64 (Int.tdiv (IntKind.wrap .i64 (e-d)) 4))*3)))) (some g) f w λl w=>iF Q a b c f g i j l w) (iF Q a b c f g (IntKind.wrap .i64 (d+(IntKind.wrap .i64 ((IntKind.wrap .i64 (Int.tdiv (IntKind.wrap .i64 (e-d)) 4))*1)))) (IntKind.wrap .i64 (d+(IntKind.wrap .i64 ((IntKind.wrap .i64 (Int.tdiv (IntKind.wrap .i64 (e-d)) 4))*2)))) (IntKind.wrap .i64 (d+(IntKind.wrap .i64 ((IntKind.wrap .i64 (Int.tdiv (IntKind.wrap .i64 (e-d)) 4))*3)))) w)) (iE Q g (IntKind.wrap .i64 (d+(IntKind.wrap .i64 ((IntKind.wrap .i64 (Int.tdiv (IntKind.wrap .i64 (e-d)) 4))*2)))) w)) (ok 63) [] [aO (AO Q),aO (qh Q)] Tryz.func246
def fU (Q:WP)(R2:L3 (Int->Int->WP))(a:OA)(b c:Nat)(d e:Int)(w:World):Prop:=cond (decide (d<e)) (aK e b<|wA a λf=>af .i64 ((f.add (e.toNat*3)).add 0) w.drew λg=>af .i64 ((f.add (e.toNat*3)).add 1) w.drew λi=>af .i64 ((f.add (e.toNat*3)).add 2) w.drew λj=>aK d b<|wA a λl=>af .i64 ((l.add (d.toNat*3)).add 0) w.drew λm=>af .i64 ((l.add (d.toNat*3)).add 1) w.drew λn=>af .i64 ((l.add (d.toNat*3)).add 2) w.drew λo=>aK d b<|wA a λp=>St ((p.add (d.toNat*3)).add 0) (ae g) w.drew λw=>St ((p.add (d.toNat*3)).add 1) (ae i) w λw=>St ((p.add (d.toNat*3)).add 2) (ae j) w λw=>aK e b<|wA a λq=>St ((q.add (e.toNat*3)).add 0) (ae m) w λw=>St ((q.add (e.toNat*3)).add 1) (ae n) w λw=>St ((q.add (e.toNat*3)).add 2) (ae o) w λw=>R2 a b c (IntKind.wrap .i64 (d+1)) (IntKind.wrap .i64 (e-1)) w) (Q w)
def eU (Q:WP):Nat->L3 (Int->Int->WP)
 |0,_,_,_,_,_,_=>False
 |k+1,a,b,c,d,e,w=>fU Q (eU Q k) a b c d e w
noncomputable def pM:cm:=[(3,sp 0 13 (.op 13 (.op 14 (.op 15 .done))))]
def AP (Q):∀k,Bk 34 Tryz.f247 (qe Q) 2 [(0,.l),(8,.i .i64),(9,.i .i64)] (eU Q k):=bH λk h=>aS (ok 34) pM [aO h]
def zM:=λa b c d e f w Q=>bB (j8 a b c d e f w Q) (∃k',eU Q k' a b c d (IntKind.wrap .i64 (e-1)) w) (ok 34) pM [cg (AP Q)] Tryz.func247
def eB (P3:L3 (Int->Int->Value->Int->Int->WP))(Q:Bool->WP)(R20:L3 (Int->Int->Value->Int->Int->Int->WP))(a:OA)(b c:Nat)(d e:Int)(f:Value)(g i j:Int)(w:World):Prop:=cond (decide (j<e)) (aK j b<|wA a λl=>af .i64 ((l.add (j.toNat*3)).add 0) w.drew λm=>af .i64 ((l.add (j.toNat*3)).add 1) w.drew λn=>af .i64 ((l.add (j.toNat*3)).add 2) w.drew λo=>aK (IntKind.wrap .i64 (j-1)) b<|wA a λp=>af .i64 ((p.add (((IntKind.wrap .i64 (j-1))).toNat*3)).add 0) w.drew λq=>af .i64 ((p.add (((IntKind.wrap .i64 (j-1))).toNat*3)).add 1) w.drew λr=>af .i64 ((p.add (((IntKind.wrap .i64 (j-1))).toNat*3)).add 2) w.drew λs=>ik (cx 141) f [.agg #[ae m,ae n,ae o],.agg #[ae q,ae r,ae s]] w.drew λt w=>dI .i64 t λu=>cond (!(decide (u<0))) (P3 a b c d e f g (IntKind.wrap .i64 (i+1)) w) (aK (IntKind.wrap .i64 (j-1)) b<|wA a λv=>af .i64 ((v.add (((IntKind.wrap .i64 (j-1))).toNat*3)).add 0) w.drew λx=>af .i64 ((v.add (((IntKind.wrap .i64 (j-1))).toNat*3)).add 1) w.drew λy=>af .i64 ((v.add (((IntKind.wrap .i64 (j-1))).toNat*3)).add 2) w.drew λz=>aK j b<|wA a λa1=>af .i64 ((a1.add (j.toNat*3)).add 0) w.drew λb1=>af .i64 ((a1.add (j.toNat*3)).add 1) w.drew λc1=>af .i64 ((a1.add (j.toNat*3)).add 2) w.drew λd1=>aK j b<|wA a λe1=>St ((e1.add (j.toNat*3)).add 0) (ae x) w.drew λw=>St ((e1.add (j.toNat*3)).add 1) (ae y) w λw=>St ((e1.add (j.toNat*3)).add 2) (ae z) w λw=>aK (IntKind.wrap .i64 (j-1)) b<|wA a λf1=>St ((f1.add (((IntKind.wrap .i64 (j-1))).toNat*3)).add 0) (ae b1) w λw=>St ((f1.add (((IntKind.wrap .i64 (j-1))).toNat*3)).add 1) (ae c1) w λw=>St ((f1.add (((IntKind.wrap .i64 (j-1))).toNat*3)).add 2) (ae d1) w λw=>R20 a b c d e f g i (IntKind.wrap .i64 (j+1)) w)) (P3 a b c d e f g (IntKind.wrap .i64 (i+1)) w)
def cW (P3:L3 (Int->Int->Value->Int->Int->WP))(Q:Bool->WP):Nat->L3 (Int->Int->Value->Int->Int->Int->WP)
 |0,_,_,_,_,_,_,_,_,_,_=>False
 |k+1,a,b,c,d,e,f,g,i,j,w=>eB P3 Q (cW P3 Q k) a b c d e f g i j w
def cY (P3:L3 (Int->Int->Value->Int->Int->WP))(Q:Bool->WP)(a:OA)(b c:Nat)(d e:Int)(f:Value)(g i:Int)(w:World):Prop:=cond (decide ((IntKind.wrap .i64 (e-g))≥2)) (∃k',cW P3 Q k' a b c d e f g i (IntKind.wrap .i64 (g+1)) w) (P3 a b c d e f g (IntKind.wrap .i64 (i+1)) w)
def eC (P3:L3 (Int->Int->Value->Int->Int->WP))(Q:Bool->WP)(YK:L3 (Int->Int->Value->Int->Int->Int->WP))(a:OA)(b c:Nat)(d e:Int)(f:Value)(g i j:Int)(w:World):Prop:=cond (decide (j≥1)) (aK j b<|wA a λl=>af .i64 ((l.add (j.toNat*3)).add 0) w.drew λm=>af .i64 ((l.add (j.toNat*3)).add 1) w.drew λn=>af .i64 ((l.add (j.toNat*3)).add 2) w.drew λo=>aK (IntKind.wrap .i64 (j-1)) b<|wA a λp=>af .i64 ((p.add (((IntKind.wrap .i64 (j-1))).toNat*3)).add 0) w.drew λq=>af .i64 ((p.add (((IntKind.wrap .i64 (j-1))).toNat*3)).add 1) w.drew λr=>af .i64 ((p.add (((IntKind.wrap .i64 (j-1))).toNat*3)).add 2) w.drew λs=>ik (cx 141) f [.agg #[ae m,ae n,ae o],.agg #[ae q,ae r,ae s]] w.drew λt w=>dI .i64 t λu=>cond (!(decide (u<0))) (cY P3 Q a b c d e f g i w) (aK (IntKind.wrap .i64 (j-1)) b<|wA a λv=>af .i64 ((v.add (((IntKind.wrap .i64 (j-1))).toNat*3)).add 0) w.drew λx=>af .i64 ((v.add (((IntKind.wrap .i64 (j-1))).toNat*3)).add 1) w.drew λy=>af .i64 ((v.add (((IntKind.wrap .i64 (j-1))).toNat*3)).add 2) w.drew λz=>aK j b<|wA a λa1=>af .i64 ((a1.add (j.toNat*3)).add 0) w.drew λb1=>af .i64 ((a1.add (j.toNat*3)).add 1) w.drew λc1=>af .i64 ((a1.add (j.toNat*3)).add 2) w.drew λd1=>aK j b<|wA a λe1=>St ((e1.add (j.toNat*3)).add 0) (ae x) w.drew λw=>St ((e1.add (j.toNat*3)).add 1) (ae y) w λw=>St ((e1.add (j.toNat*3)).add 2) (ae z) w λw=>aK (IntKind.wrap .i64 (j-1)) b<|wA a λf1=>St ((f1.add (((IntKind.wrap .i64 (j-1))).toNat*3)).add 0) (ae b1) w λw=>St ((f1.add (((IntKind.wrap .i64 (j-1))).toNat*3)).add 1) (ae c1) w λw=>St ((f1.add (((IntKind.wrap .i64 (j-1))).toNat*3)).add 2) (ae d1) w λw=>YK a b c d e f g i (IntKind.wrap .i64 (j-1)) w)) (cY P3 Q a b c d e f g i w)
def cZ (P3:L3 (Int->Int->Value->Int->Int->WP))(Q:Bool->WP):Nat->L3 (Int->Int->Value->Int->Int->Int->WP)
 |0,_,_,_,_,_,_,_,_,_,_=>False
 |k+1,a,b,c,d,e,f,g,i,j,w=>eC P3 Q (cZ P3 Q k) a b c d e f g i j w
def eI (P3:L3 (Int->Int->Value->Int->Int->WP))(Q:Bool->WP)(a:OA)(b c:Nat)(d e:Int)(f:Value)(g i:Int)(w:World):Prop:=cond (g==e) (Q true w) (cond (decide ((IntKind.wrap .i64 (e-d))<50)) (Q false w) (aK (IntKind.wrap .i64 (g-1)) b<|wA a λj=>af .i64 ((j.add (((IntKind.wrap .i64 (g-1))).toNat*3)).add 0) w.drew λl=>af .i64 ((j.add (((IntKind.wrap .i64 (g-1))).toNat*3)).add 1) w.drew λm=>af .i64 ((j.add (((IntKind.wrap .i64 (g-1))).toNat*3)).add 2) w.drew λn=>aK g b<|wA a λo=>af .i64 ((o.add (g.toNat*3)).add 0) w.drew λp=>af .i64 ((o.add (g.toNat*3)).add 1) w.drew λq=>af .i64 ((o.add (g.toNat*3)).add 2) w.drew λr=>aK g b<|wA a λs=>St ((s.add (g.toNat*3)).add 0) (ae l) w.drew λw=>St ((s.add (g.toNat*3)).add 1) (ae m) w λw=>St ((s.add (g.toNat*3)).add 2) (ae n) w λw=>aK (IntKind.wrap .i64 (g-1)) b<|wA a λt=>St ((t.add (((IntKind.wrap .i64 (g-1))).toNat*3)).add 0) (ae p) w λw=>St ((t.add (((IntKind.wrap .i64 (g-1))).toNat*3)).add 1) (ae q) w λw=>St ((t.add (((IntKind.wrap .i64 (g-1))).toNat*3)).add 2) (ae r) w λw=>cond (decide ((IntKind.wrap .i64 (g-d))≥2)) (∃k',cZ P3 Q k' a b c d e f g i (IntKind.wrap .i64 (g-1)) w) (cY P3 Q a b c d e f g i w)))
def eJ (P3:L3 (Int->Int->Value->Int->Int->WP))(Q:Bool->WP)(R5:L3 (Int->Int->Value->Int->Int->WP))(a:OA)(b c:Nat)(d e:Int)(f:Value)(g i:Int)(w:World):Prop:=cond (decide (g<e)) (aK g b<|wA a λj=>af .i64 ((j.add (g.toNat*3)).add 0) w.drew λl=>af .i64 ((j.add (g.toNat*3)).add 1) w.drew λm=>af .i64 ((j.add (g.toNat*3)).add 2) w.drew λn=>aK (IntKind.wrap .i64 (g-1)) b<|wA a λo=>af .i64 ((o.add (((IntKind.wrap .i64 (g-1))).toNat*3)).add 0) w.drew λp=>af .i64 ((o.add (((IntKind.wrap .i64 (g-1))).toNat*3)).add 1) w.drew λq=>af .i64 ((o.add (((IntKind.wrap .i64 (g-1))).toNat*3)).add 2) w.drew λr=>ik (cx 141) f [.agg #[ae l,ae m,ae n],.agg #[ae p,ae q,ae r]] w.drew λs w=>dI .i64 s λt=>cond (!(decide (t<0))) (R5 a b c d e f (IntKind.wrap .i64 (g+1)) i w) (eI P3 Q a b c d e f g i w)) (eI P3 Q a b c d e f g i w.drew)
def dh (P3:L3 (Int->Int->Value->Int->Int->WP))(Q:Bool->WP):Nat->L3 (Int->Int->Value->Int->Int->WP)
 |0,_,_,_,_,_,_,_,_,_=>False
 |k+1,a,b,c,d,e,f,g,i,w=>eJ P3 Q (dh P3 Q k) a b c d e f g i w
def eK (Q:Bool->WP)(R3:L3 (Int->Int->Value->Int->Int->WP))(a:OA)(b c:Nat)(d e:Int)(f:Value)(g i:Int)(w:World):Prop:=cond (decide (i<5)) (∃k',dh R3 Q k' a b c d e f g i w) (Q false w)
def bt (Q:Bool->WP):Nat->L3 (Int->Int->Value->Int->Int->WP)
 |0,_,_,_,_,_,_,_,_,_=>False
 |k+1,a,b,c,d,e,f,g,i,w=>eK Q (bt Q k) a b c d e f g i w
noncomputable def cy:cm:=[(5,sp 0 14 (.op 14 (sp 15 3 .done))),(11,sp 0 15 (.op 15 (.op 16 (.op 17 .done)))),(16,sp 0 10 (.op 10 (sp 11 2 .done))),(17,sp 0 15 (.op 15 (.op 16 (.op 17 .done)))),(22,sp 0 10 (.op 10 (sp 11 2 .done))),(23,sp 0 15 (.op 15 (.op 16 (.op 17 .done))))]
def vh {P3}(Q)(H3:Bk 141 Tryz.f248 (bq Q) 3 [(0,.l),(1,.i .i64),(2,.i .i64),(3,.v),(9,.i .i64),(10,.i .i64)] P3):∀k,Bk 141 Tryz.f248 (bq Q) 20 [(0,.l),(1,.i .i64),(2,.i .i64),(3,.v),(9,.i .i64),(10,.i .i64),(12,.i .i64)] (cW P3 Q k):=bH λk h=>aS (ok 141) cy [aO H3,aO h]
def mq {P3}(Q)(H3:Bk 141 Tryz.f248 (bq Q) 3 [(0,.l),(1,.i .i64),(2,.i .i64),(3,.v),(9,.i .i64),(10,.i .i64)] P3):Bk 141 Tryz.f248 (bq Q) 18 [(0,.l),(1,.i .i64),(2,.i .i64),(3,.v),(9,.i .i64),(10,.i .i64)] (cY P3 Q):=aS (ok 141) cy [aO H3,cg (vh Q H3)]
def vi {P3}(Q)(H3:Bk 141 Tryz.f248 (bq Q) 3 [(0,.l),(1,.i .i64),(2,.i .i64),(3,.v),(9,.i .i64),(10,.i .i64)] P3):∀k,Bk 141 Tryz.f248 (bq Q) 14 [(0,.l),(1,.i .i64),(2,.i .i64),(3,.v),(9,.i .i64),(10,.i .i64),(11,.i .i64)] (cZ P3 Q k):=bH λk h=>aS (ok 141) cy [aO h,aO (mq Q H3)]
def vV {P3}(Q)(H3:Bk 141 Tryz.f248 (bq Q) 3 [(0,.l),(1,.i .i64),(2,.i .i64),(3,.v),(9,.i .i64),(10,.i .i64)] P3):Bk 141 Tryz.f248 (bq Q) 7 [(0,.l),(1,.i .i64),(2,.i .i64),(3,.v),(9,.i .i64),(10,.i .i64)] (eI P3 Q):=aS (ok 141) cy [cg (vi Q H3),aO (mq Q H3)]
def vW {P3}(Q)(H3:Bk 141 Tryz.f248 (bq Q) 3 [(0,.l),(1,.i .i64),(2,.i .i64),(3,.v),(9,.i .i64),(10,.i .i64)] P3):∀k,Bk 141 Tryz.f248 (bq Q) 5 [(0,.l),(1,.i .i64),(2,.i .i64),(3,.v),(9,.i .i64),(10,.i .i64)] (dh P3 Q k):=bH λk h=>aS (ok 141) cy [aO h,aO (vV Q H3)]
def vX (Q):∀k,Bk 141 Tryz.f248 (bq Q) 3 [(0,.l),(1,.i .i64),(2,.i .i64),(3,.v),(9,.i .i64),(10,.i .i64)] (bt Q k):=bH λk h=>aS (ok 141) cy [cg (vW Q h)]
def uR:=λa b c d e f w Q=>bB (iC a b c d e f w Q) (∃k',bt Q k' a b c d e f (IntKind.wrap .i64 (d+1)) 0 w) (ok 141) cy [cg (vX Q)] Tryz.func248
def eF (P3:L3 (Int->Value->Int->Int->WP))(Q:Int->WP)(a:OA)(b c:Nat)(d:Int)(e:Value)(f g:Int)(w:World):Prop:=cond (decide (f>g)) (Q f w) (aK g b<|wA a λi=>af .i64 ((i.add (g.toNat*3)).add 0) w.drew λj=>af .i64 ((i.add (g.toNat*3)).add 1) w.drew λl=>af .i64 ((i.add (g.toNat*3)).add 2) w.drew λm=>aK f b<|wA a λn=>af .i64 ((n.add (f.toNat*3)).add 0) w.drew λo=>af .i64 ((n.add (f.toNat*3)).add 1) w.drew λp=>af .i64 ((n.add (f.toNat*3)).add 2) w.drew λq=>aK f b<|wA a λr=>St ((r.add (f.toNat*3)).add 0) (ae j) w.drew λw=>St ((r.add (f.toNat*3)).add 1) (ae l) w λw=>St ((r.add (f.toNat*3)).add 2) (ae m) w λw=>aK g b<|wA a λs=>St ((s.add (g.toNat*3)).add 0) (ae o) w λw=>St ((s.add (g.toNat*3)).add 1) (ae p) w λw=>St ((s.add (g.toNat*3)).add 2) (ae q) w λw=>P3 a b c d e (IntKind.wrap .i64 (f+1)) (IntKind.wrap .i64 (g-1)) w)
def dx (P3:L3 (Int->Value->Int->Int->WP))(Q:Int->WP)(R5:L3 (Int->Value->Int->Int->WP))(a:OA)(b c:Nat)(d:Int)(e:Value)(f g:Int)(w:World):Prop:=cond (decide (f<=g)) (aK d b<|wA a λi=>af .i64 ((i.add (d.toNat*3)).add 0) w.drew λj=>af .i64 ((i.add (d.toNat*3)).add 1) w.drew λl=>af .i64 ((i.add (d.toNat*3)).add 2) w.drew λm=>aK g b<|wA a λn=>af .i64 ((n.add (g.toNat*3)).add 0) w.drew λo=>af .i64 ((n.add (g.toNat*3)).add 1) w.drew λp=>af .i64 ((n.add (g.toNat*3)).add 2) w.drew λq=>ik (cx 90) e [.agg #[ae j,ae l,ae m],.agg #[ae o,ae p,ae q]] w.drew λr w=>dI .i64 r λs=>cond (decide (s<0)) (R5 a b c d e f (IntKind.wrap .i64 (g-1)) w) (eF P3 Q a b c d e f g w)) (eF P3 Q a b c d e f g w.drew)
def cG (P3:L3 (Int->Value->Int->Int->WP))(Q:Int->WP):Nat->L3 (Int->Value->Int->Int->WP)
 |0,_,_,_,_,_,_,_,_=>False
 |k+1,a,b,c,d,e,f,g,w=>dx P3 Q (cG P3 Q k) a b c d e f g w
def fE (Q:Int->WP)(R3:L3 (Int->Value->Int->Int->WP))(a:OA)(b c:Nat)(d:Int)(e:Value)(f g:Int)(w:World):Prop:=cond (decide (f<=g)) (aK d b<|wA a λi=>af .i64 ((i.add (d.toNat*3)).add 0) w.drew λj=>af .i64 ((i.add (d.toNat*3)).add 1) w.drew λl=>af .i64 ((i.add (d.toNat*3)).add 2) w.drew λm=>aK f b<|wA a λn=>af .i64 ((n.add (f.toNat*3)).add 0) w.drew λo=>af .i64 ((n.add (f.toNat*3)).add 1) w.drew λp=>af .i64 ((n.add (f.toNat*3)).add 2) w.drew λq=>ik (cx 90) e [.agg #[ae j,ae l,ae m],.agg #[ae o,ae p,ae q]] w.drew λr w=>dI .i64 r λs=>cond (!(decide (s<0))) (R3 a b c d e (IntKind.wrap .i64 (f+1)) g w) (∃k',cG R3 Q k' a b c d e f g w)) (∃k',cG R3 Q k' a b c d e f g w.drew)
def cH (Q:Int->WP):Nat->L3 (Int->Value->Int->Int->WP)
 |0,_,_,_,_,_,_,_,_=>False
 |k+1,a,b,c,d,e,f,g,w=>fE Q (cH Q k) a b c d e f g w
noncomputable def gV:cm:=[(1,sp 0 13 (.op 13 (.op 14 (.op 15 .done)))),(3,sp 0 13 (.op 13 (sp 14 3 .done))),(5,sp 0 13 (.op 13 (sp 14 2 .done))),(8,sp 0 13 (.op 13 (.op 14 (.op 15 .done))))]
def zN {P3}(Q)(H3:Bk 90 Tryz.f249 (eE Q) 3 [(0,.l),(1,.i .i64),(4,.v),(11,.i .i64),(12,.i .i64)] P3):Bk 90 Tryz.f249 (eE Q) 7 [(0,.l),(1,.i .i64),(4,.v),(11,.i .i64),(12,.i .i64)] (eF P3 Q):=aS (ok 90) gV [aO H3]
def zO {P3}(Q)(H3:Bk 90 Tryz.f249 (eE Q) 3 [(0,.l),(1,.i .i64),(4,.v),(11,.i .i64),(12,.i .i64)] P3):∀k,Bk 90 Tryz.f249 (eE Q) 5 [(0,.l),(1,.i .i64),(4,.v),(11,.i .i64),(12,.i .i64)] (cG P3 Q k):=bH λk h=>aS (ok 90) gV [aO h,aO (zN Q H3)]
def zP (Q):∀k,Bk 90 Tryz.f249 (eE Q) 3 [(0,.l),(1,.i .i64),(4,.v),(11,.i .i64),(12,.i .i64)] (cH Q k):=bH λk h=>aS (ok 90) gV [aO h,cg (zO Q h)]
def yo:=λa b c d e f g w Q=>bB (jD a b c d e f g w Q) (aK f b<|wA a λi=>af .i64 ((i.add (f.toNat*3)).add 0) w.drew λj=>af .i64 ((i.add (f.toNat*3)).add 1) w.drew λl=>af .i64 ((i.add (f.toNat*3)).add 2) w.drew λm=>aK d b<|wA a λn=>af .i64 ((n.add (d.toNat*3)).add 0) w.drew λo=>af .i64 ((n.add (d.toNat*3)).add 1) w.drew λp=>af .i64 ((n.add (d.toNat*3)).add 2) w.drew λq=>aK d b<|wA a λr=>St ((r.add (d.toNat*3)).add 0) (ae j) w.drew λw=>St ((r.add (d.toNat*3)).add 1) (ae l) w λw=>St ((r.add (d.toNat*3)).add 2) (ae m) w λw=>aK f b<|wA a λs=>St ((s.add (f.toNat*3)).add 0) (ae o) w λw=>St ((s.add (f.toNat*3)).add 1) (ae p) w λw=>St ((s.add (f.toNat*3)).add 2) (ae q) w λw=>∃k',cH Q k' a b c d g (IntKind.wrap .i64 (d+1)) (IntKind.wrap .i64 (e-1)) w) (ok 90) gV [cg (zP Q)] Tryz.func249
def fe (tC:L3 (Int->Value->Int->Int->WP))(Q:Int->Bool->WP)(a:OA)(b c:Nat)(d:Int)(e:Value)(f g:Int)(w:World):Prop:=cond (decide (f>g)) (aK d b<|wA a λi=>af .i64 ((i.add (d.toNat*3)).add 0) w.drew λj=>af .i64 ((i.add (d.toNat*3)).add 1) w.drew λl=>af .i64 ((i.add (d.toNat*3)).add 2) w.drew λm=>aK g b<|wA a λn=>af .i64 ((n.add (g.toNat*3)).add 0) w.drew λo=>af .i64 ((n.add (g.toNat*3)).add 1) w.drew λp=>af .i64 ((n.add (g.toNat*3)).add 2) w.drew λq=>aK g b<|wA a λr=>St ((r.add (g.toNat*3)).add 0) (ae j) w.drew λw=>St ((r.add (g.toNat*3)).add 1) (ae l) w λw=>St ((r.add (g.toNat*3)).add 2) (ae m) w λw=>aK d b<|wA a λs=>St ((s.add (d.toNat*3)).add 0) (ae o) w λw=>St ((s.add (d.toNat*3)).add 1) (ae p) w λw=>St ((s.add (d.toNat*3)).add 2) (ae q) w λw=>Q g false w) (aK g b<|wA a λt=>af .i64 ((t.add (g.toNat*3)).add 0) w.drew λu=>af .i64 ((t.add (g.toNat*3)).add 1) w.drew λv=>af .i64 ((t.add (g.toNat*3)).add 2) w.drew λx=>aK f b<|wA a λy=>af .i64 ((y.add (f.toNat*3)).add 0) w.drew λz=>af .i64 ((y.add (f.toNat*3)).add 1) w.drew λa1=>af .i64 ((y.add (f.toNat*3)).add 2) w.drew λb1=>aK f b<|wA a λc1=>St ((c1.add (f.toNat*3)).add 0) (ae u) w.drew λw=>St ((c1.add (f.toNat*3)).add 1) (ae v) w λw=>St ((c1.add (f.toNat*3)).add 2) (ae x) w λw=>aK g b<|wA a λd1=>St ((d1.add (g.toNat*3)).add 0) (ae z) w λw=>St ((d1.add (g.toNat*3)).add 1) (ae a1) w λw=>St ((d1.add (g.toNat*3)).add 2) (ae b1) w λw=>tC a b c d e (IntKind.wrap .i64 (f+1)) (IntKind.wrap .i64 (g-1)) w)
def eo (tC:L3 (Int->Value->Int->Int->WP))(Q:Int->Bool->WP)(R15:L3 (Int->Value->Int->Int->WP))(a:OA)(b c:Nat)(d:Int)(e:Value)(f g:Int)(w:World):Prop:=cond (decide (f<=g)) (aK g b<|wA a λi=>af .i64 ((i.add (g.toNat*3)).add 0) w.drew λj=>af .i64 ((i.add (g.toNat*3)).add 1) w.drew λl=>af .i64 ((i.add (g.toNat*3)).add 2) w.drew λm=>aK d b<|wA a λn=>af .i64 ((n.add (d.toNat*3)).add 0) w.drew λo=>af .i64 ((n.add (d.toNat*3)).add 1) w.drew λp=>af .i64 ((n.add (d.toNat*3)).add 2) w.drew λq=>ik (cx 178) e [.agg #[ae j,ae l,ae m],.agg #[ae o,ae p,ae q]] w.drew λr w=>dI .i64 r λs=>cond (!(decide (s<0))) (R15 a b c d e f (IntKind.wrap .i64 (g-1)) w) (fe tC Q a b c d e f g w)) (fe tC Q a b c d e f g w.drew)
def c9 (tC:L3 (Int->Value->Int->Int->WP))(Q:Int->Bool->WP):Nat->L3 (Int->Value->Int->Int->WP)
 |0,_,_,_,_,_,_,_,_=>False
 |k+1,a,b,c,d,e,f,g,w=>eo tC Q (c9 tC Q k) a b c d e f g w
def gx (Q:Int->Bool->WP)(R13:L3 (Int->Value->Int->Int->WP))(a:OA)(b c:Nat)(d:Int)(e:Value)(f g:Int)(w:World):Prop:=cond (decide (f<=g)) (aK f b<|wA a λi=>af .i64 ((i.add (f.toNat*3)).add 0) w.drew λj=>af .i64 ((i.add (f.toNat*3)).add 1) w.drew λl=>af .i64 ((i.add (f.toNat*3)).add 2) w.drew λm=>aK d b<|wA a λn=>af .i64 ((n.add (d.toNat*3)).add 0) w.drew λo=>af .i64 ((n.add (d.toNat*3)).add 1) w.drew λp=>af .i64 ((n.add (d.toNat*3)).add 2) w.drew λq=>ik (cx 178) e [.agg #[ae j,ae l,ae m],.agg #[ae o,ae p,ae q]] w.drew λr w=>dI .i64 r λs=>cond (decide (s<0)) (R13 a b c d e (IntKind.wrap .i64 (f+1)) g w) (∃k',c9 R13 Q k' a b c d e f g w)) (∃k',c9 R13 Q k' a b c d e f g w.drew)
def c_ (Q:Int->Bool->WP):Nat->L3 (Int->Value->Int->Int->WP)
 |0,_,_,_,_,_,_,_,_=>False
 |k+1,a,b,c,d,e,f,g,w=>gx Q (c_ Q k) a b c d e f g w
def gF (Q:Int->Bool->WP)(a:OA)(b c:Nat)(d:Int)(e:Value)(f g:Int)(w:World):Prop:=cond (decide (f>g)) (aK d b<|wA a λi=>af .i64 ((i.add (d.toNat*3)).add 0) w.drew λj=>af .i64 ((i.add (d.toNat*3)).add 1) w.drew λl=>af .i64 ((i.add (d.toNat*3)).add 2) w.drew λm=>aK g b<|wA a λn=>af .i64 ((n.add (g.toNat*3)).add 0) w.drew λo=>af .i64 ((n.add (g.toNat*3)).add 1) w.drew λp=>af .i64 ((n.add (g.toNat*3)).add 2) w.drew λq=>aK g b<|wA a λr=>St ((r.add (g.toNat*3)).add 0) (ae j) w.drew λw=>St ((r.add (g.toNat*3)).add 1) (ae l) w λw=>St ((r.add (g.toNat*3)).add 2) (ae m) w λw=>aK d b<|wA a λs=>St ((s.add (d.toNat*3)).add 0) (ae o) w λw=>St ((s.add (d.toNat*3)).add 1) (ae p) w λw=>St ((s.add (d.toNat*3)).add 2) (ae q) w λw=>Q g true w) (aK g b<|wA a λt=>af .i64 ((t.add (g.toNat*3)).add 0) w.drew λu=>af .i64 ((t.add (g.toNat*3)).add 1) w.drew λv=>af .i64 ((t.add (g.toNat*3)).add 2) w.drew λx=>aK f b<|wA a λy=>af .i64 ((y.add (f.toNat*3)).add 0) w.drew λz=>af .i64 ((y.add (f.toNat*3)).add 1) w.drew λa1=>af .i64 ((y.add (f.toNat*3)).add 2) w.drew λb1=>aK f b<|wA a λc1=>St ((c1.add (f.toNat*3)).add 0) (ae u) w.drew λw=>St ((c1.add (f.toNat*3)).add 1) (ae v) w λw=>St ((c1.add (f.toNat*3)).add 2) (ae x) w λw=>aK g b<|wA a λd1=>St ((d1.add (g.toNat*3)).add 0) (ae z) w λw=>St ((d1.add (g.toNat*3)).add 1) (ae a1) w λw=>St ((d1.add (g.toNat*3)).add 2) (ae b1) w λw=>∃k',c_ Q k' a b c d e (IntKind.wrap .i64 (f+1)) (IntKind.wrap .i64 (g-1)) w)
def gG (Q:Int->Bool->WP)(R5:L3 (Int->Value->Int->Int->WP))(a:OA)(b c:Nat)(d:Int)(e:Value)(f g:Int)(w:World):Prop:=cond (decide (f<=g)) (aK g b<|wA a λi=>af .i64 ((i.add (g.toNat*3)).add 0) w.drew λj=>af .i64 ((i.add (g.toNat*3)).add 1) w.drew λl=>af .i64 ((i.add (g.toNat*3)).add 2) w.drew λm=>aK d b<|wA a λn=>af .i64 ((n.add (d.toNat*3)).add 0) w.drew λo=>af .i64 ((n.add (d.toNat*3)).add 1) w.drew λp=>af .i64 ((n.add (d.toNat*3)).add 2) w.drew λq=>ik (cx 178) e [.agg #[ae j,ae l,ae m],.agg #[ae o,ae p,ae q]] w.drew λr w=>dI .i64 r λs=>cond (!(decide (s<0))) (R5 a b c d e f (IntKind.wrap .i64 (g-1)) w) (gF Q a b c d e f g w)) (gF Q a b c d e f g w.drew)
def dA (Q:Int->Bool->WP):Nat->L3 (Int->Value->Int->Int->WP)
 |0,_,_,_,_,_,_,_,_=>False
 |k+1,a,b,c,d,e,f,g,w=>gG Q (dA Q k) a b c d e f g w
def gH (Q:Int->Bool->WP)(R3:L3 (Int->Value->Int->Int->WP))(a:OA)(b c:Nat)(d:Int)(e:Value)(f g:Int)(w:World):Prop:=cond (decide (f<=g)) (aK f b<|wA a λi=>af .i64 ((i.add (f.toNat*3)).add 0) w.drew λj=>af .i64 ((i.add (f.toNat*3)).add 1) w.drew λl=>af .i64 ((i.add (f.toNat*3)).add 2) w.drew λm=>aK d b<|wA a λn=>af .i64 ((n.add (d.toNat*3)).add 0) w.drew λo=>af .i64 ((n.add (d.toNat*3)).add 1) w.drew λp=>af .i64 ((n.add (d.toNat*3)).add 2) w.drew λq=>ik (cx 178) e [.agg #[ae j,ae l,ae m],.agg #[ae o,ae p,ae q]] w.drew λr w=>dI .i64 r λs=>cond (decide (s<0)) (R3 a b c d e (IntKind.wrap .i64 (f+1)) g w) (∃k',dA Q k' a b c d e f g w)) (∃k',dA Q k' a b c d e f g w.drew)
def fk (Q:Int->Bool->WP):Nat->L3 (Int->Value->Int->Int->WP)
 |0,_,_,_,_,_,_,_,_=>False
 |k+1,a,b,c,d,e,f,g,w=>gH Q (fk Q k) a b c d e f g w
noncomputable def eA:cm:=[(1,sp 0 13 (.op 13 (.op 14 (.op 15 .done)))),(3,sp 0 13 (.op 13 (sp 14 2 .done))),(5,sp 0 13 (.op 13 (sp 14 3 .done))),(8,sp 0 13 (.op 13 (.op 14 (.op 15 .done)))),(10,sp 0 13 (.op 13 (.op 14 (.op 15 .done)))),(13,sp 0 13 (.op 13 (sp 14 2 .done))),(15,sp 0 13 (.op 13 (sp 14 3 .done))),(18,sp 0 13 (.op 13 (.op 14 (.op 15 .done)))),(21,sp 0 13 (.op 13 (.op 14 (.op 15 .done))))]
def BH {tC}(Q)(H13:Bk 178 Tryz.f250 (cL Q) 13 [(0,.l),(1,.i .i64),(4,.v),(12,.i .i64),(13,.i .i64)] tC):Bk 178 Tryz.f250 (cL Q) 17 [(0,.l),(1,.i .i64),(4,.v),(12,.i .i64),(13,.i .i64)] (fe tC Q):=aS (ok 178) eA [aO H13]
def BI {tC}(Q)(H13:Bk 178 Tryz.f250 (cL Q) 13 [(0,.l),(1,.i .i64),(4,.v),(12,.i .i64),(13,.i .i64)] tC):∀k,Bk 178 Tryz.f250 (cL Q) 15 [(0,.l),(1,.i .i64),(4,.v),(12,.i .i64),(13,.i .i64)] (c9 tC Q k):=bH λk h=>aS (ok 178) eA [aO h,aO (BH Q H13)]
def BJ (Q):∀k,Bk 178 Tryz.f250 (cL Q) 13 [(0,.l),(1,.i .i64),(4,.v),(12,.i .i64),(13,.i .i64)] (c_ Q k):=bH λk h=>aS (ok 178) eA [aO h,cg (BI Q h)]
def Ce (Q):Bk 178 Tryz.f250 (cL Q) 7 [(0,.l),(1,.i .i64),(4,.v),(12,.i .i64),(13,.i .i64)] (gF Q):=aS (ok 178) eA [cg (BJ Q)]
def Cf (Q):∀k,Bk 178 Tryz.f250 (cL Q) 5 [(0,.l),(1,.i .i64),(4,.v),(12,.i .i64),(13,.i .i64)] (dA Q k):=bH λk h=>aS (ok 178) eA [aO h,aO (Ce Q)]
def Cg (Q):∀k,Bk 178 Tryz.f250 (cL Q) 3 [(0,.l),(1,.i .i64),(4,.v),(12,.i .i64),(13,.i .i64)] (fk Q k):=bH λk h=>aS (ok 178) eA [aO h,cg (Cf Q)]
def A9:=λa b c d e f g w Q=>bB (lA a b c d e f g w Q) (aK f b<|wA a λi=>af .i64 ((i.add (f.toNat*3)).add 0) w.drew λj=>af .i64 ((i.add (f.toNat*3)).add 1) w.drew λl=>af .i64 ((i.add (f.toNat*3)).add 2) w.drew λm=>aK d b<|wA a λn=>af .i64 ((n.add (d.toNat*3)).add 0) w.drew λo=>af .i64 ((n.add (d.toNat*3)).add 1) w.drew λp=>af .i64 ((n.add (d.toNat*3)).add 2) w.drew λq=>aK d b<|wA a λr=>St ((r.add (d.toNat*3)).add 0) (ae j) w.drew λw=>St ((r.add (d.toNat*3)).add 1) (ae l) w λw=>St ((r.add (d.toNat*3)).add 2) (ae m) w λw=>aK f b<|wA a λs=>St ((s.add (f.toNat*3)).add 0) (ae o) w λw=>St ((s.add (f.toNat*3)).add 1) (ae p) w λw=>St ((s.add (f.toNat*3)).add 2) (ae q) w λw=>∃k',fk Q k' a b c d g (IntKind.wrap .i64 (d+1)) (IntKind.wrap .i64 (e-1)) w) (ok 178) eA [cg (Cg Q)] Tryz.func250
def jy (P2:L3 (Int->Int->Int->Value->Bool->Bool->WP))(Q:WP)(a:OA)(b c:Nat)(d e f:Int)(g:Value)(i j:Int)(w:World):Prop:=lA a b c d e j g w λl m w=>NZ 8<|cond (decide ((IntKind.wrap .i64 (l-d))<(IntKind.wrap .i64 (e-l)))) (fg a b c d l f g w λw=>P2 a b c (IntKind.wrap .i64 (l+1)) e f g (decide ((IntKind.wrap .i64 (l-d))≥(IntKind.wrap .i64 (Int.tdiv i 8)))) m w) (fg a b c (IntKind.wrap .i64 (l+1)) e f g w λw=>P2 a b c d l f g (decide ((IntKind.wrap .i64 (e-l))≥(IntKind.wrap .i64 (Int.tdiv i 8)))) m w)
def eS (P2:L3 (Int->Int->Int->Value->Bool->Bool->WP))(Q:WP)(a:OA)(b c:Nat)(d e f:Int)(g:Value)(i j:Bool)(l m:Int)(w:World):Prop:=cond (decide (d>0)) (aK (IntKind.wrap .i64 (d-1)) b<|wA a λn=>af .i64 ((n.add (((IntKind.wrap .i64 (d-1))).toNat*3)).add 0) w.drew λo=>af .i64 ((n.add (((IntKind.wrap .i64 (d-1))).toNat*3)).add 1) w.drew λp=>af .i64 ((n.add (((IntKind.wrap .i64 (d-1))).toNat*3)).add 2) w.drew λq=>aK m b<|wA a λr=>af .i64 ((r.add (m.toNat*3)).add 0) w.drew λs=>af .i64 ((r.add (m.toNat*3)).add 1) w.drew λt=>af .i64 ((r.add (m.toNat*3)).add 2) w.drew λu=>ik (cx 148) g [.agg #[ae o,ae p,ae q],.agg #[ae s,ae t,ae u]] w.drew λv w=>dI .i64 v λx=>cond (!(decide (x<0))) (jD a b c d e m g w λy w=>P2 a b c y e f g i j w) (jy P2 Q a b c d e f g l m w)) (jy P2 Q a b c d e f g l m w.drew)
def gW (P2:L3 (Int->Int->Int->Value->Bool->Bool->WP))(Q:WP)(a:OA)(b c:Nat)(d e f:Int)(g:Value)(i j:Bool)(l m n:Int)(w:World):Prop:=cond i (cond j (cond (n==1) (iC a b c d e g w λo w=>cond o (Q w) (eS P2 Q a b c d e f g i j l m w)) (eS P2 Q a b c d e f g i j l m w)) (eS P2 Q a b c d e f g i j l m w)) (eS P2 Q a b c d e f g i j l m w)
def jz (P2:L3 (Int->Int->Int->Value->Bool->Bool->WP))(Q:WP)(a:OA)(b c:Nat)(d e f:Int)(g:Value)(i j:Bool)(l:Int)(w:World):Prop:=kH a b c d e g w λm n w=>cond (n==2) (j8 a b c d e g w λw=>gW P2 Q a b c d e f g i j l (IntKind.wrap .i64 ((IntKind.wrap .i64 (e-1))-(IntKind.wrap .i64 (m-d)))) 1 w) (gW P2 Q a b c d e f g i j l m n w)
def g9 (Q:WP)(R2:L3 (Int->Int->Int->Value->Bool->Bool->WP))(a:OA)(b c:Nat)(d e f:Int)(g:Value)(i j:Bool)(w:World):Prop:=cond (decide ((IntKind.wrap .i64 (e-d))<=12)) (jM a b c d e g w λw=>Q w) (cond (f==0) (lQ a b c d e g w λw=>Q w) (cond (!i) (jN a b c d e g w λw=>jz R2 Q a b c d e (IntKind.wrap .i64 (f-1)) g i j (IntKind.wrap .i64 (e-d)) w) (jz R2 Q a b c d e f g i j (IntKind.wrap .i64 (e-d)) w)))
def cB (Q:WP):Nat->L3 (Int->Int->Int->Value->Bool->Bool->WP)
 |0,_,_,_,_,_,_,_,_,_,_=>False
 |k+1,a,b,c,d,e,f,g,i,j,w=>g9 Q (cB Q k) a b c d e f g i j w
noncomputable def fI:cm:=[(17,sp 0 13 (.op 13 (sp 14 3 .done)))]
def C4 {P2}(Q)(H2:Bk 148 Tryz.f223 (cA Q) 2 [(0,.l),(1,.i .i64),(2,.i .i64),(3,.i .i64),(4,.v),(10,.b),(11,.b)] P2):Bk 148 Tryz.f223 (cA Q) 20 [(0,.l),(1,.i .i64),(2,.i .i64),(3,.i .i64),(4,.v),(12,.i .i64),(13,.i .i64)] (jy P2 Q):=aS (ok 148) fI [aO H2]
def C5 {P2}(Q)(H2:Bk 148 Tryz.f223 (cA Q) 2 [(0,.l),(1,.i .i64),(2,.i .i64),(3,.i .i64),(4,.v),(10,.b),(11,.b)] P2):Bk 148 Tryz.f223 (cA Q) 17 [(0,.l),(1,.i .i64),(2,.i .i64),(3,.i .i64),(4,.v),(10,.b),(11,.b),(12,.i .i64),(13,.i .i64)] (eS P2 Q):=aS (ok 148) fI [aO H2,aO (C4 Q H2)]
def C6 {P2}(Q)(H2:Bk 148 Tryz.f223 (cA Q) 2 [(0,.l),(1,.i .i64),(2,.i .i64),(3,.i .i64),(4,.v),(10,.b),(11,.b)] P2):Bk 148 Tryz.f223 (cA Q) 15 [(0,.l),(1,.i .i64),(2,.i .i64),(3,.i .i64),(4,.v),(10,.b),(11,.b),(12,.i .i64),(13,.i .i64),(14,.i .i64)] (gW P2 Q):=aS (ok 148) fI [aO (C5 Q H2)]
def C7 {P2}(Q)(H2:Bk 148 Tryz.f223 (cA Q) 2 [(0,.l),(1,.i .i64),(2,.i .i64),(3,.i .i64),(4,.v),(10,.b),(11,.b)] P2):Bk 148 Tryz.f223 (cA Q) 10 [(0,.l),(1,.i .i64),(2,.i .i64),(3,.i .i64),(4,.v),(10,.b),(11,.b),(12,.i .i64)] (jz P2 Q):=aS (ok 148) fI [aO (C6 Q H2)]
def DJ (Q):∀k,Bk 148 Tryz.f223 (cA Q) 2 [(0,.l),(1,.i .i64),(2,.i .i64),(3,.i .i64),(4,.v),(10,.b),(11,.b)] (cB Q k):=bH λk h=>aS (ok 148) fI [aO (C7 Q h)]
def rQ:=λa b c d e f g w Q=>bB (fg a b c d e f g w Q) (∃k',cB Q k' a b c d e f g true true w) (ok 148) fI [cg (DJ Q)] Tryz.func223
def AQ:=λa b c d w Q=>bB (kP a b c d w Q) (vH (IntKind.wrap .u64 (b:Int)) w λe w=>fg a b c 0 (b:Int) e d w λw=>Q w) (ok 14) [] [] Tryz.func196
def mY (Q:Int->WP)(R3:Int->L3 (Int->Int->WP))(a:Int)(b:OA)(c d:Nat)(e f:Int)(w:World):Prop:=cond (decide (f<e)) (aK f c<|wA b λg=>af .i64 (g.add (f.toNat*1)) w λi=>cond (i !=a) (Q i w) (R3 a b c d e (IntKind.wrap .i64 (f+1)) w)) (Q a w)
def qY (Q:Int->WP):Nat->Int->L3 (Int->Int->WP)
 |0,_,_,_,_,_,_,_=>False
 |k+1,a,b,c,d,e,f,w=>mY Q (qY Q k) a b c d e f w
def adN (Q):∀k,Bk 18 Tryz.f225 (PZ Q) 3 [(3,.i .i64),(6,.l),(7,.i .i64),(8,.i .i64)] (qY Q k):=bH λk h=>aS (ok 18) [] [aO h]
def ZQ:=λa b c w Q=>bB (E0 a b c w Q) (∃k',qY Q k' 0 a b c (b:Int) 0 w) (ok 18) [] [cg (adN Q)] Tryz.func225
def A_:=λa w Q=>bB (qG a w Q) (Q (a !=a) w) (ok 6) [] [] Tryz.func253
def Qx:=λa b w Q=>bB (ot a b w Q) (qG a w λc w=>qG b w λd w=>cond c (cond d (Q 0 w) (Q (-1) w)) (cond d (Q 1 w) (cond (decide (a<b)) (Q (-1) w) (cond (decide (a>b)) (Q 1 w) (Q 0 w))))) (ok 20) [] [] Tryz.func226
noncomputable def ZR:cm:=[(1,sp 0 4 (sp 5 4 (sp 10 4 (.op 4 (.op 9 (.op 14 (.op 15 (.op 16 (.op 17 .done)))))))))]
def Yd:=λa b c d e f w Q=>bB (DF a b c d e f w Q) (Bx [ae a,ae b,ae c] 294 w λg w=>Bx [ae d,ae e,ae f] 294 w λi w=>af .i64 (g.add 2) w.drew λj=>af .i64 (i.add 2) w.drew λl=>af .i64 g w.drew λm=>af .i64 i w.drew λn=>af .i64 (g.add 1) w.drew λo=>af .i64 (i.add 1) w.drew λp=>ot j l w.drew λq w=>w.cell? (i.add 1)=some (ae p)/\w.cell? (g.add 1)=some (ae o)/\w.cell? i=some (ae n)/\w.cell? g=some (ae m)/\ot m n w λr w=>w.cell? (i.add 1)=some (ae p)/\w.cell? (g.add 1)=some (ae o)/\ot o p w λs w=>Bx [ae q,ae r,ae s] 3 w λt w=>E0 (some t) 3 3 w λu w=>Q u w) (ok 22) ZR [] Tryz.func197
def Ch (P4:L3 (Int->WP))(Q:L3 WP)(R9:L3 (Int->L3 (Int->WP)))(a:OA)(b c:Nat)(d:Int)(e:OA)(f g:Nat)(i:Int)(w:World):Prop:=cond (decide (i<(f:Int))) (aK i f<|wA e λj=>af .i64 ((j.add (i.toNat*3)).add 0) w.drew λl=>af .i64 ((j.add (i.toNat*3)).add 1) w.drew λm=>af .i64 ((j.add (i.toNat*3)).add 2) w.drew λn=>aK (IntKind.wrap .i64 (i-1)) f<|wA e λo=>af .i64 ((o.add (((IntKind.wrap .i64 (i-1))).toNat*3)).add 0) w.drew λp=>af .i64 ((o.add (((IntKind.wrap .i64 (i-1))).toNat*3)).add 1) w.drew λq=>af .i64 ((o.add (((IntKind.wrap .i64 (i-1))).toNat*3)).add 2) w.drew λr=>bZ P .neq 294 (.tmp 38) (.tmp 43) (.agg #[ae l,ae m,ae n]) (.agg #[ae p,ae q,ae r]) w.drew λs w=>cond s (aK i f<|wA e λt=>af .i64 ((t.add (i.toNat*3)).add 0) w λu=>af .i64 ((t.add (i.toNat*3)).add 1) w λv=>af .i64 ((t.add (i.toNat*3)).add 2) w λx=>aK d b<|wA a λy=>St ((y.add (d.toNat*3)).add 0) (ae u) w λw=>St ((y.add (d.toNat*3)).add 1) (ae v) w λw=>St ((y.add (d.toNat*3)).add 2) (ae x) w λw=>R9 a b c (IntKind.wrap .i64 (d+1)) e f g (IntKind.wrap .i64 (i+1)) w) (R9 a b c d e f g (IntKind.wrap .i64 (i+1)) w)) (cj a b c 3 (some d) none λz a1 b1=>aQ P (Builtin.clear_ #[278] 0 [.slice z a1 b1].toArray) w λc1 w=>cj a b c 3 none (some d) λd1 e1 f1=>Q d1 e1 f1 w)
def mu (P4:L3 (Int->WP))(Q:L3 WP):Nat->L3 (Int->L3 (Int->WP))
 |0,_,_,_,_,_,_,_,_,_=>False
 |k+1,a,b,c,d,e,f,g,i,w=>Ch P4 Q (mu P4 Q k) a b c d e f g i w
def gI (Q:L3 WP)(R4:L3 (Int->WP))(a:OA)(b c:Nat)(d:Int)(w:World):Prop:=cond (decide (d<(b:Int))) (aK d b<|wA a λe=>af .i64 ((e.add (d.toNat*3)).add 0) w.drew λf=>af .i64 ((e.add (d.toNat*3)).add 1) w.drew λg=>af .i64 ((e.add (d.toNat*3)).add 2) w.drew λi=>aK (IntKind.wrap .i64 (d-1)) b<|wA a λj=>af .i64 ((j.add (((IntKind.wrap .i64 (d-1))).toNat*3)).add 0) w.drew λl=>af .i64 ((j.add (((IntKind.wrap .i64 (d-1))).toNat*3)).add 1) w.drew λm=>af .i64 ((j.add (((IntKind.wrap .i64 (d-1))).toNat*3)).add 2) w.drew λn=>bZ P .eql 294 (.tmp 19) (.tmp 24) (.agg #[ae f,ae g,ae i]) (.agg #[ae l,ae m,ae n]) w.drew λo w=>cond o (cj a b c 3 (some d) none λp q r=>∃k',mu R4 Q k' a b c d p q r 1 w) (R4 a b c (IntKind.wrap .i64 (d+1)) w)) (Q a b c w)
def fm (Q:L3 WP):Nat->L3 (Int->WP)
 |0,_,_,_,_,_=>False
 |k+1,a,b,c,d,w=>gI Q (fm Q k) a b c d w
noncomputable def lR:cm:=[(6,sp 0 9 (.op 9 .done)),(11,sp 0 9 (.op 9 .done))]
def Ci {P4}(Q)(H4:Bk 61 Tryz.f198 (jj Q) 4 [(0,.l),(3,.i .i64)] P4):∀k,Bk 61 Tryz.f198 (jj Q) 9 [(0,.l),(3,.i .i64),(4,.l),(5,.i .i64)] (mu P4 Q k):=bH λk h=>aS (ok 61) lR [aO h]
def Cj (Q):∀k,Bk 61 Tryz.f198 (jj Q) 4 [(0,.l),(3,.i .i64)] (fm Q k):=bH λk h=>aS (ok 61) lR [aO h,cg (Ci Q h)]
def Ba:=λa b c w Q=>bB (lu a b c w Q) (cond (decide ((b:Int)<2)) (Q a b c w) (∃k',fm Q k' a b c 1 w)) (ok 61) lR [cg (Cj Q)] Tryz.func198
def ZS:=λa b c w Q=>bB (kG a b c w Q) (ji a b c w λd e f w=>kP d e f (.func (.func 197) #[] #[]) w λw=>lu d e f w λg i j w=>Q g i j w) (ok 9) [] [] Tryz.func176
def vk (P6:OA->OA->Int->Int->Int->L3 (L3 (Int->Int->WP)))(Q:L3 WP)(R9:OA->OA->Int->Int->Int->L3 (Int->L3 (Int->Int->L3 (Int->Int->WP))))(a b:OA)(c d e:Int)(f:OA)(g i:Nat)(j:Int)(l:OA)(m n:Nat)(o p:Int)(q:OA)(r s:Nat)(t u:Int)(w:World):Prop:=cond (decide (u<t)) (aK u r<|wA q λv=>af .i64 ((v.add (u.toNat*2)).add 0) w λx=>af .i64 ((v.add (u.toNat*2)).add 1) w λy=>Al T 292 w λz w=>St (z.add 0) (ae x) w λw=>St (z.add 1) (ae y) w λw=>af .i64 z w λa1=>z_ b a1 w λb1 w=>cond (b1 !=1099511627776) (af .i64 z w.drew λc1=>af .i64 (z.add 1) w.drew λd1=>nk d e j w.drew λe1 w=>w.cell? (z.add 1)=some (ae d1)/\w.cell? z=some (ae c1)/\EW d e j c1 w λf1 w=>w.cell? (z.add 1)=some (ae d1)/\Bx [ae e1,ae f1,ae (IntKind.wrap .i64 (d1+b1))] 294 w λg1 w=>App P #[278,278] 278 (.slice f g i) (.slice (some g1) 1 1) w λi1 j1 l1 w=>R9 a b c d e i1 j1 l1 j l m n o p q r s t (IntKind.wrap .i64 (u+1)) w) (R9 a b c d e f g i j l m n o p q r s t (IntKind.wrap .i64 (u+1)) w)) (P6 a b c d e f g i l m n o (IntKind.wrap .i64 (p+1)) w)
def qZ (P6:OA->OA->Int->Int->Int->L3 (L3 (Int->Int->WP)))(Q:L3 WP):Nat->OA->OA->Int->Int->Int->L3 (Int->L3 (Int->Int->L3 (Int->Int->WP)))
 |0,_,_,_,_,_,_,_,_,_,_,_,_,_,_,_,_,_,_,_,_=>False
 |k+1,a,b,c,d,e,f,g,i,j,l,m,n,o,p,q,r,s,t,u,w=>vk P6 Q (qZ P6 Q k) a b c d e f g i j l m n o p q r s t u w
def vl (Q:L3 WP)(R6:OA->OA->Int->Int->Int->L3 (L3 (Int->Int->WP)))(a b:OA)(c d e:Int)(f:OA)(g i:Nat)(j:OA)(l m:Nat)(n o:Int)(w:World):Prop:=cond (decide (o<n)) (aK o l<|wA j λp=>af .i64 (p.add (o.toNat*1)) w λq=>B5 a q w λr s t w=>∃k',qZ R6 Q k' a b c d e f g i q j l m n o r s t (s:Int) 0 w) (xY b w λu w=>dY d e u w λv w=>cond (v==c) (e9 a u w λx w=>cond (x !=255) (nk d e u w λy w=>Bx [ae y,ae 4,ae 0] 294 w λz w=>App P #[278,278] 278 (.slice f g i) (.slice (some z) 1 1) w λa1 b1 c1 w=>kG a1 b1 c1 w λd1 e1 f1 w=>Q d1 e1 f1 w) (kG f g i w λg1 i1 j1 w=>Q g1 i1 j1 w)) (kG f g i w λl1 m1 n1 w=>Q l1 m1 n1 w))
def n_ (Q:L3 WP):Nat->OA->OA->Int->Int->Int->L3 (L3 (Int->Int->WP))
 |0,_,_,_,_,_,_,_,_,_,_,_,_,_,_=>False
 |k+1,a,b,c,d,e,f,g,i,j,l,m,n,o,w=>vl Q (n_ Q k) a b c d e f g i j l m n o w
noncomputable def DK:cm:=[(13,sp 0 4 (sp 5 5 (sp 11 4 (.op 4 (.op 10 (.op 15 (.op 16 (.op 17 (.op 18 .done)))))))))]
def ZT {P6}(Q)(H6:Bk 96 Tryz.f162 (z9 Q) 6 [(0,.p),(1,.p),(2,.i .i64),(7,.i .i64),(8,.i .i64),(9,.l),(32,.l),(33,.i .i64),(34,.i .i64)] P6):∀k,Bk 96 Tryz.f162 (z9 Q) 9 [(0,.p),(1,.p),(2,.i .i64),(7,.i .i64),(8,.i .i64),(9,.l),(11,.i .i64),(32,.l),(33,.i .i64),(34,.i .i64),(40,.l),(41,.i .i64),(42,.i .i64)] (qZ P6 Q k):=bH λk h=>aS (ok 96) DK [aO H6,aO h]
def ZU (Q):∀k,Bk 96 Tryz.f162 (z9 Q) 6 [(0,.p),(1,.p),(2,.i .i64),(7,.i .i64),(8,.i .i64),(9,.l),(32,.l),(33,.i .i64),(34,.i .i64)] (n_ Q k):=bH λk h=>aS (ok 96) DK [cg (ZT Q h)]
def VX:=λa b c w Q=>bB (B4 a b c w Q) (eL a w λd e w=>cond b.isNone (Q none 0 0 w) (wB b w λf w=>f_ a w λg w=>cond (f !=g) (Q none 0 0 w) (oq a c w λi j l w=>∃k',n_ Q k' a b c d e none 0 0 i j l (j:Int) 0 w))) (ok 96) DK [cg (ZU Q)] Tryz.func162
def MU:=λa b w Q=>bB (ja a b w Q) (cond a.isNone (Q 0 w) (cond (decide (b<0)) (Q 0 w) (wA a λc=>aA (c.add 4) w λd e f=>cond (decide (b≥(e:Int))) (Q 0 w) (wA a λg=>aA (g.add 4) w λi j l=>aK b j<|wA i λm=>af .i64 (m.add (b.toNat*1)) w λn=>Q n w)))) (ok 27) [] [] Tryz.func165
def qI (Q:L3 WP)(R5:OA->L3 (Int->Int->WP))(a b:OA)(c d:Nat)(e f:Int)(w:World):Prop:=cond (decide (f<e)) (wA a λg=>aA (g.add 1) w.drew λi j l=>aK f j<|wA i λm=>af .i64 (m.add (f.toNat*3)) w.drew λn=>wA a λo=>bp o w.drew λp=>ja p f w.drew λq w=>w.cell? (m.add (f.toNat*3))=some (ae n)/\w.cell? (g.add 1)=some (.slice i j l)/\cond (n !=q) (Bx [ae f] 3 w λr w=>App P #[29,29] 29 (.slice b c d) (.slice (some r) 1 1) w λs t u w=>R5 a s t u e (IntKind.wrap .i64 (f+1)) w) (R5 a b c d e (IntKind.wrap .i64 (f+1)) w)) (Q b c d w)
def nI (Q:L3 WP):Nat->OA->L3 (Int->Int->WP)
 |0,_,_,_,_,_,_,_=>False
 |k+1,a,b,c,d,e,f,w=>qI Q (nI Q k) a b c d e f w
noncomputable def Gs:cm:=[(1,sp 0 11 (.op 11 (sp 12 2 .done))),(7,sp 0 13 (.op 13 (.op 14 .done)))]
def UH (Q):∀k,Bk 48 Tryz.f199 (Hu Q) 5 [(0,.p),(3,.l),(23,.i .i64),(24,.i .i64)] (nI Q k):=bH λk h=>aS (ok 48) Gs [aO h]
def Qy:=λa w Q=>bB (y6 a w Q) (cond a.isNone (Q none 0 0 w.drew) (wA a λb=>af .i64 (b.add 2) w.drew λc=>wA a λd=>bp d w.drew λe=>f_ e w.drew λf w=>w.cell? (b.add 2)=some (ae c)/\cond (c==f) (Q none 0 0 w) (wA a λg=>aA (g.add 1) w λi j l=>∃k',nI Q k' a none 0 0 (j:Int) 0 w))) (ok 48) Gs [cg (UH Q)] Tryz.func199
def agG:=λa b c d e f w Q=>bB (JF a b c d e f w Q) (Bx [ae a,ae b,.slice c d e] 84 w λg w=>cond (decide (f≥0)) (aA (g.add 2) w λi j l=>cond (decide (f<(j:Int))) (af .i64 (g.add 0) w λm=>af .i64 (g.add 1) w λn=>aA (g.add 2) w λo p q=>uP m n o p q w λr w=>Q r w) (Q false w)) (Q false w)) (ok 18) [] [] Tryz.func279
def agH:=λa b c d e f w Q=>bB (JE a b c d e f w Q) (Bx [ae a,ae b,.slice c d e] 84 w λg w=>af .i64 (g.add 0) w λi=>af .i64 (g.add 1) w λj=>aA (g.add 2) w λl m n=>JF i j l m n f w λo w=>cond (!o) (Q 0 w) (aA (g.add 2) w λp q r=>aK f q<|wA p λs=>af .u8 (s.add (f.toNat*1)) w λt=>Q (IntKind.wrap .i64 t) w)) (ok 15) [] [] Tryz.func270
def AR (Q:Bool->WP)(R2:L3 (Addr->L3 (Int->Int->WP)))(a:OA)(b c:Nat)(d:Addr)(e:OA)(f g:Nat)(i j:Int)(w:World):Prop:=cond (decide (j<i)) (aK j f<|wA e λl=>af .i64 (l.add (j.toNat*1)) w λm=>af .i64 (d.add 0) w λn=>af .i64 (d.add 1) w λo=>aA (d.add 2) w λp q r=>JE n o p q r m w λs w=>cond (s==0) (Q false w) (cond (s==255) (Q false w) (cond (decide (j>0)) (aK (IntKind.wrap .i64 (j-1)) b<|wA a λt=>af .i64 (t.add (((IntKind.wrap .i64 (j-1))).toNat*1)) w λu=>cond (decide (m<=u)) (Q false w) (R2 a b c d e f g i (IntKind.wrap .i64 (j+1)) w)) (R2 a b c d e f g i (IntKind.wrap .i64 (j+1)) w)))) (af .i64 (d.add 0) w λv=>af .i64 (d.add 1) w λx=>aA (d.add 2) w λy z a1=>uP v x y z a1 w λb1 w=>Q b1 w)
def wR (Q:Bool->WP):Nat->L3 (Addr->L3 (Int->Int->WP))
 |0,_,_,_,_,_,_,_,_,_,_=>False
 |k+1,a,b,c,d,e,f,g,i,j,w=>AR Q (wR Q k) a b c d e f g i j w
def agI (Q):∀k,Bk 40 Tryz.f254 (TL Q) 2 [(1,.l),(2,.a),(8,.l),(9,.i .i64),(10,.i .i64)] (wR Q k):=bH λk h=>aS (ok 40) [] [aO h]
def abF:=λa b c d e f g i w Q=>bB (Gm a b c d e f g i w Q) (Bx [ae a,ae b,.slice c d e] 84 w λj w=>∃k',wR Q k' f g i j f g i (g:Int) 0 w) (ok 40) [] [cg (agI Q)] Tryz.func254
def gh (Q:Int->WP)(R2:L3 (Value->Int->Int->WP))(a:OA)(b c:Nat)(d:Value)(e f:Int)(w:World):Prop:=cond (decide (f<e)) (aK f b<|wA a λg=>af .i64 ((g.add (f.toNat*3)).add 0) w λi=>af .i64 ((g.add (f.toNat*3)).add 1) w λj=>af .i64 ((g.add (f.toNat*3)).add 2) w λl=>ik (cx 19) d [.agg #[ae i,ae j,ae l]] w λm w=>dB m λn=>cond n (Q f w) (R2 a b c d e (IntKind.wrap .i64 (f+1)) w)) (Q (-1) w)
def eZ (Q:Int->WP):Nat->L3 (Value->Int->Int->WP)
 |0,_,_,_,_,_,_,_=>False
 |k+1,a,b,c,d,e,f,w=>gh Q (eZ Q k) a b c d e f w
def Bb (Q):∀k,Bk 19 Tryz.f233 (qF Q) 2 [(0,.l),(1,.v),(7,.i .i64),(8,.i .i64)] (eZ Q k):=bH λk h=>aS (ok 19) [] [aO h]
def An:=λa b c d w Q=>bB (pI a b c d w Q) (∃k',eZ Q k' a b c d (b:Int) 0 w) (ok 19) [] [cg (Bb Q)] Tryz.func233
def yp:=λa b c d w Q=>bB (nY a b c d w Q) (pI a b c d w λe w=>Q (decide (e≥0)) w) (ok 9) [] [] Tryz.func209
noncomputable def adO:cm:=[(1,sp 0 8 (.op 8 (.op 9 .done)))]
def abG:=λa b c d e f g w Q=>bB (Gl a b c d e f g w Q) (Bx [ae a,ae b,.slice c d e] 84 w λi w=>af .i64 i w.drew λj=>NZ j<|af .i64 i w.drew λl=>NZ l<|w.drew.cell? i=some (ae l)/\cond (g==0) (Q ((IntKind.wrap .i64 (Int.tdiv f l))==0) w.drew) (cond (g==1) (af .i64 i w.drew λm=>Q ((Int.tmod f j)==(IntKind.wrap .i64 (m-1))) w.drew) (cond (g==2) (af .i64 (i.add 1) w.drew λn=>Q ((IntKind.wrap .i64 (Int.tdiv f l))==(IntKind.wrap .i64 (n-1))) w.drew) (cond (g==3) (Q ((Int.tmod f j)==0) w.drew) (Q (g==4) w.drew))))) (ok 42) adO [] Tryz.func211
def Ye:=λa b c d w Q=>bB (DH a b c d w Q) (Bx [ae a,ae b,ae c] 294 w λe w=>af .i64 e w λf=>cond (decide (f<0)) (Q true w) (af .i64 e w λg=>wA d λi=>aA (i.add 2) w λj l m=>cond (decide (g≥(l:Int))) (Q true w) (wA d λn=>aA (n.add 2) w λo p q=>af .i64 e w λr=>aK r p<|wA o λs=>af .u8 (s.add (r.toNat*1)) w λt=>cond (t==255) (Q true w) (af .i64 (e.add 2) w λu=>cond (decide (u<0)) (Q true w) (af .i64 (e.add 2) w λv=>cond (decide (v>1073741824)) (Q true w) (wA d λx=>af .i64 (x.add 0) w λy=>af .i64 (x.add 1) w λz=>aA (x.add 2) w λa1 b1 c1=>af .i64 e w λd1=>af .i64 (e.add 1) w λe1=>Gl y z a1 b1 c1 d1 e1 w λf1 w=>Q (!f1) w)))))) (ok 43) [] [] Tryz.func210
def abH:=λa b c d e f g i w Q=>bB (Bn a b c d e f g i w Q) (Bx [ae a,ae b,.slice c d e] 84 w λj w=>af .i64 (j.add 0) w λl=>af .i64 (j.add 1) w λm=>aA (j.add 2) w λn o p=>uP l m n o p w λq w=>cond (!q) (Q false w) (nY f g i (.func (.func 210) #[] #[.pointer (some j)]) w λr w=>Q (!r) w)) (ok 12) [] [] Tryz.func179
def adP:=λa w Q=>bB (CU a w Q) (cond (decide (a<0)) (Q none w) (cond (decide (a>1099511627776)) (Q none w) (Bx [ae a,ae 0,.slice none 0 0,ae 0,.slice none 0 0,ae 0,.slice none 0 0,ae 0,.slice none 0 0,ae 0,.slice none 0 0,ae 0,.slice none 0 0,ae 0,.slice none 0 0,ae 0,.slice none 0 0,ae 0,.slice none 0 0,ae 0,.slice none 0 0,ae 0,.slice none 0 0,ae 0,.slice none 0 0,ae 0,.slice none 0 0,ae 0,.slice none 0 0,ae 0,.slice none 0 0,ae 0,.slice none 0 0,ae 0,.slice none 0 0,ae 0,.slice none 0 0,ae 0,.slice none 0 0,ae 0,.slice none 0 0,ae 0,.slice none 0 0,ae 0,.slice none 0 0,ae 0,.slice none 0 0,ae 0,.slice none 0 0,ae 0,.slice none 0 0,ae 0,.slice none 0 0,ae 0,.slice none 0 0,ae 0,.slice none 0 0,ae 0,.slice none 0 0,ae 0,.slice none 0 0,ae 0,.slice none 0 0,ae 0,.slice none 0 0,ae 0,.slice none 0 0,ae 0,.slice none 0 0,ae 0,.slice none 0 0,ae 0,.slice none 0 0,ae 0,.slice none 0 0,ae 0,.slice none 0 0,ae 0,.slice none 0 0,ae 0,.slice none 0 0,ae 0,.slice none 0 0,ae 0,.slice none 0 0,ae 0,.slice none 0 0,ae 0,.slice none 0 0,ae 0,.slice none 0 0,ae 0,.slice none 0 0,ae 0,.slice none 0 0,ae 0,.slice none 0 0,ae 0,.slice none 0 0,ae 0,.slice none 0 0,ae 0,.slice none 0 0,ae 0,.slice none 0 0,ae 0,.slice none 0 0,ae 0,.slice none 0 0,ae 0,.slice none 0 0,ae 0,.slice none 0 0,ae 0,.slice none 0 0,ae 0,.slice none 0 0,ae 0,.slice none 0 0,ae 0,.slice none 0 0,ae 0,.slice none 0 0,ae 0,.slice none 0 0,ae 0,.slice none 0 0,ae 0,.slice none 0 0,ae 0,.slice none 0 0,ae 0,.slice none 0 0,ae 0,.slice none 0 0,ae 0,.slice none 0 0,ae 0,.slice none 0 0,ae 0,.slice none 0 0,ae 0,.slice none 0 0,ae 0,.slice none 0 0,ae 0,.slice none 0 0,ae 0,.slice none 0 0,ae 0,.slice none 0 0,ae 0,.slice none 0 0,ae 0,.slice none 0 0,ae 0,.slice none 0 0,ae 0,.slice none 0 0,ae 0,.slice none 0 0,ae 0,.slice none 0 0,ae 0,.slice none 0 0,ae 0,.slice none 0 0,ae 0,.slice none 0 0,ae 0,.slice none 0 0,ae 0,.slice none 0 0,ae 0,.slice none 0 0,ae 0,.slice none 0 0,ae 0,.slice none 0 0,ae 0,.slice none 0 0,ae 0,.slice none 0 0,ae 0,.slice none 0 0,ae 0,.slice none 0 0,ae 0,.slice none 0 0,ae 0,.slice none 0 0,ae 0,.slice none 0 0,ae 0,.slice none 0 0,ae 0,.slice none 0 0,ae 0,.slice none 0 0,ae 0,.slice none 0 0,ae 0,.slice none 0 0,ae 0,.slice none 0 0,ae 0,.slice none 0 0,ae 0,.slice none 0 0,ae 0,.slice none 0 0,ae 0,.slice none 0 0,ae 0,.slice none 0 0,ae 0,.slice none 0 0,ae 0,.slice none 0 0,ae 0,.slice none 0 0,ae 0,.slice none 0 0,ae 0,.slice none 0 0,ae 0,.slice none 0 0,ae 0,.slice none 0 0,ae 0,.slice none 0 0,ae 0,.slice none 0 0,ae 0,.slice none 0 0,ae 0,.slice none 0 0,ae 0,.slice none 0 0,ae 0,.slice none 0 0,ae 0,.slice none 0 0,ae 0,.slice none 0 0,ae 0,.slice none 0 0,ae 0,.slice none 0 0,ae 0,.slice none 0 0,ae 0,.slice none 0 0,ae 0,.slice none 0 0,ae 0,.slice none 0 0,ae 0,.slice none 0 0,ae 0,.slice none 0 0,ae 0,.slice none 0 0,ae 0,.slice none 0 0,ae 0,.slice none 0 0,ae 0,.slice none 0 0,ae 0,.slice none 0 0,ae 0,.slice none 0 0,ae 0,.slice none 0 0,ae 0,.slice none 0 0,ae 0,.slice none 0 0,ae 0,.slice none 0 0,ae 0,.slice none 0 0,ae 0,.slice none 0 0,ae 0,.slice none 0 0,ae 0,.slice none 0 0,ae 0,.slice none 0 0,ae 0,.slice none 0 0,ae 0,.slice none 0 0,ae 0,.slice none 0 0,ae 0,.slice none 0 0,ae 0,.slice none 0 0,ae 0,.slice none 0 0,ae 0,.slice none 0 0,ae 0,.slice none 0 0,ae 0,.slice none 0 0,ae 0,.slice none 0 0,ae 0,.slice none 0 0,ae 0,.slice none 0 0,ae 0,.slice none 0 0,ae 0,.slice none 0 0,ae 0,.slice none 0 0,ae 0,.slice none 0 0,ae 0,.slice none 0 0,ae 0,.slice none 0 0,ae 0,.slice none 0 0,ae 0,.slice none 0 0,ae 0,.slice none 0 0,ae 0,.slice none 0 0,ae 0,.slice none 0 0,ae 0,.slice none 0 0,ae 0,.slice none 0 0,ae 0,.slice none 0 0,ae 0,.slice none 0 0,ae 0,.slice none 0 0,ae 0,.slice none 0 0,ae 0,.slice none 0 0,ae 0,.slice none 0 0,ae 0,.slice none 0 0,ae 0,.slice none 0 0,ae 0,.slice none 0 0,ae 0,.slice none 0 0,ae 0,.slice none 0 0,ae 0,.slice none 0 0,ae 0,.slice none 0 0,ae 0,.slice none 0 0,ae 0,.slice none 0 0,ae 0,.slice none 0 0,ae 0,.slice none 0 0,ae 0,.slice none 0 0,ae 0,.slice none 0 0,ae 0,.slice none 0 0,ae 0,.slice none 0 0,ae 0,.slice none 0 0,ae 0,.slice none 0 0,ae 0,.slice none 0 0,ae 0,.slice none 0 0,ae 0,.slice none 0 0,ae 0,.slice none 0 0,ae 0,.slice none 0 0,ae 0,.slice none 0 0,ae 0,.slice none 0 0,ae 0,.slice none 0 0,ae 0,.slice none 0 0,ae 0,.slice none 0 0,ae 0,.slice none 0 0,ae 0,.slice none 0 0,ae 0,.slice none 0 0,ae 0,.slice none 0 0,ae 0,.slice none 0 0,ae 0,.slice none 0 0,ae 0,.slice none 0 0,ae 0,.slice none 0 0,ae 0,.slice none 0 0,ae 0,.slice none 0 0,ae 0,.slice none 0 0,ae 0,.slice none 0 0,ae 0,.slice none 0 0,ae 0,.slice none 0 0,ae 0,.slice none 0 0,ae 0,.slice none 0 0,ae 0,.slice none 0 0,ae 0,.slice none 0 0,ae 0,.slice none 0 0,ae 0,.slice none 0 0,ae 0,.slice none 0 0,ae 0,.slice none 0 0,ae 0,.slice none 0 0,ae 0,.slice none 0 0,ae 0,.slice none 0 0,ae 0,.slice none 0 0,ae 0,.slice none 0 0,ae 0,.slice none 0 0,ae 0,.slice none 0 0,ae 0,.slice none 0 0,ae 0,.slice none 0 0,ae 0,.slice none 0 0,ae 0,.slice none 0 0,ae 0,.slice none 0 0,ae 0,.slice none 0 0,ae 0,.slice none 0 0,ae 0,.slice none 0 0,ae 0,.slice none 0 0,ae 0,.slice none 0 0,ae 0,.slice none 0 0,ae 0,.slice none 0 0,ae 0,.slice none 0 0,ae 0,.slice none 0 0,ae 0,.slice none 0 0,ae 0,.slice none 0 0,ae 0,.slice none 0 0,ae 0,.slice none 0 0,ae 0,.slice none 0 0,ae 0,.slice none 0 0,ae 0,.slice none 0 0,ae 0,.slice none 0 0,ae 0,.slice none 0 0,ae 0,.slice none 0 0,ae 0] 388 w λb w=>Q (some b) w))) (ok 12) [] [] Tryz.func234
def lJ (Q:L3 WP)(R8:L3 (Int->WP))(a:OA)(b c:Nat)(d:Int)(w:World):Prop:=cond (decide (d<(b:Int))) (cj a b c 1 (some d) none λe f g=>cj a b c 1 none (some d) λi j l=>cV P #[29,29] 3 (.slice e f g) (.slice i j l) w.drew λm w=>R8 a b c (IntKind.wrap .i64 (d+m)) w) (Q a b c w)
def lK (Q:L3 WP):Nat->L3 (Int->WP)
 |0,_,_,_,_,_=>False
 |k+1,a,b,c,d,w=>lJ Q (lK Q k) a b c d w
def uu (Q:L3 WP)(a:OA)(b c:Nat)(d:Int)(w:World):Prop:=False
noncomputable def sX:cm:=[(9,sp 0 7 (.op 7 (.op 8 (.op 9 .done))))]
def Bq (Q):∀k,Bk 48 Tryz.f235 (ug Q) 8 [(7,.l),(8,.i .i64)] (lK Q k):=bH λk h=>aS (ok 48) sX [aO h]
def Ks (Q):Bk 48 Tryz.f235 (ug Q) 5 [(0,.l),(6,.i .u64)] (uu Q):=aS (ok 48) sX [cg (Bq Q)]
def I_:=λa b c d w Q=>bB (ko a b c d w Q) (cond (decide (d<0)) (False) (qE (IntKind.wrap .u64 (b:Int)) (IntKind.wrap .u64 d) w λe f w=>cond (decide (e>0)) (uu Q a b c f w) (cond (decide (f>9223372036854775807)) (uu Q a b c f w) (cO P 29 (ae (IntKind.wrap .i64 f)) (ae (IntKind.wrap .i64 f)) w λg i j w=>cV P #[29,29] 3 (.slice g i j) (.slice a b c) w λl w=>∃k',lK Q k' g i j l w)))) (ok 48) sX [aO (Ks Q),cg (Bq Q)] Tryz.func235
def UI:=λa w Q=>bB (qH a w Q) (cond a.isNone (Q 0 w) (wA a λb=>af .i64 (b.add 1) w λc=>Q c w)) (ok 9) [] [] Tryz.func260
def SC:=λa b w Q=>bB (Ah a b w Q) (cond a.isNone (Q false w) (wA a λc=>af .i64 (c.add 1) w λd=>cond (decide (d>0)) (Q false w) (wA a λe=>af .i64 e w λf=>cond (decide (b<f)) (Q false w) (cond (decide (b>1099511627776)) (Q false w) (wA a λg=>St g (ae b) w λw=>Q true w))))) (ok 30) [] [] Tryz.func272
def Qz:=λa b w Q=>bB (za a b w Q) (wA a λc=>aA c w λd e f=>Bx [ae b] 3 w λg w=>App P #[29,29] 29 (.slice d e f) (.slice (some g) 1 1) w λi j l w=>wA a λm=>St m (.slice i j l) w λw=>Q w) (ok 14) [] [] Tryz.func282
def UJ:=λa b c w Q=>bB (vK a b c w Q) (cond a.isNone (Q false w) (wA a λd=>af .i64 d w λe=>cond (decide (b<e)) (Q false w) (wA a λf=>af .i64 f w λg=>cond (decide ((IntKind.wrap .i64 (b-g))≥256)) (Q false w) (NZ 256<|wA a λi=>aK (Int.tmod b 256) 256<|za (some ((i.add 2).add (((Int.tmod b 256)).toNat*2))) c w λw=>wA a λj=>af .i64 (j.add 1) w λl=>wA a λm=>St (m.add 1) (ae (IntKind.wrap .i64 (l+1))) w λw=>Q true w)))) (ok 41) [] [] Tryz.func273
def x7 (Q:WP)(R2:OA->WP)(a:OA)(w:World):Prop:=wA a λb=>aA (b.add 4) w.drew λc d e=>cond (decide ((d:Int)>0)) (wA a λf=>bp (f.add 3) w.drew λg=>wA a λi=>aA (i.add 4) w.drew λj l m=>aK 0 l<|wA j λn=>af .i64 ((n.add (((0:Int).toNat)*3)).add 2) w.drew λo=>wA a λp=>aA (p.add 4) w.drew λq r s=>aK 0 r<|wA q λt=>af .i64 (t.add (((0:Int).toNat)*3)) w.drew λu=>vK g o u w.drew λv w=>cond v (wA a λx=>aA (x.add 4) w λy z a1=>cj y z a1 3 (some 1) none λb1 c1 d1=>wA a λe1=>St (e1.add 4) (.slice b1 c1 d1) w λw=>R2 a w) (Q w)) (Q w.drew)
def gA (Q:WP):Nat->OA->WP
 |0,_,_=>False
 |k+1,a,w=>x7 Q (gA Q k) a w
noncomputable def Ds:cm:=[(1,sp 0 11 (.op 11 .done)),(2,sp 0 25 (.op 25 (.op 26 .done)))]
def OT (Q):∀k,Bk 63 Tryz.f259 (D2 Q) 2 [(0,.p)] (gA Q k):=bH λk h=>aS (ok 63) Ds [aO h]
def Ly:=λa w Q=>bB (jO a w Q) (wA a λb=>aA (b.add 4) w λc d e=>cond (decide ((d:Int)>0)) (wA a λf=>bp (f.add 3) w λg=>qH g w λi w=>cond (i==0) (wA a λj=>bp (j.add 3) w.drew λl=>wA a λm=>aA (m.add 4) w.drew λn o p=>aK 0 o<|wA n λq=>af .i64 ((q.add (((0:Int).toNat)*3)).add 2) w.drew λr=>Ah l r w.drew λs w=>∃k',gA Q k' a w) (∃k',gA Q k' a w)) (∃k',gA Q k' a w)) (ok 63) Ds [cg (OT Q)] Tryz.func259
noncomputable def OU:cm:=[(1,sp 0 10 (.op 10 .done))]
def MV:=λa w Q=>bB (qA a w Q) (wA a λb=>af .i64 (b.add 1) w.drew λc=>wA a λd=>aA d w.drew λe f g=>Q (c==(f:Int)) w.drew) (ok 13) OU [] Tryz.func274
noncomputable def SD:cm:=[(1,sp 0 10 (.op 10 .done))]
def QA:=λa w Q=>bB (y9 a w Q) (wA a λb=>aA b w.drew λc d e=>wA a λf=>af .i64 (f.add 1) w.drew λg=>aK g d<|wA c λi=>af .i64 (i.add (g.toNat*1)) w.drew λj=>wA a λl=>af .i64 (l.add 1) w.drew λm=>wA a λn=>St (n.add 1) (ae (IntKind.wrap .i64 (m+1))) w.drew λw=>qA a w λo w=>cond o (wA a λp=>aA p w λq r s=>cj q r s 1 none (some 0) λt u v=>wA a λx=>St x (.slice t u v) w λw=>wA a λy=>St (y.add 1) (ae 0) w λw=>Q j w) (Q j w)) (ok 35) SD [] Tryz.func275
def DL (Q:Int->Int->Bool->WP)(R3:OA->WP)(a:OA)(w:World):Prop:=wA a λb=>af .i64 b w.drew λc=>NZ 256<|wA a λd=>aK (Int.tmod c 256) 256<|qA (some ((d.add 2).add (((Int.tmod c 256)).toNat*2))) w.drew λe w=>cond e (wA a λf=>af .i64 f w λg=>wA a λi=>St i (ae (IntKind.wrap .i64 (g+1))) w λw=>R3 a w) (wA a λj=>af .i64 (j.add 1) w λl=>wA a λm=>St (m.add 1) (ae (IntKind.wrap .i64 (l-1))) w λw=>wA a λn=>af .i64 n w.drew λo=>wA a λp=>af .i64 p w.drew λq=>NZ 256<|wA a λr=>aK (Int.tmod q 256) 256<|y9 (some ((r.add 2).add (((Int.tmod q 256)).toNat*2))) w.drew λs w=>w.cell? n=some (ae o)/\Q o s true w)
def pZ (Q:Int->Int->Bool->WP):Nat->OA->WP
 |0,_,_=>False
 |k+1,a,w=>DL Q (pZ Q k) a w
noncomputable def Ja:cm:=[(3,sp 0 9 (.op 9 .done)),(6,sp 0 13 (.op 13 (.op 14 (.op 15 (.op 16 .done)))))]
def Yf (Q):∀k,Bk 46 Tryz.f261 (J7 Q) 3 [(0,.p)] (pZ Q k):=bH λk h=>aS (ok 46) Ja [aO h]
def UK:=λa w Q=>bB (A8 a w Q) (qH a w λb w=>cond (b==0) (Q 0 0 false w) (∃k',pZ Q k' a w)) (ok 46) Ja [cg (Yf Q)] Tryz.func261
def Kt:=λa b c w Q=>bB (iw a b c w Q) (wA a λd=>aA (d.add 2) w λe f g=>aK b f<|wA e λi=>af .u8 (i.add (b.toNat*1)) w λj=>cond (j !=255) (wA a λl=>aA (l.add 5) w λm n o=>aK b n<|wA m λp=>af .i64 (p.add (b.toNat*1)) w λq=>cond (q==1099511627776) (wA a λr=>bp (r.add 3) w λs=>vK s c b w λt w=>Q w) (Q w)) (Q w)) (ok 32) [] [] Tryz.func276
def my (Q:WP)(a:OA)(b c d:Int)(w:World):Prop:=cond (decide (d>0)) (iw a (IntKind.wrap .i64 (b-1)) c w λw=>Q w) (Q w)
def pN (Q:WP)(a:OA)(b c d e:Int)(w:World):Prop:=wA a λf=>af .i64 (f.add 1) w λg=>cond (decide (e<(IntKind.wrap .i64 (g-1)))) (wA a λi=>af .i64 i w λj=>iw a (IntKind.wrap .i64 (b+j)) c w λw=>my Q a b c d w) (my Q a b c d w)
def pO (Q:WP)(a:OA)(b c d e:Int)(w:World):Prop:=wA a λf=>af .i64 f w λg=>cond (decide (d<(IntKind.wrap .i64 (g-1)))) (iw a (IntKind.wrap .i64 (b+1)) c w λw=>pN Q a b c d e w) (pN Q a b c d e w)
noncomputable def oW:cm:=[(0,sp 0 17 (.op 17 .done)),(1,sp 0 14 (.op 14 (.op 15 .done)))]
def Lz (Q):Bk 88 Tryz.f262 (pJ Q) 8 [(0,.p),(1,.i .i64),(4,.i .i64),(5,.i .i64)] (my Q):=aS (ok 88) oW []
def LA (Q):Bk 88 Tryz.f262 (pJ Q) 6 [(0,.p),(1,.i .i64),(4,.i .i64),(5,.i .i64),(6,.i .i64)] (pN Q):=aS (ok 88) oW [aO (Lz Q)]
def LB (Q):Bk 88 Tryz.f262 (pJ Q) 4 [(0,.p),(1,.i .i64),(4,.i .i64),(5,.i .i64),(6,.i .i64)] (pO Q):=aS (ok 88) oW [aO (LA Q)]
def JP:=λa b w Q=>bB (sU a b w Q) (wA a λc=>aA (c.add 5) w.drew λd e f=>aK b e<|wA d λg=>af .i64 (g.add (b.toNat*1)) w.drew λi=>wA a λj=>aA (j.add 2) w.drew λl m n=>aK b m<|wA l λo=>af .u8 (o.add (b.toNat*1)) w.drew λp=>wA a λq=>af .i64 q w.drew.drew λr=>NZ r<|wA a λs=>af .i64 s w.drew.drew λt=>NZ t<|w.drew.drew.cell? s=some (ae t)/\cond (decide ((IntKind.wrap .i64 (Int.tdiv b t))>0)) (wA a λu=>af .i64 u w.drew.drew λv=>iw a (IntKind.wrap .i64 (b-v)) (IntKind.wrap .i64 (i+(IntKind.wrap .i64 p))) w.drew.drew λw=>pO Q a b (IntKind.wrap .i64 (i+(IntKind.wrap .i64 p))) (Int.tmod b r) (IntKind.wrap .i64 (Int.tdiv b t)) w) (pO Q a b (IntKind.wrap .i64 (i+(IntKind.wrap .i64 p))) (Int.tmod b r) (IntKind.wrap .i64 (Int.tdiv b t)) w.drew.drew)) (ok 88) oW [aO (LB Q)] Tryz.func262
def zn (Q:WP)(R1:OA->WP)(a:OA)(w:World):Prop:=wA a λb=>bp (b.add 3) w λc=>qH c w λd w=>cond (decide (d>0)) (wA a λe=>bp (e.add 3) w λf=>A8 f w λg i j w=>wA a λl=>aA (l.add 5) w λm n o=>aK i n<|wA m λp=>af .i64 (p.add (i.toNat*1)) w λq=>cond (q==1099511627776) (wA a λr=>aA (r.add 5) w λs t u=>aK i t<|wA s λv=>St (v.add (i.toNat*1)) (ae g) w λw=>sU a i w λw=>jO a w λw=>R1 a w) (jO a w λw=>R1 a w)) (Q w)
def jQ (Q:WP):Nat->OA->WP
 |0,_,_=>False
 |k+1,a,w=>zn Q (jQ Q k) a w
def QB (Q):∀k,Bk 42 Tryz.f236 (Fv Q) 1 [(0,.p)] (jQ Q k):=bH λk h=>aS (ok 42) [] [aO h]
def MW:=λa w Q=>bB (Dn a w Q) (jO a w λw=>∃k',jQ Q k' a w) (ok 42) [] [cg (QB Q)] Tryz.func236
def q8 (Q:L3 (Int->WP))(a:Addr)(w:World):Prop:=Dn (some a) w λw=>aA (a.add 5) w λb c d=>Q b c d 0 w
noncomputable def J9:cm:=[(3,.op 0 (.op 2 (sp 5 3 (.br (.op 1 (.br (.op 3 (.op 4 (.op 8 (.op 9 (.op 10 (.op 11 .done)))))) (.op 4 (.op 3 (.op 8 (.op 9 (.op 10 (.op 11 .done)))))))) (.op 4 (.op 1 (.op 3 (.op 8 (.op 9 (.op 10 (.op 11 .done)))))))))))]
def ZV (Q):Bk 28 Tryz.f216 (Lu Q) 4 [(6,.a)] (q8 Q):=aS (ok 28) J9 []
def VY:=λa b c d e f g i w Q=>bB (xg a b c d e f g i w Q) (Bx [ae a,ae b,.slice c d e] 84 w λj w=>af .i64 (j.add 0) w λl=>af .i64 (j.add 1) w λm=>aA (j.add 2) w λn o p=>Bn l m n o p f g i w λq w=>cond (!q) (Q none 0 0 1 w) (af .i64 (j.add 0) w.drew λr=>af .i64 (j.add 1) w.drew λs=>aA (j.add 2) w.drew λt u v=>aA (j.add 2) w.drew λx y z=>(CU 0 w.drew λa1 w=>w.cell? (j.add 2)=some (.slice x y z)/\w.cell? (j.add 0)=some (ae r)/\w.cell? (j.add 1)=some (ae s)/\w.cell? (j.add 2)=some (.slice t u v)/\(kG f g i w λb1 c1 d1 w=>w.cell? (j.add 2)=some (.slice x y z)/\w.cell? (j.add 0)=some (ae r)/\w.cell? (j.add 1)=some (ae s)/\w.cell? (j.add 2)=some (.slice t u v)/\Bx [ae 1099511627776] 3 w λe1 w=>w.cell? (j.add 2)=some (.slice x y z)/\w.cell? (j.add 0)=some (ae r)/\w.cell? (j.add 1)=some (ae s)/\w.cell? (j.add 2)=some (.slice t u v)/\ko (some e1) 1 1 (y:Int) w λf1 g1 i1 w=>w.cell? (j.add 0)=some (ae r)/\w.cell? (j.add 1)=some (ae s)/\w.cell? (j.add 2)=some (.slice t u v)/\Bx [ae r,ae s,.slice t u v,.pointer a1,.slice b1 c1 d1,.slice f1 g1 i1] 363 w λj1 w=>q8 Q j1 w)/\(Bx [ae 1099511627776] 3 w λl1 w=>w.cell? (j.add 2)=some (.slice x y z)/\w.cell? (j.add 0)=some (ae r)/\w.cell? (j.add 1)=some (ae s)/\w.cell? (j.add 2)=some (.slice t u v)/\kG f g i w λm1 n1 o1 w=>w.cell? (j.add 2)=some (.slice x y z)/\w.cell? (j.add 0)=some (ae r)/\w.cell? (j.add 1)=some (ae s)/\w.cell? (j.add 2)=some (.slice t u v)/\ko (some l1) 1 1 (y:Int) w λp1 q1 r1 w=>w.cell? (j.add 0)=some (ae r)/\w.cell? (j.add 1)=some (ae s)/\w.cell? (j.add 2)=some (.slice t u v)/\Bx [ae r,ae s,.slice t u v,.pointer a1,.slice m1 n1 o1,.slice p1 q1 r1] 363 w λs1 w=>q8 Q s1 w))/\(Bx [ae 1099511627776] 3 w.drew λt1 w=>w.cell? (j.add 2)=some (.slice x y z)/\w.cell? (j.add 0)=some (ae r)/\w.cell? (j.add 1)=some (ae s)/\w.cell? (j.add 2)=some (.slice t u v)/\CU 0 w λu1 w=>w.cell? (j.add 2)=some (.slice x y z)/\w.cell? (j.add 0)=some (ae r)/\w.cell? (j.add 1)=some (ae s)/\w.cell? (j.add 2)=some (.slice t u v)/\kG f g i w λv1 x1 y1 w=>w.cell? (j.add 2)=some (.slice x y z)/\w.cell? (j.add 0)=some (ae r)/\w.cell? (j.add 1)=some (ae s)/\w.cell? (j.add 2)=some (.slice t u v)/\ko (some t1) 1 1 (y:Int) w λz1 a2 b2 w=>w.cell? (j.add 0)=some (ae r)/\w.cell? (j.add 1)=some (ae s)/\w.cell? (j.add 2)=some (.slice t u v)/\Bx [ae r,ae s,.slice t u v,.pointer u1,.slice v1 x1 y1,.slice z1 a2 b2] 363 w λc2 w=>q8 Q c2 w))) (ok 28) J9 [aO (ZV Q)] Tryz.func216
def adQ:=λa b c d e f w Q=>bB (HU a b c d e f w Q) (Bx [ae a,ae b,.slice c d e] 84 w λg w=>af .i64 (g.add 0) w λi=>af .i64 (g.add 1) w λj=>aA (g.add 2) w λl m n=>Bx [ae f,ae 4,ae 0] 294 w λo w=>xg i j l m n (some o) 1 1 w λp q r s w=>Q p q r s w) (ok 13) [] [] Tryz.func255
def xm (P6:L3 (Addr->Int->L3 (L3 (Int->Int->WP))))(Q:L3 (Int->WP))(R10:L3 (Addr->Int->L3 (Int->L3 (L3 (Int->Int->L3 (Int->Int->WP))))))(a:OA)(b c:Nat)(d:Addr)(e:Int)(f:OA)(g i:Nat)(j:Int)(l:OA)(m n:Nat)(o:OA)(p q:Nat)(r s:Int)(t:OA)(u v:Nat)(x y:Int)(w:World):Prop:=cond (decide (y<x)) (aK y u<|wA t λz=>af .i64 (z.add (y.toNat*1)) w λa1=>aK a1 m<|wA l λb1=>af .i64 (b1.add (a1.toNat*1)) w λc1=>aK (IntKind.wrap .i64 ((IntKind.wrap .i64 (y*e))+j)) g<|wA f λd1=>St (d1.add (((IntKind.wrap .i64 ((IntKind.wrap .i64 (y*e))+j))).toNat*1)) (ae c1) w λw=>R10 a b c d e f g i j l m n o p q r s t u v x (IntKind.wrap .i64 (y+1)) w) (P6 a b c d e f g i o p q r (IntKind.wrap .i64 (s+1)) w)
def sy (P6:L3 (Addr->Int->L3 (L3 (Int->Int->WP))))(Q:L3 (Int->WP)):Nat->L3 (Addr->Int->L3 (Int->L3 (L3 (Int->Int->L3 (Int->Int->WP)))))
 |0=>λ_ _ _ _ _ _ _ _ _ _ _ _ _ _ _ _ _ _ _ _ _ _ _=>False
 |k+1=>λa b c d e f g i j l m n o p q r s t u v x y w=>xm P6 Q (sy P6 Q k) a b c d e f g i j l m n o p q r s t u v x y w
def zo (Q:L3 (Int->WP))(R6:L3 (Addr->Int->L3 (L3 (Int->Int->WP))))(a:OA)(b c:Nat)(d:Addr)(e:Int)(f:OA)(g i:Nat)(j:OA)(l m:Nat)(n o:Int)(w:World):Prop:=cond (decide (o<n)) (aK o l<|wA j λp=>af .i64 (p.add (o.toNat*1)) w λq=>af .i64 (d.add 0) w λr=>af .i64 (d.add 1) w λs=>aA (d.add 2) w λt u v=>HU r s t u v q w λx y z a1 w=>∃k',sy R6 Q k' a b c d e f g i o x y z j l m n o a b c (b:Int) 0 w) (Q f g i 0 w)
def q9 (Q:L3 (Int->WP)):Nat->L3 (Addr->Int->L3 (L3 (Int->Int->WP)))
 |0,_,_,_,_,_,_,_,_,_,_,_,_,_,_=>False
 |k+1,a,b,c,d,e,f,g,i,j,l,m,n,o,w=>zo Q (q9 Q k) a b c d e f g i j l m n o w
def abI {P6}(Q)(H6:Bk 58 Tryz.f227 (CT Q) 6 [(1,.l),(2,.a),(6,.i .i64),(7,.l),(24,.l),(25,.i .i64),(26,.i .i64)] P6):∀k,Bk 58 Tryz.f227 (CT Q) 10 [(1,.l),(2,.a),(6,.i .i64),(7,.l),(8,.i .i64),(10,.l),(24,.l),(25,.i .i64),(26,.i .i64),(37,.l),(38,.i .i64),(39,.i .i64)] (sy P6 Q k):=bH λk h=>aS (ok 58) [] [aO H6,aO h]
def adR (Q):∀k,Bk 58 Tryz.f227 (CT Q) 6 [(1,.l),(2,.a),(6,.i .i64),(7,.l),(24,.l),(25,.i .i64),(26,.i .i64)] (q9 Q k):=bH λk h=>aS (ok 58) [] [cg (abI Q h)]
def ZW:=λa b c d e f g i w Q=>bB (E1 a b c d e f g i w Q) (Bx [ae a,ae b,.slice c d e] 84 w λj w=>af .i64 (j.add 0) w λl=>af .i64 (j.add 1) w λm=>aA (j.add 2) w λn o p=>Gm l m n o p f g i w λq w=>cond (!q) (Q none 0 0 1 w) (cO P 29 (ae (IntKind.wrap .i64 ((g:Int)*(g:Int)))) (ae (IntKind.wrap .i64 ((g:Int)*(g:Int)))) w λr s t w=>∃k',q9 Q k' f g i j (g:Int) r s t f g i (g:Int) 0 w)) (ok 58) [] [cg (adR Q)] Tryz.func227
def qJ (Q:Int->L3 (L3 WP))(R13:Addr->Addr->L3 (Int->Int->WP))(a b:Addr)(c:OA)(d e:Nat)(f g:Int)(w:World):Prop:=cond (decide (g<f)) (aK g d<|wA c λi=>af .i64 (i.add (g.toNat*1)) w λj=>aA (b.add 2) w λl m n=>aK g m<|wA l λo=>St (o.add (g.toNat*1)) (.int .i32 (-1)) w λw=>cond (j !=1099511627776) (aA (b.add 2) w λp q r=>aK g q<|wA p λs=>St (s.add (g.toNat*1)) (.int .i32 (IntKind.wrap .i32 j)) w λw=>R13 a b c d e f (IntKind.wrap .i64 (g+1)) w) (R13 a b c d e f (IntKind.wrap .i64 (g+1)) w)) (af .i64 (b.add 0) w λt=>aA (b.add 1) w λu v x=>aA (b.add 2) w λy z a1=>St (a.add 0) (ae t) w λw=>St (a.add 1) (.slice u v x) w λw=>St (a.add 2) (.slice y z a1) w λw=>af .i64 (a.add 0) w λb1=>aA (a.add 1) w λc1 d1 e1=>aA (a.add 2) w λf1 g1 i1=>Q b1 c1 d1 e1 f1 g1 i1 w)
def lC (Q:Int->L3 (L3 WP)):Nat->Addr->Addr->L3 (Int->Int->WP)
 |0,_,_,_,_,_,_,_,_=>False
 |k+1,a,b,c,d,e,f,g,w=>qJ Q (lC Q k) a b c d e f g w
def rR (Q:Int->L3 (L3 WP))(R6:Addr->Int->Int->Addr->Addr->L3 (L3 (Int->Int->WP)))(a:Addr)(b c:Int)(d e:Addr)(f:OA)(g i:Nat)(j:OA)(l m:Nat)(n o:Int)(w:World):Prop:=cond (decide (o<n)) (aK o l<|wA j λp=>af .i64 (p.add (o.toNat*1)) w λq=>nk b c q w λr w=>Bx [ae r] 3 w λs w=>App P #[29,29] 29 (.slice f g i) (.slice (some s) 1 1) w λt u v w=>R6 a b c d e t u v j l m n (IntKind.wrap .i64 (o+1)) w) (af .i64 (d.add 0) w λx=>af .i64 (d.add 1) w λy=>aA (d.add 2) w λz a1 b1=>E1 x y z a1 b1 f g i w λc1 d1 e1 f1 w=>cO P 296 (ae (d1:Int)) (ae (d1:Int)) w λg1 i1 j1 w=>St (e.add 2) (.slice g1 i1 j1) w λw=>∃k',lC Q k' a e c1 d1 e1 (d1:Int) 0 w)
def oz (Q:Int->L3 (L3 WP)):Nat->Addr->Int->Int->Addr->Addr->L3 (L3 (Int->Int->WP))
 |0,_,_,_,_,_,_,_,_,_,_,_,_,_,_=>False
 |k+1,a,b,c,d,e,f,g,i,j,l,m,n,o,w=>rR Q (oz Q k) a b c d e f g i j l m n o w
def rS (Q:Int->L3 (L3 WP))(a:Addr)(b c:Int)(d e:Addr)(w:World):Prop:=aA (e.add 1) w λf g i=>∃k',oz Q k' a b c d e none 0 0 f g i (g:Int) 0 w
noncomputable def vO:cm:=[(3,sp 0 5 (sp 6 5 (.br (.op 5 (.br (.op 11 (.op 12 (.op 13 (.op 14 .done)))) (.op 13 (.op 11 (.op 12 (.op 14 .done)))))) (.op 13 (.op 5 (.op 11 (.op 12 (.op 14 .done))))))))]
def UL (Q):∀k,Bk 93 Tryz.f200 (xd Q) 13 [(4,.a),(9,.a),(72,.l),(73,.i .i64),(74,.i .i64)] (lC Q k):=bH λk h=>aS (ok 93) vO [aO h]
def VZ (Q):∀k,Bk 93 Tryz.f200 (xd Q) 6 [(4,.a),(5,.i .i64),(6,.i .i64),(7,.a),(9,.a),(10,.l),(48,.l),(49,.i .i64),(50,.i .i64)] (oz Q k):=bH λk h=>aS (ok 93) vO [aO h,cg (UL Q)]
def V0 (Q):Bk 93 Tryz.f200 (xd Q) 4 [(4,.a),(5,.i .i64),(6,.i .i64),(7,.a),(9,.a)] (rS Q):=aS (ok 93) vO [cg (VZ Q)]
def SE:=λa b w Q=>bB (Ab a b w Q) (Al T 319 w λc w=>wA a λd=>bp d w λe=>eL e w λf g w=>wA a λi=>bp i w λj=>tV j b w λl m n o p q w=>Al T 84 w λr w=>St (r.add 0) (ae l) w λw=>St (r.add 1) (ae m) w λw=>St (r.add 2) (.slice n o p) w λw=>wA a λs=>bp s w.drew λt=>wA a λu=>bp u w.drew λv=>(ja t b w.drew λx w=>w.cell? u=some (.pointer v)/\(oq v b w λy z a1 w=>Al T 319 w λb1 w=>w.cell? u=some (.pointer v)/\w.cell? s=some (.pointer t)/\St (b1.add 0) (ae x) w λw=>St (b1.add 1) (.slice y z a1) w λw=>St (b1.add 2) (.slice none 0 0) w λw=>rS Q c f g r b1 w)/\(Al T 319 w λc1 w=>w.cell? u=some (.pointer v)/\w.cell? s=some (.pointer t)/\oq v b w λd1 e1 f1 w=>St (c1.add 0) (ae x) w λw=>St (c1.add 1) (.slice d1 e1 f1) w λw=>St (c1.add 2) (.slice none 0 0) w λw=>rS Q c f g r c1 w))/\(Al T 319 w.drew λg1 w=>w.cell? u=some (.pointer v)/\w.cell? s=some (.pointer t)/\ja t b w λi1 w=>w.cell? u=some (.pointer v)/\oq v b w λj1 l1 m1 w=>St (g1.add 0) (ae i1) w λw=>St (g1.add 1) (.slice j1 l1 m1) w λw=>St (g1.add 2) (.slice none 0 0) w λw=>rS Q c f g r g1 w)) (ok 93) vO [aO (V0 Q)] Tryz.func200
def oA (Q:Int->WP)(R5:OA->L3 (L3 (Int->Int->WP)))(a b:OA)(c d:Nat)(e:OA)(f g:Nat)(i j:Int)(w:World):Prop:=cond (decide (j<i)) (aK j f<|wA e λl=>af .i64 (l.add (j.toNat*1)) w λm=>wA a λn=>aA (n.add 1) w.drew λo p q=>Ab a m w.drew λr s t u v x y w=>w.cell? (n.add 1)=some (.slice o p q)/\(aK m p<|wA o λz=>St ((z.add (m.toNat*3)).add 0) (ae r) w λw=>St ((z.add (m.toNat*3)).add 1) (.slice s t u) w λw=>St ((z.add (m.toNat*3)).add 2) (.slice v x y) w λw=>wA a λa1=>af .u64 (a1.add 3) w λb1=>r9 b1 1 w λc1 w=>wA a λd1=>St (d1.add 3) (.int .u64 c1) w λw=>R5 a b c d e f g i (IntKind.wrap .i64 (j+1)) w)) (wA a λe1=>bp e1 w λf1=>f_ f1 w λg1 w=>wA a λi1=>St (i1.add 2) (ae g1) w λw=>Q (c:Int) w)
def lY (Q:Int->WP):Nat->OA->L3 (L3 (Int->Int->WP))
 |0,_,_,_,_,_,_,_,_,_,_=>False
 |k+1,a,b,c,d,e,f,g,i,j,w=>oA Q (lY Q k) a b c d e f g i j w
noncomputable def D9:cm:=[(7,sp 0 7 (.op 7 (.op 8 (.op 9 .done))))]
def QC (Q):∀k,Bk 44 Tryz.f177 (Fu Q) 5 [(0,.p),(3,.l),(10,.l),(11,.i .i64),(12,.i .i64)] (lY Q k):=bH λk h=>aS (ok 44) D9 [aO h]
def MX:=λa w Q=>bB (wC a w Q) (cond a.isNone (Q 0 w) (y6 a w λb c d w=>∃k',lY Q k' a b c d b c d (c:Int) 0 w)) (ok 44) D9 [cg (QC Q)] Tryz.func177
def jA (Q:L3 WP)(R8:L3 (Int->WP))(a:OA)(b c:Nat)(d:Int)(w:World):Prop:=cond (decide (d<(b:Int))) (cj a b c 1 (some d) none λe f g=>cj a b c 1 none (some d) λi j l=>cV P #[296,296] 3 (.slice e f g) (.slice i j l) w.drew λm w=>R8 a b c (IntKind.wrap .i64 (d+m)) w) (Q a b c w)
def jB (Q:L3 WP):Nat->L3 (Int->WP)
 |0,_,_,_,_,_=>False
 |k+1,a,b,c,d,w=>jA Q (jB Q k) a b c d w
def ql (Q:L3 WP)(a:OA)(b c:Nat)(d:Int)(w:World):Prop:=False
noncomputable def pP:cm:=[(9,sp 0 7 (.op 7 (.op 8 (.op 9 .done))))]
def yf (Q):∀k,Bk 48 Tryz.f201 (qk Q) 8 [(7,.l),(8,.i .i64)] (jB Q k):=bH λk h=>aS (ok 48) pP [aO h]
def Ho (Q):Bk 48 Tryz.f201 (qk Q) 5 [(0,.l),(6,.i .u64)] (ql Q):=aS (ok 48) pP [cg (yf Q)]
def FY:=λa b c d w Q=>bB (oZ a b c d w Q) (cond (decide (d<0)) (False) (qE (IntKind.wrap .u64 (b:Int)) (IntKind.wrap .u64 d) w λe f w=>cond (decide (e>0)) (ql Q a b c f w) (cond (decide (f>9223372036854775807)) (ql Q a b c f w) (cO P 296 (ae (IntKind.wrap .i64 f)) (ae (IntKind.wrap .i64 f)) w λg i j w=>cV P #[296,296] 3 (.slice g i j) (.slice a b c) w λl w=>∃k',jB Q k' g i j l w)))) (ok 48) pP [aO (Ho Q),cg (yf Q)] Tryz.func201
def adS:=λw Q=>bB (CS w Q) (Bx [.slice none 0 0] 351 w λa w=>Q (some a) w) (ok 3) [] [] Tryz.func202
def QD:=λa b c d w Q=>bB (sv a b c d w Q) (Bx [ae a,ae b] 353 w λe w=>Bx [ae c,ae d] 353 w λf w=>af .i64 e w λg=>af .i64 f w λi=>cond (decide (g<i)) (Q true w) (af .i64 e w λj=>af .i64 f w λl=>cond (j==l) (af .i64 (e.add 1) w λm=>af .i64 (f.add 1) w λn=>Q (decide (m<n)) w) (Q false w))) (ok 24) [] [] Tryz.func256
def vm (Q:WP)(R1:OA->Int->WP)(a:OA)(b:Int)(w:World):Prop:=cond (decide (b>0)) (NZ 2<|wA a λc=>aA c w.drew λd e f=>aK b e<|wA d λg=>af .i64 ((g.add (b.toNat*2)).add 0) w.drew λi=>af .i64 ((g.add (b.toNat*2)).add 1) w.drew λj=>wA a λl=>aA l w.drew λm n o=>aK (IntKind.wrap .i64 (Int.tdiv (IntKind.wrap .i64 (b-1)) 2)) n<|wA m λp=>af .i64 ((p.add (((IntKind.wrap .i64 (Int.tdiv (IntKind.wrap .i64 (b-1)) 2))).toNat*2)).add 0) w.drew λq=>af .i64 ((p.add (((IntKind.wrap .i64 (Int.tdiv (IntKind.wrap .i64 (b-1)) 2))).toNat*2)).add 1) w.drew λr=>sv i j q r w.drew λs w=>cond (!s) (Q w) (wA a λt=>aA t w.drew λu v x=>wA a λy=>aA y w.drew λz a1 b1=>wA a λc1=>aA c1 w.drew λd1 e1 f1=>aK (IntKind.wrap .i64 (Int.tdiv (IntKind.wrap .i64 (b-1)) 2)) e1<|wA d1 λg1=>af .i64 ((g1.add (((IntKind.wrap .i64 (Int.tdiv (IntKind.wrap .i64 (b-1)) 2))).toNat*2)).add 0) w.drew λi1=>af .i64 ((g1.add (((IntKind.wrap .i64 (Int.tdiv (IntKind.wrap .i64 (b-1)) 2))).toNat*2)).add 1) w.drew λj1=>wA a λl1=>aA l1 w.drew λm1 n1 o1=>aK b n1<|wA m1 λp1=>af .i64 ((p1.add (b.toNat*2)).add 0) w.drew λq1=>af .i64 ((p1.add (b.toNat*2)).add 1) w.drew λr1=>aK b v<|wA u λs1=>St ((s1.add (b.toNat*2)).add 0) (ae i1) w.drew λw=>St ((s1.add (b.toNat*2)).add 1) (ae j1) w λw=>aK (IntKind.wrap .i64 (Int.tdiv (IntKind.wrap .i64 (b-1)) 2)) a1<|wA z λt1=>St ((t1.add (((IntKind.wrap .i64 (Int.tdiv (IntKind.wrap .i64 (b-1)) 2))).toNat*2)).add 0) (ae q1) w λw=>St ((t1.add (((IntKind.wrap .i64 (Int.tdiv (IntKind.wrap .i64 (b-1)) 2))).toNat*2)).add 1) (ae r1) w λw=>R1 a (IntKind.wrap .i64 (Int.tdiv (IntKind.wrap .i64 (b-1)) 2)) w)) (Q w)
def q_ (Q:WP):Nat->OA->Int->WP
 |0,_,_,_=>False
 |k+1,a,b,w=>vm Q (q_ Q k) a b w
noncomputable def J_:cm:=[(3,sp 0 14 (.op 14 (.op 15 .done))),(4,sp 0 25 (.op 25 (.op 26 (.op 27 .done))))]
def ZX (Q):∀k,Bk 58 Tryz.f228 (Lv Q) 1 [(0,.p),(2,.i .i64)] (q_ Q k):=bH λk h=>aS (ok 58) J_ [aO h]
def V1:=λa w Q=>bB (B9 a w Q) (wA a λb=>aA b w λc d e=>∃k',q_ Q k' a (IntKind.wrap .i64 ((d:Int)-1)) w) (ok 58) J_ [cg (ZX Q)] Tryz.func228
def SF:=λa b c w Q=>bB (mS a b c w Q) (cond a.isNone (Q w) (wA a λd=>aA d w λe f g=>Bx [ae b,ae c] 353 w λi w=>App P #[349,349] 349 (.slice e f g) (.slice (some i) 1 1) w λj l m w=>wA a λn=>St n (.slice j l m) w λw=>B9 a w λw=>Q w)) (ok 22) [] [] Tryz.func206
def UM:=λa w Q=>bB (A7 a w Q) (cond a.isNone (Q 0 w) (wA a λb=>aA b w λc d e=>Q (d:Int) w)) (ok 10) [] [] Tryz.func257
noncomputable def V2:cm:=[(3,sp 0 14 (.op 14 (.op 15 (.op 16 .done))))]
def UN:=λa w Q=>bB (A6 a w Q) (A7 a w λb w=>cond (b==0) (Q 0 0 false w) (wA a λc=>aA c w.drew λd e f=>aK 0 e<|wA d λg=>af .i64 (g.add (((0:Int).toNat)*2)) w.drew λi=>wA a λj=>aA j w.drew λl m n=>aK 0 m<|wA l λo=>af .i64 ((o.add (((0:Int).toNat)*2)).add 1) w.drew λp=>w.drew.cell? ((o.add (((0:Int).toNat)*2)).add 1)=some (ae p)/\w.drew.cell? j=some (.slice l m n)/\Q i p true w.drew)) (ok 22) V2 [] Tryz.func229
def oB (P1:OA->Int->WP)(Q:WP)(a:OA)(b c:Int)(w:World):Prop:=cond (c==b) (Q w) (wA a λd=>aA d w.drew λe f g=>wA a λi=>aA i w.drew λj l m=>wA a λn=>aA n w.drew λo p q=>aK c p<|wA o λr=>af .i64 ((r.add (c.toNat*2)).add 0) w.drew λs=>af .i64 ((r.add (c.toNat*2)).add 1) w.drew λt=>wA a λu=>aA u w.drew λv x y=>aK b x<|wA v λz=>af .i64 ((z.add (b.toNat*2)).add 0) w.drew λa1=>af .i64 ((z.add (b.toNat*2)).add 1) w.drew λb1=>aK b f<|wA e λc1=>St ((c1.add (b.toNat*2)).add 0) (ae s) w.drew λw=>St ((c1.add (b.toNat*2)).add 1) (ae t) w λw=>aK c l<|wA j λd1=>St ((d1.add (c.toNat*2)).add 0) (ae a1) w λw=>St ((d1.add (c.toNat*2)).add 1) (ae b1) w λw=>P1 a c w)
def mz (P1:OA->Int->WP)(Q:WP)(R3:OA->Int->Int->Int->WP)(a:OA)(b c d:Int)(w:World):Prop:=cond (decide (d<=(IntKind.wrap .i64 ((IntKind.wrap .i64 (2*b))+2)))) (wA a λe=>aA e w λf g i=>cond (decide (d<(g:Int))) (wA a λj=>aA j w.drew λl m n=>aK d m<|wA l λo=>af .i64 ((o.add (d.toNat*2)).add 0) w.drew λp=>af .i64 ((o.add (d.toNat*2)).add 1) w.drew λq=>wA a λr=>aA r w.drew λs t u=>aK c t<|wA s λv=>af .i64 ((v.add (c.toNat*2)).add 0) w.drew λx=>af .i64 ((v.add (c.toNat*2)).add 1) w.drew λy=>sv p q x y w.drew λz w=>cond z (R3 a b d (IntKind.wrap .i64 (d+1)) w) (R3 a b c (IntKind.wrap .i64 (d+1)) w)) (oB P1 Q a b c w)) (oB P1 Q a b c w)
def mA (P1:OA->Int->WP)(Q:WP):Nat->OA->Int->Int->Int->WP
 |0,_,_,_,_,_=>False
 |k+1,a,b,c,d,w=>mz P1 Q (mA P1 Q k) a b c d w
def xo (Q:WP)(R1:OA->Int->WP)(a:OA)(b:Int)(w:World):Prop:=∃k',mA R1 Q k' a b b (IntKind.wrap .i64 ((IntKind.wrap .i64 (2*b))+1)) w
def oC (Q:WP):Nat->OA->Int->WP
 |0,_,_,_=>False
 |k+1,a,b,w=>xo Q (oC Q k) a b w
noncomputable def vQ:cm:=[(5,sp 0 14 (.op 14 .done)),(8,sp 0 25 (.op 25 (.op 26 (.op 27 .done))))]
def V3 {P1}(Q)(H1:Bk 71 Tryz.f230 (ou Q) 1 [(0,.p),(2,.i .i64)] P1):Bk 71 Tryz.f230 (ou Q) 7 [(0,.p),(2,.i .i64),(3,.i .i64)] (oB P1 Q):=aS (ok 71) vQ [aO H1]
def V4 {P1}(Q)(H1:Bk 71 Tryz.f230 (ou Q) 1 [(0,.p),(2,.i .i64)] P1):∀k,Bk 71 Tryz.f230 (ou Q) 3 [(0,.p),(2,.i .i64),(3,.i .i64),(4,.i .i64)] (mA P1 Q k):=bH λk h=>aS (ok 71) vQ [aO h,aO (V3 Q H1)]
def V5 (Q):∀k,Bk 71 Tryz.f230 (ou Q) 1 [(0,.p),(2,.i .i64)] (oC Q k):=bH λk h=>aS (ok 71) vQ [cg (V4 Q h)]
def SG:=λa w Q=>bB (Af a w Q) (∃k',oC Q k' a 0 w) (ok 71) vQ [cg (V5 Q)] Tryz.func230
def yC (Q:Int->Int->Bool->WP)(a b:Int)(c:Bool)(w:World):Prop:=Q a b c w
noncomputable def Jb:cm:=[(4,sp 0 12 (.op 12 .done))]
def Yg (Q):Bk 45 Tryz.f207 (DG Q) 7 [(2,.i .i64),(3,.i .i64),(4,.b)] (yC Q):=aS (ok 45) Jb []
def UO:=λa w Q=>bB (jF a w Q) (A6 a w λb c d w=>cond d (wA a λe=>aA e w λf g i=>wA a λj=>aA j w.drew λl m n=>wA a λo=>aA o w.drew λp q r=>aK (IntKind.wrap .i64 ((g:Int)-1)) q<|wA p λs=>af .i64 ((s.add (((IntKind.wrap .i64 ((g:Int)-1))).toNat*2)).add 0) w.drew λt=>af .i64 ((s.add (((IntKind.wrap .i64 ((g:Int)-1))).toNat*2)).add 1) w.drew λu=>aK 0 m<|wA l λv=>St ((v.add (((0:Int).toNat)*2)).add 0) (ae t) w.drew λw=>St ((v.add (((0:Int).toNat)*2)).add 1) (ae u) w λw=>wA a λx=>aA x w λy z a1=>cj y z a1 2 none (some (IntKind.wrap .i64 ((g:Int)-1))) λb1 c1 d1=>wA a λe1=>St e1 (.slice b1 c1 d1) w λw=>Af a w λw=>yC Q b c d w) (yC Q b c d w)) (ok 45) Jb [aO (Yg Q)] Tryz.func207
def m9 (P8:OA->Int->Int->Int->ON->OA->Int->Int->Bool->WP)(Q:ON->WP)(a:OA)(b c d:Int)(e:ON)(f:OA)(w:World):Prop:=jF f w λg i j w=>P8 a b c d e f g i j w
def mB (P8:OA->Int->Int->Int->ON->OA->Int->Int->Bool->WP)(Q:ON->WP)(YK:OA->Int->Int->Int->ON->OA->Int->Int->Int->WP)(a:OA)(b c d:Int)(e:ON)(f:OA)(g i j:Int)(w:World):Prop:=cond (decide (j<=3)) (n7 c d i j w λl w=>cond (decide (l<0)) (YK a b c d e f g i (IntKind.wrap .i64 (j+1)) w) (dY c d l w λm w=>dY c d b w λn w=>cond (m !=n) (YK a b c d e f g i (IntKind.wrap .i64 (j+1)) w) (wA a λo=>bp (o.add 1) w λp=>e9 p l w λq w=>cond (q==255) (YK a b c d e f g i (IntKind.wrap .i64 (j+1)) w) (wA a λr=>bp (r.add 1) w λs=>e9 s i w λt w=>mS f (IntKind.wrap .i64 (g+t)) l w λw=>YK a b c d e f g i (IntKind.wrap .i64 (j+1)) w)))) (m9 P8 Q a b c d e f w)
def iI (P8:OA->Int->Int->Int->ON->OA->Int->Int->Bool->WP)(Q:ON->WP):Nat->OA->Int->Int->Int->ON->OA->Int->Int->Int->WP
 |0,_,_,_,_,_,_,_,_,_,_=>False
 |k+1,a,b,c,d,e,f,g,i,j,w=>mB P8 Q (iI P8 Q k) a b c d e f g i j w
def jc (Q:ON->WP)(R8:OA->Int->Int->Int->ON->OA->Int->Int->Bool->WP)(a:OA)(b c d:Int)(e:ON)(f:OA)(g i:Int)(j:Bool)(w:World):Prop:=cond j (aQ P (Instr.lookup 207 (.map e) (ae i) true) w λl w=>dT l λm=>dD m λn o=>dI .i64 n λp=>dD o λq r=>dB q λs=>kN r<|cond s (m9 R8 Q a b c d e f w) (bI P (Instr.mapUpdate 207 (.map e) (ae i) (ae g)) w λw=>∃k',iI R8 Q k' a b c d e f g i 0 w)) (Q e w)
def jd (Q:ON->WP):Nat->OA->Int->Int->Int->ON->OA->Int->Int->Bool->WP
 |0,_,_,_,_,_,_,_,_,_,_=>False
 |k+1,a,b,c,d,e,f,g,i,j,w=>jc Q (jd Q k) a b c d e f g i j w
def Dt {P8}(Q)(H8:Bk 103 Tryz.f203 (kz Q) 8 [(0,.p),(1,.i .i64),(5,.i .i64),(6,.i .i64),(7,.m),(8,.p),(9,.i .i64),(10,.i .i64),(11,.b)] P8):Bk 103 Tryz.f203 (kz Q) 9 [(0,.p),(1,.i .i64),(5,.i .i64),(6,.i .i64),(7,.m),(8,.p)] (m9 P8 Q):=aS (ok 103) [] [aO H8]
def LC {P8}(Q)(H8:Bk 103 Tryz.f203 (kz Q) 8 [(0,.p),(1,.i .i64),(5,.i .i64),(6,.i .i64),(7,.m),(8,.p),(9,.i .i64),(10,.i .i64),(11,.b)] P8):∀k,Bk 103 Tryz.f203 (kz Q) 14 [(0,.p),(1,.i .i64),(5,.i .i64),(6,.i .i64),(7,.m),(8,.p),(9,.i .i64),(10,.i .i64),(14,.i .i64)] (iI P8 Q k):=bH λk h=>aS (ok 103) [] [aO (Dt Q H8),aO h]
def MY (Q):∀k,Bk 103 Tryz.f203 (kz Q) 8 [(0,.p),(1,.i .i64),(5,.i .i64),(6,.i .i64),(7,.m),(8,.p),(9,.i .i64),(10,.i .i64),(11,.b)] (jd Q k):=bH λk h=>aS (ok 103) [] [aO (Dt Q h),cg (LC Q h)]
def Ku:=λa b w Q=>bB (tY a b w Q) (wA a λc=>bp (c.add 1) w λd=>eL d w λe f w=>cM P 207 none w λg w=>wA a λi=>bp (i.add 1) w λj=>e9 j b w λl w=>cond (l==255) (Q g w) (CS w λm w=>mS m 0 b w λw=>jF m w λn o p w=>∃k',jd Q k' a b e f g m n o p w)) (ok 103) [] [cg (MY Q)] Tryz.func203
def JQ:=λa b c w Q=>bB (kQ a b c w Q) (cond a.isNone (Q none 0 0 w) (Bx [] 3 w λd w=>App P #[29,29] 29 (.slice (some d) 0 0) (.slice a b c) w λe f g w=>Q e f g w)) (ok 8) [] [] Tryz.func215
def QF:=λa b w Q=>bB (y7 a b w Q) (cond a.isNone (Q none 0 0 w) (cond (decide (b<0)) (Q none 0 0 w) (wA a λc=>aA (c.add 1) w λd e f=>cond (decide (b≥(e:Int))) (Q none 0 0 w) (wA a λg=>aA (g.add 1) w λi j l=>aK b j<|wA i λm=>aA ((m.add (b.toNat*3)).add 1) w λn o p=>kQ n o p w λq r s w=>Q q r s w)))) (ok 29) [] [] Tryz.func204
def OV:=λa b c w Q=>bB (rC a b c w Q) (wA a λd=>aA (d.add 2) w λe f g=>aK b f<|wA e λi=>af .i32 (i.add (b.toNat*1)) w λj=>cond (decide (c≥(IntKind.wrap .i64 j))) (Q false w) (wA a λl=>aA (l.add 2) w λm n o=>aK b n<|wA m λp=>St (p.add (b.toNat*1)) (.int .i32 (IntKind.wrap .i32 c)) w λw=>Q true w)) (ok 25) [] [] Tryz.func205
def V6:=λa b w Q=>bB (I6 a b w Q) (qG a w λc w=>cond c (qG b w λd w=>cond (!d) (Q true w) (Q (decide (a<b)) w)) (Q (decide (a<b)) w)) (ok 17) [] [] Tryz.func280
def OW:=λa w Q=>bB (nO a w Q) (Q (a !=a) w) (ok 6) [] [] Tryz.func281
def iX (Q:Int->Bool->WP)(R3:L3 (Int->Int->Int->Int->WP))(a:OA)(b c:Nat)(d e f g:Int)(w:World):Prop:=cond (decide (f<g)) (DW 1<|aK (IntKind.wrap .i64 (o_ .u64 (IntKind.wrap .u64 (IntKind.wrap .i64 (f+g))) 1)) b<|wA a λi=>af .i64 (i.add (((IntKind.wrap .i64 (o_ .u64 (IntKind.wrap .u64 (IntKind.wrap .i64 (f+g))) 1))).toNat*1)) w λj=>I6 j d w λl w=>cond l (R3 a b c d e (IntKind.wrap .i64 ((IntKind.wrap .i64 (o_ .u64 (IntKind.wrap .u64 (IntKind.wrap .i64 (f+g))) 1))+1)) g w) (R3 a b c d e f (IntKind.wrap .i64 (o_ .u64 (IntKind.wrap .u64 (IntKind.wrap .i64 (f+g))) 1)) w)) (cond (decide (f<e)) (aK f b<|wA a λm=>af .i64 (m.add (f.toNat*1)) w λn=>cond (n==d) (Q f true w) (aK f b<|wA a λo=>af .i64 (o.add (f.toNat*1)) w λp=>nO p w λq w=>cond q (nO d w λr w=>Q f r w) (Q f false w))) (Q f false w))
def gE (Q:Int->Bool->WP):Nat->L3 (Int->Int->Int->Int->WP)
 |0,_,_,_,_,_,_,_,_=>False
 |k+1,a,b,c,d,e,f,g,w=>iX Q (gE Q k) a b c d e f g w
def FZ (Q):∀k,Bk 54 Tryz.f271 (vY Q) 3 [(0,.l),(1,.i .i64),(6,.i .i64),(7,.i .i64),(8,.i .i64)] (gE Q k):=bH λk h=>aS (ok 54) [] [aO h]
def D_:=λa b c d w Q=>bB (nN a b c d w Q) (∃k',gE Q k' a b c d (b:Int) 0 (b:Int) w) (ok 54) [] [cg (FZ Q)] Tryz.func271
def QG:=λa b w Q=>bB (Fy a b w Q) (wA a λc=>aA (c.add 1) w λd e f=>nN d e f b w λg i w=>Q g i w) (ok 14) [] [] Tryz.func258
def SH:=λa b w Q=>bB (t_ a b w Q) (cond a.isNone (Q none 0 false w) (wA a λc=>bp c w λd=>eL d w λe f w=>dY e f b w λg w=>cond (decide (g<0)) (Q none 0 false w) (wA a λi=>aA (i.add 1) w λj l m=>aK g l<|wA j λn=>Fy (some (n.add (g.toNat*3))) b w λo p w=>Q (some (n.add (g.toNat*3))) o p w))) (ok 44) [] [] Tryz.func231
noncomputable def OX:cm:=[(1,sp 0 15 (.op 15 .done))]
def MZ:=λa b c w Q=>bB (wD a b c w Q) (wA a λd=>aA (d.add 2) w.drew λe f g=>wA a λi=>aA (i.add 1) w.drew λj l m=>aK (IntKind.wrap .i64 ((IntKind.wrap .i64 (b*(l:Int)))+c)) f<|wA e λn=>af .i32 (n.add (((IntKind.wrap .i64 ((IntKind.wrap .i64 (b*(l:Int)))+c))).toNat*1)) w.drew λo=>cond (o !=(-1)) (Q (IntKind.wrap .i64 o) w.drew) (Q 1099511627776 w.drew)) (ok 27) OX [] Tryz.func232
def qK (Q:L3 WP)(YK:OA->Int->OA->L3 (Int->Int->Int->WP))(a:OA)(b:Int)(c d:OA)(e f:Nat)(g i j:Int)(w:World):Prop:=cond (decide (j<=3)) (n7 g i b j w λl w=>t_ a l w λm n o w=>cond o (bZ P .neq 354 (.tmp 89) (.tmp 90) (.pointer m) (.pointer c) w λp w=>cond p (wA a λq=>bp q w λr=>e9 r b w λs w=>Bx [ae l,ae s] 292 w λt w=>App P #[289,289] 289 (.slice d e f) (.slice (some t) 1 1) w λu v x w=>YK a b c u v x g i (IntKind.wrap .i64 (j+1)) w) (YK a b c d e f g i (IntKind.wrap .i64 (j+1)) w)) (YK a b c d e f g i (IntKind.wrap .i64 (j+1)) w)) (Q d e f w)
def lD (Q:L3 WP):Nat->OA->Int->OA->L3 (Int->Int->Int->WP)
 |0,_,_,_,_,_,_,_,_,_,_=>False
 |k+1,a,b,c,d,e,f,g,i,j,w=>qK Q (lD Q k) a b c d e f g i j w
def rT (Q:L3 WP)(R6:OA->Int->OA->Int->L3 (L3 (Int->Int->WP)))(a:OA)(b:Int)(c:OA)(d:Int)(e:OA)(f g:Nat)(i:OA)(j l:Nat)(m n:Int)(w:World):Prop:=cond (decide (n<m)) (aK n j<|wA i λo=>af .i64 (o.add (n.toNat*1)) w λp=>wD c n d w λq w=>cond (n !=d) (cond (q !=1099511627776) (Bx [ae p,ae q] 292 w λr w=>App P #[289,289] 289 (.slice e f g) (.slice (some r) 1 1) w λs t u w=>R6 a b c d s t u i j l m (IntKind.wrap .i64 (n+1)) w) (R6 a b c d e f g i j l m (IntKind.wrap .i64 (n+1)) w)) (R6 a b c d e f g i j l m (IntKind.wrap .i64 (n+1)) w)) (wA a λv=>bp v w λx=>eL x w λy z w=>∃k',lD Q k' a b c e f g y z 0 w)
def mC (Q:L3 WP):Nat->OA->Int->OA->Int->L3 (L3 (Int->Int->WP))
 |0,_,_,_,_,_,_,_,_,_,_,_,_,_=>False
 |k+1,a,b,c,d,e,f,g,i,j,l,m,n,w=>rT Q (mC Q k) a b c d e f g i j l m n w
def UP (Q):∀k,Bk 105 Tryz.f208 (B7 Q) 14 [(0,.p),(1,.i .i64),(5,.p),(8,.l),(12,.i .i64),(13,.i .i64),(14,.i .i64)] (lD Q k):=bH λk h=>aS (ok 105) [] [aO h]
def V7 (Q):∀k,Bk 105 Tryz.f208 (B7 Q) 6 [(0,.p),(1,.i .i64),(5,.p),(6,.i .i64),(8,.l),(38,.l),(39,.i .i64),(40,.i .i64)] (mC Q k):=bH λk h=>aS (ok 105) [] [aO h,cg (UP Q)]
def SI:=λa b w Q=>bB (Ac a b w Q) (t_ a b w λc d e w=>cond (!e) (Q none 0 0 w) (wA c λf=>aA (f.add 1) w λg i j=>cO P 289 (ae 0) (ae (IntKind.wrap .i64 ((i:Int)+1))) w λl m n w=>wA c λo=>aA (o.add 1) w λp q r=>∃k',mC Q k' a b c d l m n p q r (q:Int) 0 w)) (ok 105) [] [cg (V7 Q)] Tryz.func208
def mD (tC:OA->Addr->OA->Int->Int->Bool->WP)(Q:OA->WP)(a:OA)(b:Addr)(c:OA)(w:World):Prop:=jF c w λd e f w=>tC a b c d e f w
def mE (tC:OA->Addr->OA->Int->Int->Bool->WP)(Q:OA->WP)(R17:OA->Addr->OA->Int->L3 (Int->Int->WP))(a:OA)(b:Addr)(c:OA)(d:Int)(e:OA)(f g:Nat)(i j:Int)(w:World):Prop:=cond (decide (j<i)) (aK j f<|wA e λl=>af .i64 ((l.add (j.toNat*2)).add 0) w λm=>af .i64 ((l.add (j.toNat*2)).add 1) w λn=>Al T 292 w λo w=>St (o.add 0) (ae m) w λw=>St (o.add 1) (ae n) w λw=>af .i64 o w λp=>af .i64 (o.add 1) w λq=>rC (some b) p (IntKind.wrap .i64 (d+q)) w λr w=>cond r (af .i64 (o.add 1) w λs=>af .i64 o w λt=>mS c (IntKind.wrap .i64 (d+s)) t w λw=>R17 a b c d e f g i (IntKind.wrap .i64 (j+1)) w) (R17 a b c d e f g i (IntKind.wrap .i64 (j+1)) w)) (mD tC Q a b c w)
def jR (tC:OA->Addr->OA->Int->Int->Bool->WP)(Q:OA->WP):Nat->OA->Addr->OA->Int->L3 (Int->Int->WP)
 |0,_,_,_,_,_,_,_,_,_,_=>False
 |k+1,a,b,c,d,e,f,g,i,j,w=>mE tC Q (jR tC Q k) a b c d e f g i j w
def iJ (Q:OA->WP)(R13:OA->Addr->OA->Int->Int->Bool->WP)(a:OA)(b:Addr)(c:OA)(d e:Int)(f:Bool)(w:World):Prop:=cond f (aA (b.add 2) w λg i j=>aK e i<|wA g λl=>af .i32 (l.add (e.toNat*1)) w λm=>cond (decide (d>(IntKind.wrap .i64 m))) (mD R13 Q a b c w) (wA a λn=>bp n w λo=>Ac o e w λp q r w=>∃k',jR R13 Q k' a b c d p q r (q:Int) 0 w)) (Q (some b) w)
def iK (Q:OA->WP):Nat->OA->Addr->OA->Int->Int->Bool->WP
 |0,_,_,_,_,_,_,_=>False
 |k+1,a,b,c,d,e,f,w=>iJ Q (iK Q k) a b c d e f w
def m_ (Q:OA->WP)(R6:OA->Addr->OA->ON->L3 (Int->Int->WP))(a:OA)(b:Addr)(c:OA)(d:ON)(e:OA)(f g:Nat)(i j:Int)(w:World):Prop:=cond (decide (j<i)) (aK j f<|wA e λl=>af .i64 (l.add (j.toNat*1)) w λm=>aQ P (Instr.lookup 207 (.map d) (ae m) true) w λn w=>dT n λo=>dD o λp q=>dI .i64 p λr=>dD q λs t=>dB s λu=>kN t<|cond u (rC (some b) m r w λv w=>cond v (mS c r m w λw=>R6 a b c d e f g i (IntKind.wrap .i64 (j+1)) w) (R6 a b c d e f g i (IntKind.wrap .i64 (j+1)) w)) (R6 a b c d e f g i (IntKind.wrap .i64 (j+1)) w)) (jF c w λx y z w=>∃k',iK Q k' a b c x y z w)
def je (Q:OA->WP):Nat->OA->Addr->OA->ON->L3 (Int->Int->WP)
 |0,_,_,_,_,_,_,_,_,_,_=>False
 |k+1,a,b,c,d,e,f,g,i,j,w=>m_ Q (je Q k) a b c d e f g i j w
noncomputable def mF:cm:=[(5,sp 0 7 (.op 10 (.op 7 (.op 8 (.op 9 .done)))))]
def Ck {tC}(Q)(H13:Bk 128 Tryz.f178 (jb Q) 13 [(0,.p),(7,.a),(8,.p),(14,.i .i64),(15,.i .i64),(16,.b)] tC):Bk 128 Tryz.f178 (jb Q) 14 [(0,.p),(7,.a),(8,.p)] (mD tC Q):=aS (ok 128) mF [aO H13]
def LD {tC}(Q)(H13:Bk 128 Tryz.f178 (jb Q) 13 [(0,.p),(7,.a),(8,.p),(14,.i .i64),(15,.i .i64),(16,.b)] tC):∀k,Bk 128 Tryz.f178 (jb Q) 17 [(0,.p),(7,.a),(8,.p),(14,.i .i64),(104,.l),(105,.i .i64),(106,.i .i64)] (jR tC Q k):=bH λk h=>aS (ok 128) mF [aO (Ck Q H13),aO h]
def LF (Q):∀k,Bk 128 Tryz.f178 (jb Q) 13 [(0,.p),(7,.a),(8,.p),(14,.i .i64),(15,.i .i64),(16,.b)] (iK Q k):=bH λk h=>aS (ok 128) mF [aO (Ck Q h),cg (LD Q h)]
def M0 (Q):∀k,Bk 128 Tryz.f178 (jb Q) 6 [(0,.p),(7,.a),(8,.p),(9,.m),(52,.l),(53,.i .i64),(54,.i .i64)] (je Q k):=bH λk h=>aS (ok 128) mF [aO h,cg (LF Q)]
def Kv:=λa b w Q=>bB (tW a b w Q) (wA a λc=>bp (c.add 1) w λd=>eL d w λe f w=>wA a λg=>bp (g.add 1) w λi=>f_ i w λj w=>Bx [.int .i32 2147483647] 21 w λl w=>oZ (some l) 1 1 (IntKind.wrap .i64 (e*f)) w λm n o w=>Bx [ae b,ae j,.slice m n o] 298 w λp w=>CS w λq w=>tY a b w λr w=>wA a λs=>bp s w.drew λt=>dY e f b w.drew λu w=>w.cell? s=some (.pointer t)/\y7 t u w λv x y w=>∃k',je Q k' a p q r v x y (x:Int) 0 w) (ok 128) mF [cg (M0 Q)] Tryz.func178
def zp (Q:OA->WP)(a:OA)(w:World):Prop:=wA a λb=>bp (b.add 2) w λc=>Q c w
def oD (Q:OA->WP)(a:OA)(b:Int)(w:World):Prop:=tW a b w λc w=>wA a λd=>St (d.add 2) (.pointer c) w λw=>wA a λe=>af .u64 (e.add 3) w λf=>r9 f 1 w λg w=>wA a λi=>St (i.add 3) (.int .u64 g) w λw=>zp Q a w
noncomputable def x8:cm:=[(4,sp 0 28 (.op 28 (sp 29 2 .done)))]
def FD (Q):Bk 70 Tryz.f163 (yY Q) 7 [(0,.p)] (zp Q):=aS (ok 70) x8 []
def QH (Q):Bk 70 Tryz.f163 (yY Q) 5 [(0,.p),(1,.i .i64)] (oD Q):=aS (ok 70) x8 [aO (FD Q)]
def M1:=λa b w Q=>bB (wv a b w Q) (cond a.isNone (Q none w) (wA a λc=>bp (c.add 1) w λd=>e9 d b w λe w=>cond (e==0) (Q none w) (wA a λf=>bp f w λg=>wC g w λi w=>wA a λj=>bp (j.add 2) w.drew λl=>cond l.isNone (oD Q a b w.drew) (wA a λm=>bp (m.add 2) w.drew λn=>wA n λo=>af .i64 o w.drew λp=>cond (p !=b) (oD Q a b w.drew) (wA a λq=>bp (q.add 2) w.drew λr=>wA r λs=>af .i64 (s.add 1) w.drew λt=>wA a λu=>bp (u.add 1) w.drew λv=>f_ v w.drew λx w=>w.cell? (s.add 1)=some (ae t)/\w.cell? (q.add 2)=some (.pointer r)/\cond (t !=x) (oD Q a b w) (zp Q a w)))))) (ok 70) x8 [aO (QH Q),aO (FD Q)] Tryz.func163
def xp (Q:WP)(a:OA)(b:Addr)(w:World):Prop:=af .i64 (b.add 3) w λc=>cond (c==(-1)) (af .i64 (b.add 2) w λd=>wA a λe=>St (e.add 4) (ae d) w λw=>Q w) (wA a λf=>aA (f.add 1) w.drew λg i j=>af .i64 (b.add 3) w.drew λl=>af .i64 (b.add 2) w.drew λm=>aK l i<|wA g λn=>St ((n.add (l.toNat*4)).add 2) (ae m) w.drew λw=>Q w)
noncomputable def Hy:cm:=[(3,sp 0 10 (.op 10 .done)),(6,sp 0 10 (.op 10 .done))]
def V8 (Q):Bk 48 Tryz.f212 (I5 Q) 4 [(0,.p),(4,.a)] (xp Q):=aS (ok 48) Hy []
def SJ:=λa b w Q=>bB (tZ a b w Q) (wA a λc=>aA (c.add 1) w λd e f=>aK b e<|wA d λg=>af .i64 ((g.add (b.toNat*4)).add 0) w λi=>af .i64 ((g.add (b.toNat*4)).add 1) w λj=>af .i64 ((g.add (b.toNat*4)).add 2) w λl=>af .i64 ((g.add (b.toNat*4)).add 3) w λm=>Al T 334 w λn w=>St (n.add 0) (ae i) w λw=>St (n.add 1) (ae j) w λw=>St (n.add 2) (ae l) w λw=>St (n.add 3) (ae m) w λw=>af .i64 (n.add 2) w λo=>cond (o==(-1)) (af .i64 (n.add 3) w λp=>wA a λq=>St (q.add 3) (ae p) w λw=>xp Q a n w) (wA a λr=>aA (r.add 1) w.drew λs t u=>af .i64 (n.add 2) w.drew λv=>af .i64 (n.add 3) w.drew λx=>aK v t<|wA s λy=>St ((y.add (v.toNat*4)).add 3) (ae x) w.drew λw=>xp Q a n w)) (ok 48) Hy [aO (V8 Q)] Tryz.func212
def Ao (Q:WP)(a:OA)(b:Int)(w:World):Prop:=wA a λc=>St (c.add 3) (ae b) w λw=>Q w
noncomputable def Ka:cm:=[(0,sp 0 16 (.op 16 (sp 17 2 (.op 19 .done)))),(3,sp 0 11 (.op 11 .done))]
def ZY (Q):Bk 46 Tryz.f213 (Lq Q) 4 [(0,.p),(1,.i .i64)] (Ao Q):=aS (ok 46) Ka []
def V9:=λa b w Q=>bB (xe a b w Q) (wA a λc=>aA (c.add 1) w.drew λd e f=>wA a λg=>aA (g.add 1) w.drew λi j l=>wA a λm=>af .i64 (m.add 3) w.drew λn=>aK b e<|wA d λo=>St ((o.add (b.toNat*4)).add 2) (ae (-1)) w.drew λw=>aK b j<|wA i λp=>St ((p.add (b.toNat*4)).add 3) (ae n) w λw=>wA a λq=>af .i64 (q.add 3) w λr=>cond (r==(-1)) (wA a λs=>St (s.add 4) (ae b) w λw=>Ao Q a b w) (wA a λt=>aA (t.add 1) w.drew λu v x=>wA a λy=>af .i64 (y.add 3) w.drew λz=>aK z v<|wA u λa1=>St ((a1.add (z.toNat*4)).add 2) (ae b) w.drew λw=>Ao Q a b w)) (ok 46) Ka [aO (ZY Q)] Tryz.func213
def oe (Q:Int->Bool->Bool->WP)(a:OA)(b:Int)(c d:Bool)(e:Addr)(w:World):Prop:=wA a λf=>cE (f.add 2) w.drew λg=>af .i64 (e.add 0) w.drew λi=>af .i64 (e.add 1) w.drew λj=>bI P (Instr.mapUpdate 180 (.map g) (.agg #[ae i,ae j]) (ae b)) w.drew λw=>xe a b w λw=>Q b c d w
noncomputable def LG:cm:=[(4,sp 0 5 (.op 5 (sp 6 3 (.op 9 (.op 10 .done))))),(7,sp 0 12 (.op 12 .done)),(8,sp 0 8 (.op 8 .done)),(11,sp 0 10 (.op 10 .done)),(13,sp 0 7 (.op 7 (.op 8 (sp 9 2 (.op 11 .done))))),(14,sp 0 6 (.op 6 .done))]
def ZZ (Q):Bk 95 Tryz.f180 (NB Q) 14 [(0,.p),(6,.i .i64),(7,.b),(8,.b),(9,.a)] (oe Q):=aS (ok 95) LG []
def Yh:=λa b c w Q=>bB (DC a b c w Q) (cond a.isNone (Q (-1) false false w) (Al T 253 w λd w=>St (d.add 0) (ae b) w λw=>St (d.add 1) (ae c) w λw=>wA a λe=>cE (e.add 2) w.drew λf=>af .i64 (d.add 0) w.drew λg=>af .i64 (d.add 1) w.drew λi=>aQ P (Instr.lookup 180 (.map f) (.agg #[ae g,ae i]) true) w.drew λj w=>dT j λl=>dD l λm n=>dI .i64 m λo=>dD n λp q=>dB p λr=>kN q<|cond r (tZ a o w λw=>oe Q a o r false d w) (wA a λs=>aA (s.add 1) w.drew λt u v=>wA a λx=>af .i64 x w.drew λy=>cond (decide ((u:Int)<y)) (wA a λz=>aA (z.add 1) w.drew λa1 b1 c1=>wA a λd1=>aA (d1.add 1) w.drew.drew λe1 f1 g1=>af .i64 (d.add 0) w.drew.drew λi1=>af .i64 (d.add 1) w.drew.drew λj1=>Bx [ae i1,ae j1,ae 0,ae 0] 334 w.drew.drew λl1 w=>w.cell? (d1.add 1)=some (.slice e1 f1 g1)/\App P #[179,179] 179 (.slice e1 f1 g1) (.slice (some l1) 1 1) w λm1 n1 o1 w=>wA a λp1=>St (p1.add 1) (.slice m1 n1 o1) w λw=>oe Q a (b1:Int) r false d w) (wA a λq1=>af .i64 (q1.add 4) w.drew λr1=>tZ a r1 w.drew λw=>wA a λs1=>cE (s1.add 2) w.drew λt1=>wA a λu1=>aA (u1.add 1) w.drew λv1 x1 y1=>aK r1 x1<|wA v1 λz1=>af .i64 ((z1.add (r1.toNat*4)).add 0) w.drew λa2=>af .i64 ((z1.add (r1.toNat*4)).add 1) w.drew λb2=>aQ P (Builtin.delete_ #[180,253] 0 [.map t1,.agg #[ae a2,ae b2]].toArray) w.drew λc2 w=>wA a λd2=>aA (d2.add 1) w.drew λe2 f2 g2=>af .i64 (d.add 0) w.drew λi2=>af .i64 (d.add 1) w.drew λj2=>aK r1 f2<|wA e2 λl2=>St ((l2.add (r1.toNat*4)).add 0) (ae i2) w.drew λw=>St ((l2.add (r1.toNat*4)).add 1) (ae j2) w λw=>oe Q a r1 r true d w)))) (ok 95) LG [aO (ZZ Q)] Tryz.func180
def g_ (Q:Bool->WP)(R4:L3 (L3 (Int->Int->WP)))(a:OA)(b c:Nat)(d:OA)(e f:Nat)(g i:Int)(w:World):Prop:=cond (decide (i<g)) (aK i b<|wA a λj=>af .i64 ((j.add (i.toNat*3)).add 0) w.drew λl=>af .i64 ((j.add (i.toNat*3)).add 1) w.drew λm=>af .i64 ((j.add (i.toNat*3)).add 2) w.drew λn=>aK i e<|wA d λo=>af .i64 ((o.add (i.toNat*3)).add 0) w.drew λp=>af .i64 ((o.add (i.toNat*3)).add 1) w.drew λq=>af .i64 ((o.add (i.toNat*3)).add 2) w.drew λr=>bZ P .neq 294 (.tmp 19) (.tmp 23) (.agg #[ae l,ae m,ae n]) (.agg #[ae p,ae q,ae r]) w.drew λs w=>cond s (Q false w) (R4 a b c d e f g (IntKind.wrap .i64 (i+1)) w)) (Q true w)
def fQ (Q:Bool->WP):Nat->L3 (L3 (Int->Int->WP))
 |0,_,_,_,_,_,_,_,_,_=>False
 |k+1,a,b,c,d,e,f,g,i,w=>g_ Q (fQ Q k) a b c d e f g i w
noncomputable def sA:cm:=[(6,sp 0 8 (.op 8 .done))]
def DM (Q):∀k,Bk 26 Tryz.f214 (tg Q) 4 [(0,.l),(1,.l),(12,.i .i64),(13,.i .i64)] (fQ Q k):=bH λk h=>aS (ok 26) sA [aO h]
def Cl:=λa b c d e f w Q=>bB (rO a b c d e f w Q) (cond ((b:Int) !=(e:Int)) (Q false w) (∃k',fQ Q k' a b c d e f (b:Int) 0 w)) (ok 26) sA [cg (DM Q)] Tryz.func214
def Z0:=λa b c d e f w Q=>bB (EX a b c d e f w Q) (rO a b c d e f w λg w=>Q g w) (ok 8) [] [] Tryz.func181
def abJ:=λa w Q=>bB (su a w Q) (wA a λb=>af .u64 b w λc=>r9 c 1 w λd w=>wA a λe=>St e (.int .u64 d) w λw=>Q w) (ok 8) [] [] Tryz.func182
noncomputable def adT:cm:=[(1,sp 0 2 (sp 3 2 (.op 2 (.op 5 (.op 6 (.op 7 .done))))))]
def abK:=λa b c d e f w Q=>bB (Bo a b c d e f w Q) (Bx [.slice a b c,.slice d e f] 213 w λg w=>Al T 213 w λi w=>aA g w.drew λj l m=>aA (g.add 1) w.drew λn o p=>kQ j l m w.drew λq r s w=>w.cell? (g.add 1)=some (.slice n o p)/\kQ n o p w λt u v w=>St (i.add 0) (.slice q r s) w λw=>St (i.add 1) (.slice t u v) w λw=>aA (i.add 0) w λx y z=>aA (i.add 1) w λa1 b1 c1=>Q x y z a1 b1 c1 w) (ok 10) adT [] Tryz.func183
def C8 (P3:Int->Int->Int->Bool->L3 (Int->Int->WP))(Q:Int->WP)(a b:Int)(c:Addr)(d:OA)(e f:Nat)(g i:Int)(w:World):Prop:=af .i64 (c.add 2) w λj=>P3 a b j true d e f g (IntKind.wrap .i64 (i+1)) w
def zq (Q:Int->WP)(R3:Int->Int->Int->Bool->L3 (Int->Int->WP))(a b c:Int)(d:Bool)(e:OA)(f g:Nat)(i j:Int)(w:World):Prop:=cond (decide (j<i)) (aK j f<|wA e λl=>af .i64 ((l.add (j.toNat*3)).add 0) w λm=>af .i64 ((l.add (j.toNat*3)).add 1) w λn=>af .i64 ((l.add (j.toNat*3)).add 2) w λo=>Al T 294 w λp w=>St (p.add 0) (ae m) w λw=>St (p.add 1) (ae n) w λw=>St (p.add 2) (ae o) w λw=>af .i64 p w λq=>cond (q==a) (af .i64 (p.add 1) w λr=>cond (r==b) (cond (!d) (C8 R3 Q a b p e f g i j w) (af .i64 (p.add 2) w λs=>cond (decide (s<c)) (C8 R3 Q a b p e f g i j w) (R3 a b c d e f g i (IntKind.wrap .i64 (j+1)) w))) (R3 a b c d e f g i (IntKind.wrap .i64 (j+1)) w)) (R3 a b c d e f g i (IntKind.wrap .i64 (j+1)) w)) (Q c w)
def oE (Q:Int->WP):Nat->Int->Int->Int->Bool->L3 (Int->Int->WP)
 |0,_,_,_,_,_,_,_,_,_,_=>False
 |k+1,a,b,c,d,e,f,g,i,j,w=>zq Q (oE Q k) a b c d e f g i j w
def adU {P3}(Q)(H3:Bk 41 Tryz.f237 (CV Q) 3 [(1,.i .i64),(2,.i .i64),(7,.i .i64),(8,.b),(11,.l),(12,.i .i64),(13,.i .i64)] P3):Bk 41 Tryz.f237 (CV Q) 6 [(1,.i .i64),(2,.i .i64),(10,.a),(11,.l),(12,.i .i64),(13,.i .i64)] (C8 P3 Q):=aS (ok 41) [] [aO H3]
def adV (Q):∀k,Bk 41 Tryz.f237 (CV Q) 3 [(1,.i .i64),(2,.i .i64),(7,.i .i64),(8,.b),(11,.l),(12,.i .i64),(13,.i .i64)] (oE Q k):=bH λk h=>aS (ok 41) [] [aO h,aO (adU Q h)]
def Z1:=λa b c d e w Q=>bB (Ag a b c d e w Q) (∃k',oE Q k' d e 1099511627776 false a b c (b:Int) 0 w) (ok 41) [] [cg (adV Q)] Tryz.func237
def qL (Q:Int->WP)(a b c:Int)(w:World):Prop:=cond (b==3) (cond (decide (c>0)) (Q (IntKind.wrap .i64 (a-1)) w) (Q (-1) w)) (Q (-1) w)
def qM (Q:Int->WP)(a:OA)(b c d e:Int)(w:World):Prop:=cond (c==2) (wA a λf=>af .i64 (f.add 1) w λg=>cond (decide (e<(IntKind.wrap .i64 (g-1)))) (wA a λi=>af .i64 i w λj=>Q (IntKind.wrap .i64 (b+j)) w) (qL Q b c d w)) (qL Q b c d w)
def qN (Q:Int->WP)(a:OA)(b c d e:Int)(w:World):Prop:=cond (c==1) (wA a λf=>af .i64 f w λg=>cond (decide (d<(IntKind.wrap .i64 (g-1)))) (Q (IntKind.wrap .i64 (b+1)) w) (qM Q a b c d e w)) (qM Q a b c d e w)
noncomputable def uw:cm:=[(1,sp 0 14 (.op 14 (.op 15 .done)))]
def UQ (Q):Bk 81 Tryz.f277 (vL Q) 8 [(1,.i .i64),(2,.i .i64),(7,.i .i64)] (qL Q):=aS (ok 81) uw []
def UR (Q):Bk 81 Tryz.f277 (vL Q) 6 [(0,.p),(1,.i .i64),(2,.i .i64),(7,.i .i64),(8,.i .i64)] (qM Q):=aS (ok 81) uw [aO (UQ Q)]
def US (Q):Bk 81 Tryz.f277 (vL Q) 4 [(0,.p),(1,.i .i64),(2,.i .i64),(7,.i .i64),(8,.i .i64)] (qN Q):=aS (ok 81) uw [aO (UR Q)]
def QI:=λa b c w Q=>bB (y_ a b c w Q) (wA a λd=>af .i64 d w.drew λe=>NZ e<|wA a λf=>af .i64 f w.drew λg=>NZ g<|w.drew.cell? f=some (ae g)/\cond (c==0) (cond (decide ((IntKind.wrap .i64 (Int.tdiv b g))>0)) (wA a λi=>af .i64 i w.drew λj=>Q (IntKind.wrap .i64 (b-j)) w.drew) (qN Q a b c (Int.tmod b e) (IntKind.wrap .i64 (Int.tdiv b g)) w.drew)) (qN Q a b c (Int.tmod b e) (IntKind.wrap .i64 (Int.tdiv b g)) w.drew)) (ok 81) uw [aO (US Q)] Tryz.func277
noncomputable def V_:cm:=[(3,sp 0 6 (sp 7 7 (.op 6 (.op 14 (.op 15 .done))))),(4,sp 0 36 (.op 36 .done))]
def UT:=λa b c w Q=>bB (nH a b c w Q) (y_ a b c w λd w=>cond (decide (d<0)) (wA a λe=>aA (e.add 3) w.drew λf g i=>wA a λj=>aA (j.add 4) w.drew λl m n=>aK b m<|wA l λo=>af .i64 (o.add (b.toNat*1)) w.drew λp=>Ag f g i b c w.drew λq w=>w.cell? (o.add (b.toNat*1))=some (ae p)/\w.cell? (j.add 4)=some (.slice l m n)/\Q (q==p) w) (wA a λr=>aA (r.add 2) w.drew λs t u=>aK d t<|wA s λv=>af .u8 (v.add (d.toNat*1)) w.drew λx=>cond (x !=255) (wA a λy=>aA (y.add 2) w.drew λz a1 b1=>aK d a1<|wA z λc1=>af .u8 (c1.add (d.toNat*1)) w.drew λd1=>wA a λe1=>aA (e1.add 4) w.drew λf1 g1 i1=>aK d g1<|wA f1 λj1=>af .i64 (j1.add (d.toNat*1)) w.drew λl1=>wA a λm1=>aA (m1.add 4) w.drew λn1 o1 p1=>aK b o1<|wA n1 λq1=>af .i64 (q1.add (b.toNat*1)) w.drew λr1=>Q ((IntKind.wrap .i64 ((IntKind.wrap .i64 d1)+l1))==r1) w.drew) (Q false w.drew))) (ok 65) V_ [] Tryz.func263
def sB (Q:Int->WP)(a:OA)(b:Int)(w:World):Prop:=nH a b 3 w λc w=>cond c (Q 3 w) (Q 5 w)
def sC (Q:Int->WP)(a:OA)(b:Int)(w:World):Prop:=nH a b 2 w λc w=>cond c (Q 2 w) (sB Q a b w)
def ux (Q:Int->WP)(a:OA)(b:Int)(w:World):Prop:=nH a b 1 w λc w=>cond c (Q 1 w) (sC Q a b w)
def FE (Q):Bk 28 Tryz.f238 (uh Q) 12 [(0,.p),(1,.i .i64)] (sB Q):=aS (ok 28) [] []
def FF (Q):Bk 28 Tryz.f238 (uh Q) 10 [(0,.p),(1,.i .i64)] (sC Q):=aS (ok 28) [] [aO (FE Q)]
def SK (Q):Bk 28 Tryz.f238 (uh Q) 8 [(0,.p),(1,.i .i64)] (ux Q):=aS (ok 28) [] [aO (FF Q)]
def OY:=λa b c w Q=>bB (D0 a b c w Q) (cond (c==0) (nH a b 0 w λd w=>cond d (Q 0 w) (ux Q a b w)) (cond (c==1) (ux Q a b w) (cond (c==2) (sC Q a b w) (cond (c==3) (sB Q a b w) (Q 5 w))))) (ok 28) [] [aO (SK Q),aO (FF Q),aO (FE Q)] Tryz.func238
def SL:=λa b w Q=>bB (Ad a b w Q) (wA a λc=>aA (c.add 4) w λd e f=>aK b e<|wA d λg=>af .i64 (g.add (b.toNat*1)) w λi=>cond (i==1099511627776) (Q 5 w) (wA a λj=>aA (j.add 3) w λl m n=>Ag l m n b 4 w λo w=>cond (i==o) (Q 4 w) (D0 a b 0 w λp w=>Q p w))) (ok 25) [] [] Tryz.func217
def xq (Q:L3 (L3 (Int->WP)))(R7:Addr->Addr->Addr->Int->Int->WP)(a b c:Addr)(d e:Int)(w:World):Prop:=cond (decide (e<d)) (aA (c.add 1) w.drew λf g i=>Ad (some b) e w.drew λj w=>w.cell? (c.add 1)=some (.slice f g i)/\Bx [ae j] 3 w λl w=>w.cell? (c.add 1)=some (.slice f g i)/\App P #[29,29] 29 (.slice f g i) (.slice (some l) 1 1) w λm n o w=>St (c.add 1) (.slice m n o) w λw=>R7 a b c d (IntKind.wrap .i64 (e+1)) w) (aA (c.add 0) w λp q r=>aA (c.add 1) w λs t u=>St (a.add 0) (.slice p q r) w λw=>St (a.add 1) (.slice s t u) w λw=>aA (a.add 0) w λv x y=>aA (a.add 1) w λz a1 b1=>Q v x y z a1 b1 0 w)
def sD (Q:L3 (L3 (Int->WP))):Nat->Addr->Addr->Addr->Int->Int->WP
 |0,_,_,_,_,_,_=>False
 |k+1,a,b,c,d,e,w=>xq Q (sD Q k) a b c d e w
noncomputable def LH:cm:=[(9,sp 0 4 (.op 4 (.op 5 (.op 6 (.op 7 (.op 8 .done))))))]
def abL (Q):∀k,Bk 43 Tryz.f184 (NC Q) 7 [(4,.a),(8,.a),(9,.a),(29,.i .i64),(30,.i .i64)] (sD Q k):=bH λk h=>aS (ok 43) LH [aO h]
def Yi:=λa b c d e f g i w Q=>bB (DD a b c d e f g i w Q) (Bx [ae a,ae b,.slice c d e] 84 w λj w=>Al T 213 w λl w=>af .i64 (j.add 0) w λm=>af .i64 (j.add 1) w λn=>aA (j.add 2) w λo p q=>xg m n o p q f g i w λr s t u w=>cond (u !=0) (St (l.add 0) (.slice none 0 0) w λw=>St (l.add 1) (.slice none 0 0) w λw=>aA (l.add 0) w λv x y=>aA (l.add 1) w λz a1 b1=>Q v x y z a1 b1 u w) (af .i64 (j.add 0) w λc1=>af .i64 (j.add 1) w λd1=>aA (j.add 2) w λe1 f1 g1=>Bx [ae c1,ae d1,.slice e1 f1 g1,.slice f g i,.slice r s t] 340 w λi1 w=>Al T 213 w λj1 w=>St (j1.add 0) (.slice r s t) w λw=>St (j1.add 1) (.slice none 0 0) w λw=>∃k',sD Q k' l i1 j1 (s:Int) 0 w)) (ok 43) LH [cg (abL Q)] Tryz.func184
def Bc (Q:L3 (L3 (Int->WP)))(a:Addr)(w:World):Prop:=St (a.add 0) (.slice none 0 0) w λw=>St (a.add 1) (.slice none 0 0) w λw=>aA (a.add 0) w λb c d=>aA (a.add 1) w λe f g=>Q b c d e f g 1 w
def pQ (Q:L3 (L3 (Int->WP)))(a:OA)(b:Int)(c:OA)(d e:Nat)(f g i:Addr)(w:World):Prop:=wA a λj=>su (some ((j.add 2).add 2)) w λw=>af .i64 (f.add 0) w λl=>af .i64 (f.add 1) w λm=>aA (f.add 2) w λn o p=>DD l m n o p c d e w λq r s t u v x w=>Al T 213 w λy w=>St (y.add 0) (.slice q r s) w λw=>St (y.add 1) (.slice t u v) w λw=>aA (y.add 0) w.drew λz a1 b1=>aA (y.add 1) w.drew λc1 d1 e1=>ji c d e w.drew λf1 g1 i1 w=>w.cell? (y.add 0)=some (.slice z a1 b1)/\w.cell? (y.add 1)=some (.slice c1 d1 e1)/\St (i.add 0) (ae b) w λw=>St (i.add 1) (.slice f1 g1 i1) w λw=>St (i.add 2) (.slice z a1 b1) w λw=>St (i.add 3) (.slice c1 d1 e1) w λw=>aA (y.add 0) w λj1 l1 m1=>aA (y.add 1) w λn1 o1 p1=>Bo j1 l1 m1 n1 o1 p1 w λq1 r1 s1 t1 u1 v1 w=>St (g.add 0) (.slice q1 r1 s1) w λw=>St (g.add 1) (.slice t1 u1 v1) w λw=>aA (g.add 0) w λx1 y1 z1=>aA (g.add 1) w λa2 b2 c2=>Q x1 y1 z1 a2 b2 c2 0 w
def pR (Q:L3 (L3 (Int->WP)))(a:OA)(b:Int)(c:OA)(d e:Nat)(f g:Addr)(i:Bool)(j:Addr)(w:World):Prop:=cond i (wA a λl=>su (some ((l.add 2).add 5)) w λw=>pQ Q a b c d e f g j w) (pQ Q a b c d e f g j w)
def jm (Q:L3 (L3 (Int->WP)))(a:OA)(b:Int)(c:OA)(d e:Nat)(f g:Addr)(i j:Bool)(l:Addr)(w:World):Prop:=cond i (wA a λm=>su (some ((m.add 2).add 4)) w λw=>pR Q a b c d e f g j l w) (pR Q a b c d e f g j l w)
def qO (Q:L3 (L3 (Int->WP)))(a:OA)(b:Int)(c:OA)(d e:Nat)(f g:Addr)(i:Int)(j l:Bool)(w:World):Prop:=wA a λm=>aA (m.add 1) w λn o p=>aK i o<|wA n λq=>cond j (af .i64 (q.add (i.toNat*4)) w λr=>cond (r==b) (aA ((q.add (i.toNat*4)).add 1) w λs t u=>EX s t u c d e w λv w=>cond v (wA a λx=>su (some ((x.add 2).add 3)) w λw=>aA (((q.add (i.toNat*4)).add 2).add 0) w λy z a1=>aA (((q.add (i.toNat*4)).add 2).add 1) w λb1 c1 d1=>Bo y z a1 b1 c1 d1 w λe1 f1 g1 i1 j1 l1 w=>St (g.add 0) (.slice e1 f1 g1) w λw=>St (g.add 1) (.slice i1 j1 l1) w λw=>aA (g.add 0) w λm1 n1 o1=>aA (g.add 1) w λp1 q1 r1=>Q m1 n1 o1 p1 q1 r1 0 w) (jm Q a b c d e f g j l (q.add (i.toNat*4)) w)) (jm Q a b c d e f g j l (q.add (i.toNat*4)) w)) (jm Q a b c d e f g j l (q.add (i.toNat*4)) w)
noncomputable def mZ:cm:=[(16,sp 0 3 (.op 4 (.op 3 (sp 5 2 (.op 7 .done)))))]
def UU (Q):Bk 122 Tryz.f164 (nG Q) 2 [(12,.a)] (Bc Q):=aS (ok 122) mZ []
def SM (Q):Bk 122 Tryz.f164 (nG Q) 14 [(0,.p),(3,.i .i64),(5,.l),(10,.a),(12,.a),(17,.a)] (pQ Q):=aS (ok 122) mZ []
def SO (Q):Bk 122 Tryz.f164 (nG Q) 12 [(0,.p),(3,.i .i64),(5,.l),(10,.a),(12,.a),(16,.b),(17,.a)] (pR Q):=aS (ok 122) mZ [aO (SM Q)]
def SP (Q):Bk 122 Tryz.f164 (nG Q) 10 [(0,.p),(3,.i .i64),(5,.l),(10,.a),(12,.a),(15,.b),(16,.b),(17,.a)] (jm Q):=aS (ok 122) mZ [aO (SO Q)]
def UW (Q):Bk 122 Tryz.f164 (nG Q) 6 [(0,.p),(3,.i .i64),(5,.l),(10,.a),(12,.a),(14,.i .i64),(15,.b),(16,.b)] (qO Q):=aS (ok 122) mZ [aO (SP Q)]
def QJ:=λa b c d e f g i j l m n w Q=>bB (oo a b c d e f g i j l m n w Q) (Bx [ae e,ae f,.slice g i j] 84 w λo w=>Al T 213 w λp w=>cond a.isNone (Bc Q p w) (af .i64 (o.add 0) w λq=>af .i64 (o.add 1) w λr=>aA (o.add 2) w λs t u=>Bn q r s t u l m n w λv w=>cond (!v) (Bc Q p w) (wA a λx=>bp x w λy=>DC y b c w λz a1 b1 w=>wA a λc1=>aA (c1.add 1) w λd1 e1 f1=>cond (z==(e1:Int)) (wA a λg1=>aA (g1.add 1) w λi1 j1 l1=>Bx [ae 0,.slice none 0 0,.slice none 0 0,.slice none 0 0] 303 w λm1 w=>App P #[133,133] 133 (.slice i1 j1 l1) (.slice (some m1) 1 1) w λn1 o1 p1 w=>wA a λq1=>St (q1.add 1) (.slice n1 o1 p1) w λw=>qO Q a d l m n o p z a1 b1 w) (qO Q a d l m n o p z a1 b1 w)))) (ok 122) mZ [aO (UU Q),aO (UW Q)] Tryz.func164
def yD (Q:L3 (L3 (Value->WP)))(a:Int)(b:Addr)(w:World):Prop:=cw (aZ 2) w.drew λc=>dV c λd=>(Bx [ae a,d] 275 w.drew λe w=>St (b.add 0) (.slice none 0 0) w λw=>St (b.add 1) (.slice none 0 0) w λw=>w.cell? (aZ 2)=some c/\aA (b.add 0) w λf g i=>aA (b.add 1) w λj l m=>Q f g i j l m (.iface 273 (.pointer (some e))) w)/\(St (b.add 0) (.slice none 0 0) w.drew λw=>St (b.add 1) (.slice none 0 0) w λw=>w.cell? (aZ 2)=some c/\Bx [ae a,d] 275 w λn w=>aA (b.add 0) w λo p q=>aA (b.add 1) w λr s t=>Q o p q r s t (.iface 273 (.pointer (some n))) w)
def tD (Q:L3 (L3 (Value->WP)))(a:Int)(b:Addr)(w:World):Prop:=cw (aZ 3) w.drew λc=>dV c λd=>(Bx [ae a,d] 275 w.drew λe w=>St (b.add 0) (.slice none 0 0) w λw=>St (b.add 1) (.slice none 0 0) w λw=>w.cell? (aZ 3)=some c/\aA (b.add 0) w λf g i=>aA (b.add 1) w λj l m=>Q f g i j l m (.iface 273 (.pointer (some e))) w)/\(St (b.add 0) (.slice none 0 0) w.drew λw=>St (b.add 1) (.slice none 0 0) w λw=>w.cell? (aZ 3)=some c/\Bx [ae a,d] 275 w λn w=>aA (b.add 0) w λo p q=>aA (b.add 1) w λr s t=>Q o p q r s t (.iface 273 (.pointer (some n))) w)
def jH (Q:L3 (L3 (Value->WP)))(a:Int)(b c:Addr)(d:Int)(w:World):Prop:=cond (d !=0) (cw (aZ 4) w.drew λe=>dV e λf=>(Bx [ae a,f] 275 w.drew λg w=>St (b.add 0) (.slice none 0 0) w λw=>St (b.add 1) (.slice none 0 0) w λw=>w.cell? (aZ 4)=some e/\aA (b.add 0) w λi j l=>aA (b.add 1) w λm n o=>Q i j l m n o (.iface 273 (.pointer (some g))) w)/\(St (b.add 0) (.slice none 0 0) w.drew λw=>St (b.add 1) (.slice none 0 0) w λw=>w.cell? (aZ 4)=some e/\Bx [ae a,f] 275 w λp w=>aA (b.add 0) w λq r s=>aA (b.add 1) w λt u v=>Q q r s t u v (.iface 273 (.pointer (some p))) w)) (aA (c.add 0) w λx y z=>aA (c.add 1) w λa1 b1 c1=>St (b.add 0) (.slice x y z) w λw=>St (b.add 1) (.slice a1 b1 c1) w λw=>aA (b.add 0) w λd1 e1 f1=>aA (b.add 1) w λg1 i1 j1=>Q d1 e1 f1 g1 i1 j1 (.nilIface) w)
noncomputable def xu:cm:=[(2,sp 0 4 (.br (.op 4 (.op 5 (.op 6 (.op 7 .done)))) (.op 6 (.op 4 (.op 5 (.op 7 .done)))))),(5,sp 0 4 (.br (.op 4 (.op 5 (.op 6 (.op 7 .done)))) (.op 6 (.op 4 (.op 5 (.op 7 .done)))))),(6,sp 0 9 (.op 10 (.op 9 (.op 11 (.op 12 .done))))),(7,sp 0 11 (sp 12 2 (.br (.op 11 (.br (.op 14 (sp 15 3 (.op 18 (.op 19 (.op 20 .done))))) (.op 18 (.op 14 (sp 15 3 (.op 19 (.op 20 .done))))))) (.op 18 (.op 11 (.op 14 (sp 15 3 (.op 19 (.op 20 .done))))))))),(9,sp 0 4 (.br (.op 4 (.op 5 (.op 6 (.op 7 .done)))) (.op 6 (.op 4 (.op 5 (.op 7 .done))))))]
def Yj (Q):Bk 93 Tryz.f150 (yx Q) 2 [(1,.i .i64),(6,.a)] (yD Q):=aS (ok 93) xu []
def Yk (Q):Bk 93 Tryz.f150 (yx Q) 5 [(1,.i .i64),(6,.a)] (tD Q):=aS (ok 93) xu []
def Yl (Q):Bk 93 Tryz.f150 (yx Q) 8 [(1,.i .i64),(6,.a),(11,.a),(12,.i .i64)] (jH Q):=aS (ok 93) xu []
def UX:=λa b c w Q=>bB (vG a b c w Q) (Al T 213 w λd w=>cond a.isNone (yD Q b d w) (wA a λe=>bp e w λf=>cond f.isNone (yD Q b d w) (wA a λg=>bp g w λi=>tV i c w λj l m n o p w=>Al T 84 w λq w=>St (q.add 0) (ae j) w λw=>St (q.add 1) (ae l) w λw=>St (q.add 2) (.slice m n o) w λw=>wA a λr=>bp r w λs=>e9 s b w λt w=>cond (t==0) (tD Q b d w) (cond (!p) (tD Q b d w) (wA a λu=>bp u w.drew λv=>wA a λx=>bp (x.add 2) w.drew λy=>wv y b w.drew λz w=>w.cell? u=some (.pointer v)/\B4 v z c w λa1 b1 c1 w=>wA a λd1=>bp (d1.add 3) w.drew λe1=>wA a λf1=>bp f1 w.drew λg1=>af .i64 (q.add 0) w.drew λi1=>af .i64 (q.add 1) w.drew λj1=>aA (q.add 2) w.drew λl1 m1 n1=>(ja g1 c w.drew λo1 w=>w.cell? (q.add 0)=some (ae i1)/\w.cell? (q.add 1)=some (ae j1)/\w.cell? (q.add 2)=some (.slice l1 m1 n1)/\w.cell? (d1.add 3)=some (.pointer e1)/\(oo e1 b c o1 i1 j1 l1 m1 n1 a1 b1 c1 w λp1 q1 r1 s1 t1 u1 v1 w=>Al T 213 w λx1 w=>w.cell? (q.add 0)=some (ae i1)/\w.cell? (q.add 1)=some (ae j1)/\w.cell? (q.add 2)=some (.slice l1 m1 n1)/\w.cell? f1=some (.pointer g1)/\w.cell? (d1.add 3)=some (.pointer e1)/\St (x1.add 0) (.slice p1 q1 r1) w λw=>St (x1.add 1) (.slice s1 t1 u1) w λw=>jH Q b d x1 v1 w)/\(Al T 213 w λy1 w=>w.cell? (q.add 0)=some (ae i1)/\w.cell? (q.add 1)=some (ae j1)/\w.cell? (q.add 2)=some (.slice l1 m1 n1)/\w.cell? f1=some (.pointer g1)/\w.cell? (d1.add 3)=some (.pointer e1)/\oo e1 b c o1 i1 j1 l1 m1 n1 a1 b1 c1 w λz1 a2 b2 c2 d2 e2 f2 w=>St (y1.add 0) (.slice z1 a2 b2) w λw=>St (y1.add 1) (.slice c2 d2 e2) w λw=>jH Q b d y1 f2 w))/\(Al T 213 w.drew λg2 w=>w.cell? (q.add 0)=some (ae i1)/\w.cell? (q.add 1)=some (ae j1)/\w.cell? (q.add 2)=some (.slice l1 m1 n1)/\w.cell? f1=some (.pointer g1)/\w.cell? (d1.add 3)=some (.pointer e1)/\ja g1 c w λi2 w=>w.cell? (q.add 0)=some (ae i1)/\w.cell? (q.add 1)=some (ae j1)/\w.cell? (q.add 2)=some (.slice l1 m1 n1)/\w.cell? (d1.add 3)=some (.pointer e1)/\oo e1 b c i2 i1 j1 l1 m1 n1 a1 b1 c1 w λj2 l2 m2 n2 o2 p2 q2 w=>St (g2.add 0) (.slice j2 l2 m2) w λw=>St (g2.add 1) (.slice n2 o2 p2) w λw=>jH Q b d g2 q2 w)))))) (ok 93) xu [aO (Yj Q),aO (Yk Q),aO (Yl Q)] Tryz.func150
end Go.Proofs.YtmegplnmiepfbaaGreatDoor.S
